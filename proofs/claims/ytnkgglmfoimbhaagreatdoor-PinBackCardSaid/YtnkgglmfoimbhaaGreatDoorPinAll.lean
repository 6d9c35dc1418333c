/- The contracts of pin.decimal, pin.Right, pin.Account, pin.both; of pvv.Pick. -/
import Derived.Test.YtnkgglmfoimbhaaGreatDoorErr
/- The contracts of pin.decimal, pin.Account, cvv.wrong, digit.Equal. -/
namespace Go.Proofs.YtnkgglmfoimbhaaGreatDoor
open Go Go.RowKit Pr

theorem extract_one (s : ByteArray) (k : Nat) (h : k < s.size) : (s.extract k (k + 1)).data.toList = [s[k]] := by
  rw [Lib.extract_data]
  apply List.ext_getElem
  · simp; omega
  · intro i h1 h2
    have : i = 0 := by simpa using h2
    subst this
    simp [get_list s k h]

/-- what is wrong with decimal digits -/
def decEr (s : List UInt8) (lo hi : Nat) : Er := if s.length < lo ∨ hi < s.length then .no 2 else match badAt isDec s with | some k => .fa k 16 | none => .ok

theorem decimal_one (s : ByteArray) (k : Nat) (h : k < s.size) (w : World) :
    Calls Tryz.prog 95 #[.string (s.extract k (k + 1))] w fun e w' => e = .returned (.bool (isDec s[k])) ∧ w = w' := by
  have := decimal_any (s.extract k (k + 1)) (by simp; omega) w
  rw [extract_one s k h] at this
  simpa using this

set_option maxHeartbeats 1000000 in
theorem decimals_any (s : ByteArray) (hs : s.size ≤ 140737488351232) (lo hi : Nat) (_hlo : lo ≤ 100) (_hhi : hi ≤ 100) (w : World) :
    Calls Tryz.prog 73 #[.string s, .int .i64 lo, .int .i64 hi] w fun e w' => (∃ v, e = .returned v ∧ ErIs w' w.heap.size v (decEr s.data.toList lo hi)) ∧ Below w.heap.size w w' := by
  have hlist : s.data.toList.length = s.size := by simp
  by_cases hbad : s.size < lo ∨ hi < s.size
  · have hr : decEr s.data.toList lo hi = .no 2 := by unfold decEr; rw [if_pos (by rw [hlist]; exact hbad)]
    rw [hr]
    clear hr hlist
    by_cases h1 : s.size < lo
    · go_enter Tryz.func73, Tryz.ntmps73
      go_wp2
      go_ret
      exact ⟨⟨_, rfl, rfl⟩, Below.refl _ _⟩
    · have h2 : hi < s.size := by omega
      go_enter Tryz.func73, Tryz.ntmps73
      go_wp2
      go_ret
      exact ⟨⟨_, rfl, rfl⟩, Below.refl _ _⟩
  · have hr : decEr s.data.toList lo hi = match badAt isDec s.data.toList with | some k => .fa k 16 | none => .ok := by unfold decEr; rw [if_neg (by rw [hlist]; exact hbad)]
    have h1 : ¬ s.size < lo := by omega
    have h2 : ¬ hi < s.size := by omega
    have HR := Lib.hid hr; clear hr hbad hlist
    go_enter Tryz.func73, Tryz.ntmps73
    go_wp2
    go_loop [21] (fun i => ∃ k : Nat, k ≤ s.size ∧ i = .int .i64 k ∧ Hid (∀ j (h : j < k) (h' : j < s.size), isDec s[j] = true)) (fun i => s.size - (intOf i).toNat)
    case atStart => exact ⟨0, by omega, rfl, fun j h => by omega⟩
    case round =>
      obtain ⟨k, hk, rfl, hall⟩ := hrel
      by_cases hlt : k < s.size
      · have hd := fun W => decimal_one s k hlt W
        obtain ⟨c, hc⟩ : ∃ c, s[k] = c := ⟨_, rfl⟩
        simp only [hc] at hd
        have HC := Lib.hid hc; clear hc
        cases hcd : isDec c with
        | true =>
          rw [hcd] at hd
          have HD := Lib.hid hd; clear hd
          have HCD := Lib.hid hcd; clear hcd
          go_wp2_with (go_at_call 95; refine (HD.out _).mono ?_; rintro e w' ⟨rfl, rfl⟩)
          go_round
          case rel => exact ⟨k + 1, by omega, by go_num, fun j h h' => by
            by_cases e : j = k
            · subst e; rw [HC.out]; exact HCD.out
            · exact hall.out j (by omega) h'⟩
          case measure => simp [intOf]; omega
        | false =>
          rw [hcd] at hd
          have HD := Lib.hid hd; clear hd
          have hfin : badAt isDec s.data.toList = some k := badAt_some (k := k) (by simpa using hlt) (fun j hj => hall.out j hj (by omega)) (by show isDec s[k] = false; rw [HC.out]; exact hcd)
          rw [hfin] at HR
          clear hfin hcd
          go_wp2_with (go_at_call 95; refine (HD.out _).mono ?_; rintro e w' ⟨rfl, rfl⟩)
          go_ret
          rw [HR.out]
          exact ⟨⟨_, rfl, _, rfl, Nat.le_refl _, Blk.new _ _ _⟩, (Below.refl _ _).alloc (Nat.le_refl _) _⟩
      · have hfin : badAt isDec s.data.toList = none := badAt_none fun c hc => by
          obtain ⟨j, hj, rfl⟩ := List.getElem_of_mem hc
          have hj' : j < s.size := by simpa using hj
          exact hall.out j (by omega) hj'
        rw [hfin] at HR
        clear hfin
        go_wp2
        go_ret
        rw [HR.out]
        exact ⟨⟨_, rfl, rfl⟩, Below.refl _ _⟩

set_option maxHeartbeats 400000 in
theorem account_any (s : ByteArray) (hs : s.size ≤ 140737488351232) (w : World) :
    Calls Tryz.prog 39 #[.string s] w fun e w' => (∃ v, e = .returned v ∧ ErIs w' w.heap.size v (decEr s.data.toList 13 19)) ∧ Below w.heap.size w w' := by
  have H := Lib.hid (fun W => decimals_any s hs 13 19 (by omega) (by omega) W)
  go_enter Tryz.func39, Tryz.ntmps39
  go_wp2_with fail
  refine (H.out _).mono ?_
  rintro e w' ⟨⟨v, rfl, hv⟩, hb⟩
  go_wp2
  go_ret
  exact ⟨⟨_, rfl, hv⟩, hb⟩

set_option maxHeartbeats 400000 in
theorem right_pin (s : ByteArray) (hs : s.size ≤ 140737488351232) (w : World) :
    Calls Tryz.prog 38 #[.string s] w fun e w' => (∃ v, e = .returned v ∧ ErIs w' w.heap.size v (decEr s.data.toList 4 12)) ∧ Below w.heap.size w w' := by
  have H := Lib.hid (fun W => decimals_any s hs 4 12 (by omega) (by omega) W)
  go_enter Tryz.func38, Tryz.ntmps38
  go_wp2_with fail
  refine (H.out _).mono ?_
  rintro e w' ⟨⟨v, rfl, hv⟩, hb⟩
  go_wp2
  go_ret
  exact ⟨⟨_, rfl, hv⟩, hb⟩

/-- what is wrong with a PIN and an account -/
def bothEr (p a : List UInt8) : Er := match decEr p 4 12 with | .ok => decEr a 13 19 | e => e
set_option maxHeartbeats 1000000 in
theorem both_any (p a : ByteArray) (hp : p.size ≤ 140737488351232) (ha : a.size ≤ 140737488351232) (w : World) :
    Calls Tryz.prog 49 #[.string p, .string a] w fun e w' => (∃ v, e = .returned v ∧ ErIs w' w.heap.size v (bothEr p.data.toList a.data.toList)) ∧ Below w.heap.size w w' := by
  have HP := Lib.hid (fun W => right_pin p hp W)
  have HA := Lib.hid (fun W => account_any a ha W)
  have HE : Hid (bothEr p.data.toList a.data.toList = match decEr p.data.toList 4 12 with | .ok => decEr a.data.toList 13 19 | e => e) := rfl
  generalize bothEr p.data.toList a.data.toList = er at *
  generalize decEr p.data.toList 4 12 = ep at *
  generalize decEr a.data.toList 13 19 = ea at *
  cases ep with
  | no m =>
    go_enter Tryz.func49, Tryz.ntmps49
    go_wp2_with fail
    refine (HP.out _).mono ?_
    rintro e w1 ⟨⟨v, rfl, hv⟩, hb⟩
    obtain rfl : v = _ := hv
    go_wp2
    go_ret
    rw [HE.out]
    exact ⟨⟨_, rfl, rfl⟩, hb⟩
  | fa q m =>
    go_enter Tryz.func49, Tryz.ntmps49
    go_wp2_with fail
    refine (HP.out _).mono ?_
    rintro e w1 ⟨⟨v, rfl, hv⟩, hb⟩
    have hv' := hv
    obtain ⟨g, rfl, _⟩ := hv'
    go_wp2
    go_ret
    rw [HE.out]
    exact ⟨⟨_, rfl, hv⟩, hb⟩
  | ok =>
    go_enter Tryz.func49, Tryz.ntmps49
    go_wp2_with fail
    refine (HP.out _).mono ?_
    rintro e w1 ⟨⟨v, rfl, hv⟩, hb⟩
    obtain rfl : v = _ := hv
    go_wp2_with fail
    refine (HA.out _).mono ?_
    rintro e w2 ⟨⟨v, rfl, hv⟩, hb2⟩
    go_wp2
    go_ret
    rw [HE.out]
    exact ⟨⟨_, rfl, hv.more hb.size⟩, hb.trans (hb2.mono hb.size)⟩
end Go.Proofs.YtnkgglmfoimbhaaGreatDoor

/- The contract of pvv.Pick. -/
namespace Go.Proofs.YtnkgglmfoimbhaaGreatDoor
open Go Go.RowKit Pr

/-- two builders, one behind the other, from block B on -/
def TwoB (B : Nat) (w wr : World) (l1 l2 : List UInt8) : Prop :=
  ∃ R1 R2, Bld wr B R1 l1 ∧ Bld wr (B + 1) R2 l2 ∧ (∀ g, R1 = some g → B + 1 < g) ∧ (∀ g, R2 = some g → B + 1 < g) ∧ (∀ g, R1 = some g → R2 ≠ some g) ∧ Below B w wr ∧ B + 2 ≤ wr.heap.size

theorem TwoB.start (w : World) : TwoB w.heap.size w ((w.alloc (.cells #[.pointer none, .slice none 0 0] 72)).alloc (.cells #[.pointer none, .slice none 0 0] 72)) [] [] :=
  ⟨none, none, ⟨.pointer none, .slice none 0 0, .inl rfl, (Blk.new w _ _).alloc _, ⟨by rfl, .inl ⟨rfl, rfl⟩⟩, rfl, by simp, fun _ => rfl⟩,
    ⟨.pointer none, .slice none 0 0, .inl rfl, Blk.new2 w _ _ _, ⟨by rfl, .inl ⟨rfl, rfl⟩⟩, rfl, by simp, fun _ => rfl⟩, by simp, by simp, by simp,
    ((Below.refl _ _).alloc (Nat.le_refl _) _).alloc (by simp) _, by simp⟩

theorem TwoB.first {B : Nat} {w wr : World} {l1 l2 : List UInt8} (h : TwoB B w wr l1 l2) (hB : B ≤ w.heap.size) (c : UInt8) (x : Int) (hx : x = c.toNat) (hlen : l1.length + 1 ≤ 140737488355328) :
    Calls Tryz.prog 33 #[.pointer (some ⟨B, 0, none⟩), .int .u8 x] wr fun e w' => e = .returned .nilIface ∧ TwoB B w w' (l1 ++ [c]) l2 := by
  obtain ⟨R1, R2, h1, h2, g1, g2, g12, hb, hs⟩ := h
  refine (writeByte_any B R1 l1 c x hx wr h1 hlen).mono ?_
  rintro e w' ⟨rfl, A', hA', hat, hC⟩
  have h2' := h2.chg hC (by omega) (fun e => by have := g1 _ e.symm; omega) (fun e => by have := g2 _ e; omega) (fun g hg e => g12 g e hg)
  refine ⟨rfl, A', R2, hA', h2', ?_, g2, ?_, hC.below hb hB (Nat.le_refl _) (fun g hg => by have := g1 g hg; omega), by have := hC.size; omega⟩
  · intro g hg
    rcases hat with e | ⟨g', e, hg'⟩
    · exact g1 g (by rw [← e]; exact hg)
    · rw [e] at hg; injection hg with hg; omega
  · intro g hg e2
    rcases hat with e | ⟨g', e, hg'⟩
    · exact g12 g (by rw [← e]; exact hg) e2
    · rw [e] at hg; injection hg with hg; have := h2.row_lt e2; omega
theorem TwoB.second {B : Nat} {w wr : World} {l1 l2 : List UInt8} (h : TwoB B w wr l1 l2) (hB : B ≤ w.heap.size) (c : UInt8) (x : Int) (hx : x = c.toNat) (hlen : l2.length + 1 ≤ 140737488355328) :
    Calls Tryz.prog 33 #[.pointer (some ⟨B + 1, 0, none⟩), .int .u8 x] wr fun e w' => e = .returned .nilIface ∧ TwoB B w w' l1 (l2 ++ [c]) := by
  obtain ⟨R1, R2, h1, h2, g1, g2, g12, hb, hs⟩ := h
  refine (writeByte_any (B + 1) R2 l2 c x hx wr h2 hlen).mono ?_
  rintro e w' ⟨rfl, A', hA', hat, hC⟩
  have h1' := h1.chg hC (by omega) (fun e => by have := g2 _ e.symm; omega) (fun e => by have := g1 _ e; omega) (fun g hg e => g12 g hg e)
  refine ⟨rfl, R1, A', h1', hA', g1, ?_, ?_, hC.below hb hB (by omega) (fun g hg => by have := g2 g hg; omega), by have := hC.size; omega⟩
  · intro g hg
    rcases hat with e | ⟨g', e, hg'⟩
    · exact g2 g (by rw [← e]; exact hg)
    · rw [e] at hg; injection hg with hg; omega
  · intro g hg e2
    rcases hat with e | ⟨g', e, hg'⟩
    · exact g12 g hg (by rw [← e]; exact e2)
    · rw [e] at e2; injection e2 with e2; have := h1.row_lt hg; omega
theorem TwoB.str1 {B : Nat} {w wr : World} {l1 l2 : List UInt8} (h : TwoB B w wr l1 l2) (hB : B ≤ w.heap.size) :
    Calls Tryz.prog 34 #[.pointer (some ⟨B, 0, none⟩)] wr fun e w' => e = .returned (.string ⟨l1.toArray⟩) ∧ (∃ R2, Bld w' (B + 1) R2 l2 ∧ (∀ g, R2 = some g → B + 1 < g)) ∧ Below B w w' := by
  obtain ⟨R1, R2, h1, h2, g1, g2, g12, hb, hs⟩ := h
  refine (bldString_any B R1 l1 wr h1).mono ?_
  rintro e w' ⟨rfl, hC, _⟩
  exact ⟨rfl, ⟨R2, h2.chg hC (by omega) (fun e => by have := g1 _ e.symm; omega) (fun e => by have := g2 _ e; omega) (fun g hg e => g12 g e hg), g2⟩, hC.below hb hB (Nat.le_refl _) (fun g hg => by have := g1 g hg; omega)⟩

def pickEr (s : List UInt8) (n : Int) : Er := match badAt isHex s with | some k => .fa k 16 | none => if n < 0 ∨ (s.length : Int) < n then .no 2 else .ok

def pickStr (s : List UInt8) (n : Int) : List UInt8 := match pickEr s n with | .ok => (pickL s).take n.toNat | _ => []
def pickV (s : List UInt8) (n : Int) : Value := .string ⟨(pickStr s n).toArray⟩
theorem pickV_no {s : List UInt8} {n : Int} {k : Nat} (h : pickEr s n = .no k) : pickV s n = .string ⟨#[]⟩ := by unfold pickV pickStr; rw [h]
theorem pickV_fa {s : List UInt8} {n p : Int} {k : Nat} (h : pickEr s n = .fa p k) : pickV s n = .string ⟨#[]⟩ := by unfold pickV pickStr; rw [h]
theorem pickV_ok {s D L : List UInt8} {m : Nat} (h : pickEr s m = .ok) (hp : pickL s = D ++ L) (_hm : m ≤ D.length + L.length) : Value.string ((⟨(D ++ L).toArray⟩ : ByteArray).extract 0 m) = pickV s m := by
  unfold pickV pickStr
  rw [h, hp]
  congr 1
  apply ByteArray.ext
  apply Array.toList_inj.1
  rw [Lib.extract_data]
  simp
theorem cat_bytes (D L : List UInt8) : ((⟨D.toArray⟩ : ByteArray) ++ (⟨L.toArray⟩ : ByteArray)) = ⟨(D ++ L).toArray⟩ := by
  apply ByteArray.ext
  simp

set_option maxHeartbeats 2000000 in
set_option maxRecDepth 100000 in
theorem pick_any (s : ByteArray) (hs : s.size ≤ 140737488351232) (n : Int) (w : World) :
    Calls Tryz.prog 10 #[.string s, .int .i64 n] w fun e w' => (∃ v, e = .returned (.tuple #[pickV s.data.toList n, v]) ∧ ErIs w' w.heap.size v (pickEr s.data.toList n)) ∧ Below w.heap.size w w' := by
  have hlist : s.data.toList.length = s.size := by simp
  have HLL := Lib.hid hlist; clear hlist
  go_enter Tryz.func10, Tryz.ntmps10
  go_wp2
  go_loopw [12] (fun i wr => ∃ k : Nat, k ≤ s.size ∧ i = .int .i64 k ∧ TwoB w.heap.size w wr (decsL (s.data.toList.take k)) (lowsL (s.data.toList.take k)) ∧ Hid (∀ j (h : j < k) (h' : j < s.size), isHex s[j] = true)) (fun i _ => s.size - (intOf i).toNat)
  case atStart => exact ⟨0, by omega, rfl, TwoB.start w, fun j h => by omega⟩
  case round =>
    obtain ⟨k, hk, rfl, hT, hall⟩ := hrel
    by_cases hlt : k < s.size
    · have hkl : k < s.data.toList.length := by rw [HLL.out]; exact hlt
      have hl1 := decsL_len (s.data.toList.take k)
      have hl2 := lowsL_len (s.data.toList.take k)
      have htk : (s.data.toList.take k).length ≤ k := List.length_take_le _ _
      have hsd := decsL_snoc (s.data.toList.take k) s[k]
      have hsl := lowsL_snoc (s.data.toList.take k) s[k]
      rw [← get_list s k hlt, ← List.take_succ_eq_append_getElem hkl, get_list s k hlt] at hsd hsl
      obtain ⟨D, hD⟩ : ∃ D, decsL (s.data.toList.take k) = D := ⟨_, rfl⟩
      obtain ⟨L, hL⟩ : ∃ L, lowsL (s.data.toList.take k) = L := ⟨_, rfl⟩
      rw [hD] at hsd hT hl1
      rw [hL] at hsl hT hl2
      clear hD hL
      have i1 := index_str (P := Tryz.prog) 9 Tryz.underlying9 s k hlt k rfl _ rfl
      have x1 := fun W => Tryz.strings_IndexByte dig16 (s[k].toNat : Int) W
      obtain ⟨c, hc⟩ : ∃ c, s[k] = c := ⟨_, rfl⟩
      rw [hc] at i1 x1 hsd hsl
      have hcc : ((c.toNat : Int)).toNat.toUInt8 = c := by simp
      rw [hcc, dig16_list] at x1
      have HC := Lib.hid hc; clear hc hcc
      cases hhex : isHex c with
      | false =>
        rw [indexByte_nodig c hhex] at x1
        unfold dig16 at x1
        have X1 := Lib.hid x1; clear x1
        have hfin : pickEr s.data.toList n = .fa k 16 := by
          unfold pickEr
          rw [badAt_some (k := k) hkl (fun j hj => hall.out j hj (by omega)) (by show isHex s[k] = false; rw [HC.out]; exact hhex)]
        have HF := Lib.hid hfin
        clear hfin hsd hsl hhex
        obtain ⟨R1, R2, _, _, _, _, _, hb, hsz⟩ := hT
        go_wp2_with (go_at_call 32; refine (X1.out _).mono ?_; rintro e w' ⟨rfl, rfl⟩)
        go_ret2
        rw [HF.out, pickV_fa HF.out]
        exact ⟨⟨_, rfl, _, rfl, (by omega), Blk.new _ _ _⟩, hb.alloc (by omega) _⟩
      | true =>
        rw [indexByte_digs c hhex] at x1
        unfold dig16 at x1
        have X1 := Lib.hid x1; clear x1
        cases hdec : isDec c with
        | true =>
          have hv := hexv_dec c hdec
          rw [hdec] at hsd hsl
          simp only [if_true] at hsd hsl
          have HSD := Lib.hid hsd; clear hsd
          have HSL := Lib.hid hsl; clear hsl
          have HX := Lib.hid hhex; clear hhex hdec
          have HW := Lib.hid (hT.first (Nat.le_refl _) c c.toNat rfl (by omega))
          generalize hexv c = z at *
          go_wp2_with (first | (go_at_call 32; refine (X1.out _).mono ?_; rintro e w' ⟨rfl, rfl⟩) | (go_at_call 33; refine (HW.out).mono ?_; rintro e w' ⟨rfl, hT'⟩))
          go_roundw
          case rel => exact ⟨k + 1, by omega, by go_num, by rw [HSD.out, HSL.out]; exact hT', fun j h h' => by
            by_cases e : j = k
            · subst e; rw [HC.out]; exact HX.out
            · exact hall.out j (by omega) h'⟩
          case measure => simp [intOf]; omega
        | false =>
          have hv := hexv_alpha c hhex hdec
          have hlv := lowd_val c hhex hdec
          rw [hdec] at hsd hsl
          simp only [Bool.false_eq_true, if_false] at hsd hsl
          have HSD := Lib.hid hsd; clear hsd
          have HSL := Lib.hid hsl; clear hsl
          have HX := Lib.hid hhex; clear hhex hdec
          have HW := Lib.hid (hT.second (Nat.le_refl _) (lowd c) (48 + (hexv c : Int) - 10) (by rw [hlv]; omega) (by omega))
          generalize hexv c = z at *
          have HLV := Lib.hid hlv; clear hlv
          go_wp2_with (first | (go_at_call 32; refine (X1.out _).mono ?_; rintro e w' ⟨rfl, rfl⟩))
          refine (HW.out).mono ?_
          rintro e w2 ⟨rfl, hT'⟩
          go_wp2
          go_roundw
          case rel => exact ⟨k + 1, by omega, by go_num, by rw [HSD.out, HSL.out]; exact hT', fun j h h' => by
            by_cases e : j = k
            · subst e; rw [HC.out]; exact HX.out
            · exact hall.out j (by omega) h'⟩
          case measure => simp [intOf]; omega
    · have hbad : badAt isHex s.data.toList = none := badAt_none fun c hc => by
        obtain ⟨j, hj, rfl⟩ := List.getElem_of_mem hc
        have hj' : j < s.size := by simpa using hj
        exact hall.out j (by omega) hj'
      have htk : s.data.toList.take k = s.data.toList := List.take_of_length_le (by rw [HLL.out]; omega)
      rw [htk] at hT
      clear htk
      by_cases hn0 : n < 0
      · have hfin : pickEr s.data.toList n = .no 2 := by unfold pickEr; rw [hbad]; simp only; rw [if_pos (.inl hn0)]
        have HF := Lib.hid hfin; clear hfin hbad
        obtain ⟨R1, R2, _, _, _, _, _, hb, hsz⟩ := hT
        go_wp2
        go_ret2
        rw [HF.out, pickV_no HF.out]
        exact ⟨⟨_, rfl, rfl⟩, hb⟩
      · by_cases hn1 : (s.size : Int) < n
        · have hfin : pickEr s.data.toList n = .no 2 := by unfold pickEr; rw [hbad]; simp only; rw [if_pos (.inr (by rw [HLL.out]; exact hn1))]
          have HF := Lib.hid hfin; clear hfin hbad
          obtain ⟨R1, R2, _, _, _, _, _, hb, hsz⟩ := hT
          go_wp2
          go_ret2
          rw [HF.out, pickV_no HF.out]
          exact ⟨⟨_, rfl, rfl⟩, hb⟩
        · have hfin : pickEr s.data.toList n = .ok := by unfold pickEr; rw [hbad]; simp only; rw [if_neg (by rw [HLL.out]; omega)]
          have HF := Lib.hid hfin; clear hfin hbad
          obtain ⟨m, rfl⟩ := Int.eq_ofNat_of_zero_le (by omega : 0 ≤ n)
          have hpl : (decsL s.data.toList).length + (lowsL s.data.toList).length = s.size := by
            have := pickL_len s.data.toList
            unfold pickL at this
            rw [List.length_append, HLL.out] at this
            exact this
          have HPL : Hid (pickL s.data.toList = decsL s.data.toList ++ lowsL s.data.toList) := rfl
          obtain ⟨D, hD⟩ : ∃ D, decsL s.data.toList = D := ⟨_, rfl⟩
          obtain ⟨L, hL⟩ : ∃ L, lowsL s.data.toList = L := ⟨_, rfl⟩
          rw [hD, hL] at hpl hT
          rw [hD, hL] at HPL
          clear hD hL
          have HPL2 := Lib.hid hpl; clear hpl
          have hmle : m ≤ s.size := by omega
          go_wp2_with fail
          refine (hT.str1 (Nat.le_refl _)).mono ?_
          rintro e w1 ⟨rfl, ⟨R2, hR2, hg2⟩, hb1⟩
          go_wp2_with fail
          refine (bldString_any _ R2 L w1 hR2).mono ?_
          rintro e w2 ⟨rfl, hC2, _⟩
          have hb2 := hC2.below hb1 (Nat.le_refl _) (by omega) (fun g hg => by have := hg2 g hg; omega)
          have hcat := cat_bytes D L
          have hm2 : m ≤ D.length + L.length := by have := HPL2.out; omega
          have hm3 : (m : Int) ≤ (D.length : Int) + (L.length : Int) := by omega
          have hm4 : D.length + L.length ≤ 140737488351232 := by have := HPL2.out; omega
          have hm5 : (D.length : Int) + (L.length : Int) ≤ 140737488351232 := by omega
          have hsz9 : (D ++ L).length = D.length + L.length := List.length_append
          go_wp2
          go_ret2
          rw [HF.out, ← pickV_ok HF.out HPL.out hm2]
          exact ⟨⟨_, rfl, rfl⟩, hb2⟩
end Go.Proofs.YtnkgglmfoimbhaaGreatDoor
