/- The contracts of pin.read, pin.Open. -/
import Derived.Test.YtnkgglmfoimbhaaGreatDoorPinC
import Derived.Maps.StringElems
import Derived.Maps.OwnOps
namespace Go.Proofs.YtnkgglmfoimbhaaGreatDoor
open Go Go.RowKit Pr

def readEr (l : List Nat) (f : Nat) : Er := match readAt l f with | some i => .fa i 6 | none => .ok
def readStr (l : List Nat) (f : Nat) : List UInt8 := match readAt l f with | some _ => [] | none => readV l

set_option maxHeartbeats 400000 in
theorem readWrong_any (p : Int) (w : World) :
    Calls Tryz.prog 81 #[.int .i64 p] w fun e w' => e = .returned (.tuple #[.string ⟨#[]⟩, .iface 74 (.pointer (some ⟨w.heap.size, 0, none⟩))]) ∧ w.alloc (.cells #[.int .i64 p, .iface 75 (.int .i64 6)] 77) = w' := by
  go_enter Tryz.func81, Tryz.ntmps81
  go_wp2
  go_ret2
  exact ⟨rfl, rfl⟩

theorem hexd_nat (n : Nat) (h : n < 16) : (hexd n).toNat = if n < 10 then 48 + n else 55 + n := by
  have : ∀ n < 16, (hexd n).toNat = if n < 10 then 48 + n else 55 + n := by decide +kernel
  exact this n h
def digs13 : List UInt8 := [48, 49, 50, 51, 52, 53, 54, 55, 56, 57, 65, 66, 67]
theorem index13 (n : Nat) (h : n < 16) : Lib.indexByte digs13 (hexd n) = if n < 13 then (n : Int) else -1 := by
  have : ∀ n < 16, Lib.indexByte digs13 (hexd n) = if n < 13 then (n : Int) else -1 := by decide +kernel
  exact this n h
theorem index10 (n : Nat) (h : n < 16) : isIn (digs.take 10) (hexd n) = !decide (9 < n) := by
  have : ∀ n < 16, isIn (digs.take 10) (hexd n) = !decide (9 < n) := by decide +kernel
  exact this n h
theorem map_get (l : List Nat) (k : Nat) (h : k < l.length) (s : ByteArray) (hs : s = str (l.map hexd)) : ∃ hk : k < s.size, s[k] = hexd (l.getD k 0) := by
  subst hs
  have hk : k < (str (l.map hexd)).size := by rw [str_size, List.length_map]; exact h
  refine ⟨hk, ?_⟩
  rw [← get_list _ k hk]
  simp only [str_list, List.getElem_map]
  rw [getD_of l k h]
theorem readAt_loop {l : List Nat} {f : Nat} (h0 : l.getD 0 0 = f) (h1 : 4 ≤ l.getD 1 0) (h2 : l.getD 1 0 ≤ 12) : readAt l f = firstD f l 2 14 := by
  unfold readAt
  rw [if_neg (by simp only [ne_eq, Classical.not_not]; exact h0), if_neg (by omega)]

set_option maxHeartbeats 2000000 in
set_option maxRecDepth 100000 in
theorem read_any (l : List Nat) (hl : 16 ≤ l.length) (hl2 : l.length ≤ 1000) (hlt : ∀ c ∈ l, c < 16) (f : Nat) (hf : f < 10) (F : ByteArray) (hF : ∀ c, c < 16 → isIn F.data.toList (hexd c) = !noD f c) (w : World) :
    Calls Tryz.prog 53 #[.string (str (l.map hexd)), .int .i64 f, .string F] w fun e w' =>
      (∃ v, e = .returned (.tuple #[.string (str (readStr l f)), v]) ∧ ErIs w' w.heap.size v (readEr l f)) ∧ Below w.heap.size w w' := by
  obtain ⟨s, hs⟩ : ∃ s, str (l.map hexd) = s := ⟨_, rfl⟩
  rw [hs]
  have hsz : s.size = l.length := by rw [← hs, str_size, List.length_map]
  obtain ⟨k0, g0⟩ := map_get l 0 (by omega) s hs.symm
  obtain ⟨k1, g1⟩ := map_get l 1 (by omega) s hs.symm
  have hget := Lib.hid (fun k (h : k < l.length) => map_get l k h s hs.symm)
  have d0 := getD_lt16 l hlt 0
  have d1 := getD_lt16 l hlt 1
  have i0 := index_str (P := Tryz.prog) 9 Tryz.underlying9 s 0 k0 0 rfl _ rfl
  have i1 := index_str (P := Tryz.prog) 9 Tryz.underlying9 s 1 k1 1 rfl _ rfl
  rw [g0] at i0
  rw [g1] at i1
  clear g0 g1
  have hdef : readEr l f = match readAt l f with | some i => .fa i 6 | none => .ok := rfl
  have hdef2 : readStr l f = match readAt l f with | some _ => [] | none => readV l := rfl
  have hx0 := hexd_nat _ d0
  by_cases h0 : l.getD 0 0 = f
  · have t0 : ((((hexd (l.getD 0 0)).toNat : Nat) : Int) != 48 + (f : Int)) = false := by rw [bne_eq_false_iff_eq, hx0, h0, if_pos hf]; omega
    have hix := fun W => Tryz.strings_IndexByte ⟨#[48, 49, 50, 51, 52, 53, 54, 55, 56, 57, 65, 66, 67]⟩ (((hexd (l.getD 1 0)).toNat : Nat) : Int) W
    have hcc : ((((hexd (l.getD 1 0)).toNat : Nat) : Int)).toNat.toUInt8 = hexd (l.getD 1 0) := by simp
    have hdl : (⟨#[48, 49, 50, 51, 52, 53, 54, 55, 56, 57, 65, 66, 67]⟩ : ByteArray).data.toList = digs13 := rfl
    rw [hcc, hdl, index13 _ d1] at hix
    clear hcc hdl
    by_cases h1 : 4 ≤ l.getD 1 0 ∧ l.getD 1 0 ≤ 12
    · rw [readAt_loop h0 h1.1 h1.2] at hdef hdef2
      rw [if_pos (by omega)] at hix
      have hres : (∃ k, firstD f l 2 14 = some k) ∨ firstD f l 2 14 = none := by cases firstD f l 2 14 with | none => exact .inr rfl | some k => exact .inl ⟨k, rfl⟩
      have hb : ∀ k, badD f (l.getD 1 0) k (l.getD k 0) = if k < 2 + l.getD 1 0 then decide (9 < l.getD k 0) else noD f (l.getD k 0) := fun k => rfl
      have hstep : ∀ k m, firstD f l k (m + 1) = if badD f (l.getD 1 0) k (l.getD k 0) then some k else firstD f l (k + 1) m := fun k m => rfl
      have hrv : readV l = ((l.map hexd).drop 2).take (l.getD 1 0) := by unfold readV; rw [List.map_take, List.map_drop]
      clear i1 hx0
      have i1 := index_str (P := Tryz.prog) 9 Tryz.underlying9 s 1 k1 1 rfl _ rfl
      rw [show s[1] = hexd (l.getD 1 0) from (map_get l 1 (by omega) s hs.symm).2] at i1
      generalize l.getD 1 0 = n at *
      obtain ⟨n4, n12⟩ := h1
      have hcut : s.extract 2 (2 + n) = str (readV l) := by
        rw [← hs, str_extract, hrv]
        congr 2
        omega
      generalize (((hexd (l.getD 0 0)).toNat : Nat) : Int) = x0 at *
      generalize (((hexd n).toNat : Nat) : Int) = x1 at *
      have HIX := Lib.hid hix; clear hix
      have HD := Lib.hid hdef; clear hdef
      have HD2 := Lib.hid hdef2; clear hdef2
      have HB := Lib.hid hb; clear hb
      have HST := Lib.hid hstep; clear hstep
      have HF := Lib.hid hF; clear hF
      have HLT := Lib.hid (fun i => getD_lt16 l hlt i)
      have HL := Lib.hid hl
      have HCUT := Lib.hid hcut; clear hcut
      have HSZ := Lib.hid hsz
      have hsz' : 16 ≤ s.size := by omega
      have hw48 : IntKind.u8.wrap (48 + (f : Int)) = 48 + (f : Int) := by simp [IntKind.wrap, IntKind.bits, IntKind.signed]; omega
      have hsz2 : s.size ≤ 1000 := by omega
      clear hs hsz hl hl2 hlt hres hrv h0 d0 d1 k0 k1
      go_enter Tryz.func53, Tryz.ntmps53
      go_wp2_with (go_at_call 32; refine (HIX.out _).mono ?_; rintro e w' ⟨rfl, rfl⟩)
      go_loop [10] (fun i => ∃ k : Nat, 2 ≤ k ∧ k ≤ 16 ∧ i = .int .i64 k ∧ Hid (firstD f l 2 14 = firstD f l k (16 - k))) (fun i => 16 - (intOf i).toNat)
      case atStart => exact ⟨2, by omega, by omega, rfl, rfl⟩
      case round =>
        obtain ⟨k, hk2, hk, rfl, hfd⟩ := hrel
        by_cases hlt : k < 16
        · obtain ⟨hks, hg⟩ := hget.out k (Nat.lt_of_lt_of_le hlt HL.out)
          have ik := index_str (P := Tryz.prog) 9 Tryz.underlying9 s k hks k rfl _ rfl
          rw [hg] at ik
          have hc := HLT.out k
          have hbk := HB.out k
          have hsk := HST.out k (15 - k)
          have hFk := HF.out _ hc
          have h10 := index10 _ hc
          have hcc : ((((hexd (l.getD k 0)).toNat : Nat) : Int)).toNat.toUInt8 = hexd (l.getD k 0) := by simp
          have hi1 := fun W => Tryz.strings_IndexByte F (((hexd (l.getD k 0)).toNat : Nat) : Int) W
          have hi2 := fun W => Tryz.strings_IndexByte ⟨#[48, 49, 50, 51, 52, 53, 54, 55, 56, 57]⟩ (((hexd (l.getD k 0)).toNat : Nat) : Int) W
          rw [hcc] at hi1 hi2
          rw [show (⟨#[48, 49, 50, 51, 52, 53, 54, 55, 56, 57]⟩ : ByteArray).data.toList = digs.take 10 from rfl] at hi2
          rw [show 15 - k + 1 = 16 - k by omega] at hsk
          rw [hbk] at hsk
          unfold isIn at hFk h10
          generalize Lib.indexByte F.data.toList (hexd (l.getD k 0)) = z1 at *
          generalize Lib.indexByte (digs.take 10) (hexd (l.getD k 0)) = z2 at *
          generalize ((((hexd (l.getD k 0)).toNat : Nat) : Int)) = y at *
          generalize noD f (l.getD k 0) = nd at *
          generalize decide (9 < l.getD k 0) = nn at *
          have HI1 := Lib.hid hi1; clear hi1
          have HI2 := Lib.hid hi2; clear hi2
          clear hbk hc hcc hg
          by_cases hkn : k < 2 + n
          · have hkn' : (k : Int) < 2 + n := by omega
            rw [if_pos hkn] at hsk
            clear hFk
            cases nn with
            | true =>
              have hz : z2 < 0 := by simpa using h10
              have hfin : firstD f l 2 14 = some k := by rw [hfd.out, hsk, if_pos rfl]
              have hE := HD.out
              have hS := HD2.out
              rw [hfin] at hE hS
              have HE := Lib.hid hE; clear hE
              have HS := Lib.hid hS; clear hS
              clear hfin hsk h10
              go_wp2_with (first
                | (go_at_call 32; refine (HI2.out _).mono ?_; rintro e w' ⟨rfl, rfl⟩)
                | (go_at_call 81; refine (readWrong_any _ _).mono ?_; rintro e w' ⟨rfl, rfl⟩))
              go_ret2
              rw [HE.out, HS.out]
              exact ⟨⟨_, rfl, _, rfl, Nat.le_refl _, Blk.new _ _ _⟩, (Below.refl _ _).alloc (Nat.le_refl _) _⟩
            | false =>
              have hz : ¬ z2 < 0 := by simpa using h10
              have hnx : firstD f l 2 14 = firstD f l (k + 1) (16 - (k + 1)) := by rw [hfd.out, hsk, if_neg (by simp), show 16 - (k + 1) = 15 - k by omega]
              have HNX := Lib.hid hnx; clear hnx hsk h10
              go_wp2_with (first
                | (go_at_call 32; refine (HI2.out _).mono ?_; rintro e w' ⟨rfl, rfl⟩))
              go_round
              case rel => exact ⟨k + 1, by omega, by omega, by go_num, HNX⟩
              case measure => simp [intOf]; omega
          · have hkn' : ¬ (k : Int) < 2 + n := by omega
            rw [if_neg hkn] at hsk
            clear h10
            cases nd with
            | true =>
              have hz : z1 < 0 := by simpa using hFk
              have hfin : firstD f l 2 14 = some k := by rw [hfd.out, hsk, if_pos rfl]
              have hE := HD.out
              have hS := HD2.out
              rw [hfin] at hE hS
              have HE := Lib.hid hE; clear hE
              have HS := Lib.hid hS; clear hS
              clear hfin hsk hFk
              go_wp2_with (first
                | (go_at_call 32; refine (HI1.out _).mono ?_; rintro e w' ⟨rfl, rfl⟩)
                | (go_at_call 81; refine (readWrong_any _ _).mono ?_; rintro e w' ⟨rfl, rfl⟩))
              go_ret2
              rw [HE.out, HS.out]
              exact ⟨⟨_, rfl, _, rfl, Nat.le_refl _, Blk.new _ _ _⟩, (Below.refl _ _).alloc (Nat.le_refl _) _⟩
            | false =>
              have hz : ¬ z1 < 0 := by simpa using hFk
              have hnx : firstD f l 2 14 = firstD f l (k + 1) (16 - (k + 1)) := by rw [hfd.out, hsk, if_neg (by simp), show 16 - (k + 1) = 15 - k by omega]
              have HNX := Lib.hid hnx; clear hnx hsk hFk
              go_wp2_with (first
                | (go_at_call 32; refine (HI1.out _).mono ?_; rintro e w' ⟨rfl, rfl⟩))
              go_round
              case rel => exact ⟨k + 1, by omega, by omega, by go_num, HNX⟩
              case measure => simp [intOf]; omega
        · obtain rfl : k = 16 := by omega
          have hfin : firstD f l 2 14 = none := by rw [hfd.out]; rfl
          have hE := HD.out
          have hS := HD2.out
          rw [hfin] at hE hS
          have HE := Lib.hid hE; clear hE
          have HS := Lib.hid hS; clear hS
          clear hfin
          have hcn : ¬ (s.size : Int) < 2 + n := by omega
          have e1 : (2 + (n : Int)).toNat = 2 + n := by omega
          go_wp2
          clear e1
          go_ret2
          rw [HE.out, HS.out, ← HCUT.out]
          exact ⟨⟨_, rfl, rfl⟩, Below.refl _ _⟩
    · have hE : readEr l f = .fa 1 6 := by
        rw [hdef]
        unfold readAt
        rw [if_neg (by simp only [ne_eq, Classical.not_not]; exact h0), if_pos (by omega)]
        rfl
      have hS : readStr l f = [] := by
        rw [hdef2]
        unfold readAt
        rw [if_neg (by simp only [ne_eq, Classical.not_not]; exact h0), if_pos (by omega)]
      rw [hE, hS]
      obtain ⟨z, hz⟩ : ∃ z : Int, (if l.getD 1 0 < 13 then ((l.getD 1 0 : Nat) : Int) else -1) = z := ⟨_, rfl⟩
      have hz4 : z < 4 := by rw [← hz]; split <;> omega
      rw [hz] at hix
      clear hz hE hS hdef hdef2 hx0 h1
      have hsz' : 16 ≤ s.size := by omega
      have hw48 : IntKind.u8.wrap (48 + (f : Int)) = 48 + (f : Int) := by simp [IntKind.wrap, IntKind.bits, IntKind.signed]; omega
      generalize (((hexd (l.getD 0 0)).toNat : Nat) : Int) = x0 at *
      generalize (((hexd (l.getD 1 0)).toNat : Nat) : Int) = x1 at *
      have HIX := Lib.hid hix; clear hix
      clear hs hsz hl hlt h0 d0 d1 k0 k1 hF
      go_enter Tryz.func53, Tryz.ntmps53
      go_wp2_with (first
        | (go_at_call 32; refine (HIX.out _).mono ?_; rintro e w' ⟨rfl, rfl⟩)
        | (go_at_call 81; refine (readWrong_any _ _).mono ?_; rintro e w' ⟨rfl, rfl⟩))
      go_ret2
      exact ⟨⟨_, rfl, _, rfl, Nat.le_refl _, Blk.new _ _ _⟩, (Below.refl _ _).alloc (Nat.le_refl _) _⟩
  · have hE : readEr l f = .fa 0 6 := by
      rw [hdef]
      unfold readAt
      rw [if_pos h0]
      rfl
    have hS : readStr l f = [] := by
      rw [hdef2]
      unfold readAt
      rw [if_pos h0]
    rw [hE, hS]
    have t0 : ((((hexd (l.getD 0 0)).toNat : Nat) : Int) != 48 + (f : Int)) = true := by
      rw [bne_iff_ne, hx0]
      split <;> omega
    clear hdef hdef2 hx0 hE hS
    have hsz' : 16 ≤ s.size := by omega
    have hw48 : IntKind.u8.wrap (48 + (f : Int)) = 48 + (f : Int) := by simp [IntKind.wrap, IntKind.bits, IntKind.signed]; omega
    generalize (((hexd (l.getD 0 0)).toNat : Nat) : Int) = x0 at *
    clear i1 hs hsz hl hlt h0 d0 d1 k0 k1 hF
    go_enter Tryz.func53, Tryz.ntmps53
    go_wp2_with (first
      | (go_at_call 81; refine (readWrong_any _ _).mono ?_; rintro e w' ⟨rfl, rfl⟩))
    go_ret2
    exact ⟨⟨_, rfl, _, rfl, Nat.le_refl _, Blk.new _ _ _⟩, (Below.refl _ _).alloc (Nat.le_refl _) _⟩

section
open Go.Maps
variable {H : Type} {P : Program} {ops : Array Oper} {rest : List Oper} {o : Oper} {a : Act} {Q : Exit → Act → World → Prop}
/-- an entry of a map that is written out -/
theorem wpList_insert_own (w : World) (hg : o.guard = none) (m x v : Operand) (t : TypeId) (hop : o.op = Op.insert t m x v)
    (k e : TypeId) (K : Keyed P k) (ht : P.underlying t = some (.map k e)) (R : Value → Option (DataW H × List MemPlace)) (b n : Nat) (D : DataW H)
    (hm : a.eval m = .map (some b)) (hown : w.ownsMap P k R b n D) (hn : n < maxLen) (key val : Value) (kl : Lit) (hx : a.eval x = key) (hv : a.eval v = val) (hkey : keyOf P k key = some kl)
    (d : DataW H) (ps : List MemPlace) (hval : R val = some (d, ps))
    (hK : ∀ w', w'.ownsMap P k R b (n + 1) (D.put kl d) → w.grownBy w' (some b) → wpList P ops Q rest (a.put o.dst undef) w') :
    wpList P ops Q (o :: rest) a w := by
  refine wpList_plain hg fun K' hK' => ?_
  obtain ⟨w', hrun, r1, r2⟩ := hown.update K ht hn hkey hval
  unfold Oper.wp
  simp [execOp, hop, hm, hx, hv, hrun, Result.andThen]
  exact hK' _ _ (hK w' r1 r2)
/-- a text that is looked up in a map of one's own -/
theorem wpList_lookup_own_str (w : World) (hg : o.guard = none) (m x : Operand) (t : TypeId) (hop : o.op = Op.lookup t m x false)
    (k e : TypeId) (K : Keyed P k) (ht : P.underlying t = some (.map k e)) (he : P.underlying e = some .string) (hz : (zeroValue e).run P w = .ok (.string ⟨#[]⟩) w) (b n : Nat) (D : DataW H)
    (hm : a.eval m = .map (some b)) (hown : w.ownsMap P k (plainElem P e) b n D) (key : Value) (kl : Lit) (hx : a.eval x = key) (hkey : keyOf P k key = some kl)
    (S : ByteArray) (hat : D.atKey kl (.lit (.string [])) = .lit (.string S.data.toList))
    (hK : wpList P ops Q rest (a.put o.dst (.string S)) w) :
    wpList P ops Q (o :: rest) a w := by
  refine wpList_plain hg fun K' hK' => ?_
  obtain ⟨v, ps, hrun, hv⟩ := hown.lookup K ht hz (zd := .lit (.string [])) (zp := []) (plainElem_string he (s := ⟨#[]⟩) (by decide)) hkey
  obtain ⟨s, rfl, hs, _⟩ := plainElem_string_inv he hv
  rw [hat] at hs
  have hss : S.data.toList = s.data.toList := by
    have := (Prod.mk.inj hs).1
    injection this with this
    injection this
  have hS : s = S := by
    apply ByteArray.ext
    exact (Array.toList_inj.1 hss).symm
  subst hS
  unfold Oper.wp
  simp [execOp, hop, hm, hx, hrun, Result.andThen]
  exact hK' _ _ hK
end

def fillsS (f : Nat) : ByteArray := if f = 0 then ⟨#[70]⟩ else if f = 1 then ⟨#[48, 49, 50, 51, 52, 53, 54, 55, 56, 57, 65, 66, 67, 68, 69, 70]⟩ else ⟨#[65, 66, 67, 68, 69, 70]⟩
theorem fills_ok (f : Nat) (hf : f = 0 ∨ f = 1 ∨ f = 3) (c : Nat) (hc : c < 16) : isIn (fillsS f).data.toList (hexd c) = !noD f c := by
  have h0 : ∀ c < 16, isIn (fillsS 0).data.toList (hexd c) = !noD 0 c := by decide +kernel
  have h1 : ∀ c < 16, isIn (fillsS 1).data.toList (hexd c) = !noD 1 c := by decide +kernel
  have h3 : ∀ c < 16, isIn (fillsS 3).data.toList (hexd c) = !noD 3 c := by decide +kernel
  rcases hf with rfl | rfl | rfl
  · exact h0 c hc
  · exact h1 c hc
  · exact h3 c hc

def openEr (f : Int) (b : List Nat) (a : List UInt8) : Er := if f = 0 ∨ f = 1 ∨ f = 3 then (match decEr a 13 19 with | .ok => readEr (turnD f.toNat a (nibN b)) f.toNat | e => e) else .no 1
def openStr (f : Int) (b : List Nat) (a : List UInt8) : List UInt8 := if f = 0 ∨ f = 1 ∨ f = 3 then (match decEr a 13 19 with | .ok => readStr (turnD f.toNat a (nibN b)) f.toNat | _ => []) else []

theorem open_arg (f : Int) (hf : ¬ (f = 0 ∨ f = 1 ∨ f = 3)) (b : List Nat) (a : ByteArray) (w : World) :
    Calls Tryz.prog 21 #[.int .i64 f, .agg (byteCells b), .string a] w fun e w' => (∃ v, e = .returned (.tuple #[.string ⟨#[]⟩, v]) ∧ ErIs w' w.heap.size v (.no 1)) ∧ Below w.heap.size w w' := by
  have HK := Lib.hid (fun W => known_no f hf W)
  clear hf
  go_enter Tryz.func21, Tryz.ntmps21
  go_wp2_with fail
  refine (HK.out _).mono ?_
  rintro e w1 ⟨rfl, rfl⟩
  go_wp2
  go_ret2
  exact ⟨⟨_, rfl, rfl⟩, (Below.refl _ _).alloc (Nat.le_refl _) _⟩
set_option maxHeartbeats 1000000 in
theorem open_bad (f : Nat) (hf : f = 0 ∨ f = 1 ∨ f = 3) (b : List Nat) (a : ByteArray) (ha : a.size ≤ 140737488351232) (er : Er) (he : decEr a.data.toList 13 19 = er) (hne : er ≠ .ok) (w : World) :
    Calls Tryz.prog 21 #[.int .i64 f, .agg (byteCells b), .string a] w fun e w' => (∃ v, e = .returned (.tuple #[.string ⟨#[]⟩, v]) ∧ ErIs w' w.heap.size v er) ∧ Below w.heap.size w w' := by
  have HK := Lib.hid (fun W => known_yes f hf W)
  have HB := Lib.hid (fun W => account_any a ha W)
  rw [he] at HB
  clear hf he
  cases er with
  | ok => exact absurd rfl hne
  | no m =>
    clear hne
    go_enter Tryz.func21, Tryz.ntmps21
    go_wp2_with fail
    refine (HK.out _).mono ?_
    rintro e w1 ⟨rfl, rfl⟩
    go_wp2_with fail
    refine (HB.out _).mono ?_
    rintro e w2 ⟨⟨v, rfl, hv⟩, hb2⟩
    obtain rfl : v = _ := hv
    have hbel := ((Below.refl w.heap.size w).alloc (Nat.le_refl _) (.cells (byteCells b) 38)).trans (hb2.mono (by simp))
    go_wp2
    go_ret2
    exact ⟨⟨_, rfl, rfl⟩, hbel⟩
  | fa q m =>
    clear hne
    go_enter Tryz.func21, Tryz.ntmps21
    go_wp2_with fail
    refine (HK.out _).mono ?_
    rintro e w1 ⟨rfl, rfl⟩
    go_wp2_with fail
    refine (HB.out _).mono ?_
    rintro e w2 ⟨⟨v, rfl, hv⟩, hb2⟩
    have hv2 := hv.more (C := w.heap.size) (by simp)
    have hv' := hv
    obtain ⟨g, rfl, _⟩ := hv'
    have hbel := ((Below.refl w.heap.size w).alloc (Nat.le_refl _) (.cells (byteCells b) 38)).trans (hb2.mono (by simp))
    clear hv
    go_wp2
    go_ret2
    exact ⟨⟨_, rfl, hv2⟩, hbel⟩

theorem law_int : Maps.Keyed Tryz.prog 3 := Maps.int_keyed Tryz.underlying3
set_option maxHeartbeats 2000000 in
set_option maxRecDepth 100000 in
theorem open_ok (f : Nat) (hf : f = 0 ∨ f = 1 ∨ f = 3) (b : List Nat) (hb : b.length = 8) (gb : ∀ c ∈ b, c < 256) (a : ByteArray) (hok : decEr a.data.toList 13 19 = .ok) (w : World) :
    Calls Tryz.prog 21 #[.int .i64 f, .agg (byteCells b), .string a] w fun e w' => (∃ v, e = .returned (.tuple #[.string (str (readStr (turnD f a.data.toList (nibN b)) f)), v]) ∧ ErIs w' w.heap.size v (readEr (turnD f a.data.toList (nibN b)) f)) ∧ Below w.heap.size w w' := by
  obtain ⟨h13, h19, had⟩ := field_ok a hok
  have hal : a.data.toList.length = a.size := by simp
  have HK := Lib.hid (fun W => known_yes f hf W)
  have HB := Lib.hid (fun W => account_any a (by omega) W)
  rw [hok] at HB
  have HT := Lib.hid (fun A cb W hA => turned_any f hf b hb gb A cb a h13 h19 had W hA)
  have hnib := turnC_nib f a.data.toList b (by omega) had hb gb
  have hVl := turnC_len f a.data.toList b
  rw [hb] at hVl
  have hVlt : ∀ c ∈ turnC f a.data.toList b, c < 256 := by
    unfold turnC
    split
    · exact gb
    · exact xorTo_lt b _ gb (unhexL_lt (fieldS_hex _ had)) 8
  have hDl := turnD_len f a.data.toList (nibN b)
  have hDlt := turnD_lt f a.data.toList (nibN b) had (nibN_lt b gb)
  rw [← hnib] at hDl hDlt ⊢
  clear hnib
  generalize turnC f a.data.toList b = V at *
  have HH := Lib.hid (fun A cp W hA => hex_any V hVlt (by omega) A cp W hA)
  have hdef : (⟨(hexL V).toArray⟩ : ByteArray) = str ((nibN V).map hexd) := by rw [hexL_nib]; rfl
  rw [hdef, hVl] at HH
  have HR := Lib.hid (fun W => read_any (nibN V) (by rw [hDl]; exact Nat.le_refl _) (by rw [hDl]; omega) hDlt f (by omega) (fillsS f) (fills_ok f hf) W)
  generalize str ((nibN V).map hexd) = S at *
  generalize readStr (nibN V) f = RS at *
  generalize readEr (nibN V) f = RE at *
  have HVL := Lib.hid hVl; clear hVl hdef hDl hDlt hVlt had
  have HBL := Lib.hid hb; clear hb gb hal hok
  have key0 : keyOf Tryz.prog 3 (.int .i64 0) = some (.int .i64 0) := Maps.keyOf_int_mk Tryz.underlying3 (by decide)
  have key1 : keyOf Tryz.prog 3 (.int .i64 1) = some (.int .i64 1) := Maps.keyOf_int_mk Tryz.underlying3 (by decide)
  have key3 : keyOf Tryz.prog 3 (.int .i64 3) = some (.int .i64 3) := Maps.keyOf_int_mk Tryz.underlying3 (by decide)
  have K0 := Lib.hid key0
  have K1 := Lib.hid key1
  have K3 := Lib.hid key3
  clear key0 key1 key3
  have main : ∀ n : Nat, f = n → n = 0 ∨ n = 1 ∨ n = 3 → Calls Tryz.prog 21 #[.int .i64 n, .agg (byteCells b), .string a] w fun e w' => (∃ v, e = .returned (.tuple #[.string (str RS), v]) ∧ ErIs w' w.heap.size v RE) ∧ Below w.heap.size w w' := by
    clear hf
    intro n hn hf
    rcases hf with rfl | rfl | rfl
    all_goals
      subst hn
      go_enter Tryz.func21, Tryz.ntmps21
      go_wp2_with fail
      refine (HK.out _).mono ?_
      rintro e w1 ⟨rfl, rfl⟩
      go_wp2_with fail
      refine (HB.out _).mono ?_
      rintro e w2 ⟨⟨v, rfl, hv⟩, hb2⟩
      obtain rfl : v = _ := hv
      have hbel2 := ((Below.refl w.heap.size w).alloc (Nat.le_refl _) (.cells (byteCells b) 38)).trans (hb2.mono (by simp))
      have hB2 : Bs w2 w.heap.size 0 b := (Bs.of_blk (l := b) (Blk.new w _ _) (fun j c hj => by rw [Nat.zero_add]; exact hj)).below hb2 (by simp)
      clear hb2
      go_wp2_with fail
      refine (HT.out _ _ _ (fun _ => ⟨_, _, rfl, hB2⟩)).mono ?_
      rintro e w3 ⟨⟨A', cp, rfl, hAV⟩, hb3⟩
      have hbel3 := hbel2.trans (hb3.mono hbel2.size)
      clear hb3
      have hz : ∀ W, (zeroValue 9).run Tryz.prog W = .ok (.string ⟨#[]⟩) W := fun W => Tryz.zeroValue9 W
      have HZ := Lib.hid hz; clear hz
      have hmm := @run_makeMap Tryz.prog
      go_wp2_with (first
        | (refine wpList_insert_own (H := Unit) _ rfl (.tmp 31) (.const (.int .i64 0)) _ 96 rfl 3 9 law_int Tryz.underlying96 (plainElem Tryz.prog 9) w3.heap.size 0 _ rfl (World.ownsMap_made _ _ _ _) (by unfold maxLen; omega) _ _ _ rfl rfl K0.out _ _ (plainElem_string Tryz.underlying9 (by decide)) ?_; intro w4 hm4 hg4)
        | (refine wpList_insert_own (H := Unit) _ rfl (.tmp 31) (.const (.int .i64 1)) _ 96 rfl 3 9 law_int Tryz.underlying96 (plainElem Tryz.prog 9) w3.heap.size 1 _ rfl hm4 (by unfold maxLen; omega) _ _ _ rfl rfl K1.out _ _ (plainElem_string Tryz.underlying9 (by decide)) ?_; intro w5 hm5 hg5)
        | (refine wpList_insert_own (H := Unit) _ rfl (.tmp 31) (.const (.int .i64 3)) _ 96 rfl 3 9 law_int Tryz.underlying96 (plainElem Tryz.prog 9) w3.heap.size 2 _ rfl hm5 (by unfold maxLen; omega) _ _ _ rfl rfl K3.out _ _ (plainElem_string Tryz.underlying9 (by decide)) ?_; intro w6 hm6 hg6)
        | (at_lookup; go_loud (refine wpList_lookup_own_str (H := Unit) _ rfl (.tmp 32) (.tmp 33) 96 rfl 3 9 law_int Tryz.underlying96 Tryz.underlying9 (HZ.out _) w3.heap.size 3 _ rfl hm6 _ _ rfl (by first | exact K0.out | exact K1.out | exact K3.out) _ (by rfl) ?_)))
      have hw4 : Below w3.heap.size w3 w4 := ((Below.refl w3.heap.size w3).alloc (Nat.le_refl _) (.map #[] 0)).grown hg4 (by simp) (fun g hg => by injection hg with hg; omega)
      have hw5 : Below w3.heap.size w3 w5 := hw4.grown hg5 hw4.size (fun g hg => by injection hg with hg; omega)
      have hw6 : Below w3.heap.size w3 w6 := hw5.grown hg6 hw5.size (fun g hg => by injection hg with hg; omega)
      have hbel6 := hbel3.trans (hw6.mono hbel3.size)
      clear hw4 hw5 hg4 hg5 hg6 hm4 hm5 hm6 hmm
      refine (HH.out _ _ _ (hAV.below hw6 (Nat.le_refl _))).mono ?_
      rintro e w7 ⟨rfl, hb7⟩
      have hbel7 := hbel6.trans (hb7.mono hbel6.size)
      clear hb7 hw6
      go_wp2_with fail
      refine (HR.out _).mono ?_
      rintro e w8 ⟨⟨v, rfl, hv⟩, hb8⟩
      go_wp2
      go_ret2
      exact ⟨⟨_, rfl, hv.more hbel7.size⟩, hbel7.trans (hb8.mono hbel7.size)⟩
  exact main f rfl hf

/-- the contract of pin.Open -/
theorem open_any (f : Int) (b : List Nat) (hb : b.length = 8) (gb : ∀ c ∈ b, c < 256) (a : ByteArray) (ha : a.size ≤ 140737488351232) (w : World) :
    Calls Tryz.prog 21 #[.int .i64 f, .agg (byteCells b), .string a] w fun e w' =>
      (∃ v, e = .returned (.tuple #[.string (str (openStr f b a.data.toList)), v]) ∧ ErIs w' w.heap.size v (openEr f b a.data.toList)) ∧ Below w.heap.size w w' := by
  have hse : (⟨#[]⟩ : ByteArray) = str [] := rfl
  by_cases hf : f = 0 ∨ f = 1 ∨ f = 3
  · obtain ⟨n, rfl⟩ : ∃ n : Nat, f = n := ⟨f.toNat, by omega⟩
    have hf' : n = 0 ∨ n = 1 ∨ n = 3 := by omega
    by_cases hok : decEr a.data.toList 13 19 = .ok
    · have e1 : openEr n b a.data.toList = readEr (turnD n a.data.toList (nibN b)) n := by unfold openEr; rw [if_pos hf, hok]; rfl
      have e2 : openStr n b a.data.toList = readStr (turnD n a.data.toList (nibN b)) n := by unfold openStr; rw [if_pos hf, hok]; rfl
      rw [e1, e2]
      exact open_ok n hf' b hb gb a hok w
    · have e1 : openEr n b a.data.toList = decEr a.data.toList 13 19 := by
        unfold openEr; rw [if_pos hf]
        cases h : decEr a.data.toList 13 19 with
        | ok => exact absurd h hok
        | no m => rfl
        | fa q m => rfl
      have e2 : openStr n b a.data.toList = [] := by
        unfold openStr; rw [if_pos hf]
        cases h : decEr a.data.toList 13 19 with
        | ok => exact absurd h hok
        | no m => rfl
        | fa q m => rfl
      rw [e1, e2, ← hse]
      exact open_bad n hf' b a ha _ rfl hok w
  · have e1 : openEr f b a.data.toList = .no 1 := by unfold openEr; rw [if_neg hf]
    have e2 : openStr f b a.data.toList = [] := by unfold openStr; rw [if_neg hf]
    rw [e1, e2, ← hse]
    exact open_arg f hf b a w
end Go.Proofs.YtnkgglmfoimbhaaGreatDoor
