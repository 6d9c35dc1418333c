/- The contracts of pin.decimal, pin.Right, pin.Account, pin.both; of pvv.Pick. Plain definitions and facts of PIN blocks, as lists of digits; no program in sight. -/
import Derived.Test.YthodpjcdmdbnoaaGreatDoorNErr
import Derived.Test.YthodpjcdmdbnoaaGreatDoorNPureAll
/- The contracts of pin.decimal, pin.Right, pin.Account, pin.both; of pvv.Pick. -/
/- The contracts of pin.decimal, pin.Account, cvv.wrong, digit.Equal. -/
namespace Go.Proofs.YthodpjcdmdbnoaaGreatDoor
open Go Go.RowKit Pr

theorem extract_one (s : ByteArray) (k : Nat) (h : k < s.size) : (s.extract k (k + 1)).data.toList = [s[k]] := by
 rw [Lib.extract_data]
 apply List.ext_getElem
 ·
  simp; omega
 ·
  intro i h1 h2
  have : i = 0 := by simpa using h2
  subst this
  simp [get_list s k h]

/-- what is wrong with decimal digits -/
def decEr (s : List UInt8) (lo hi : Nat) : Er := if s.length < lo ∨ hi < s.length then .no 2 else match badAt isDec s with | some k => .fa k 16 | none => .ok

theorem decimal_one (s : ByteArray) (k : Nat) (h : k < s.size) (w : World) :
    Calls Tryz.prog 72 #[.string (s.extract k (k + 1))] w fun e w' => e = .returned (.bool (isDec s[k])) ∧ w = w' := by
 have := decimal_any (s.extract k (k + 1)) (by simp; omega) w
 rw [extract_one s k h] at this
 simpa using this

set_option maxHeartbeats 1000000 in
theorem decimals_any (s : ByteArray) (hs : s.size ≤ 140737488351232) (lo hi : Nat) (_hlo : lo ≤ 100) (_hhi : hi ≤ 100) (w : World) :
    Calls Tryz.prog 46 #[.string s, .int .i64 lo, .int .i64 hi] w fun e w' => (∃ v, e = .returned v ∧ ErIs w' w.heap.size v (decEr s.data.toList lo hi)) ∧ Below w.heap.size w w' := by
 have hlist : s.data.toList.length = s.size := by simp
 by_cases hbad : s.size < lo ∨ hi < s.size
 ·
  have hr : decEr s.data.toList lo hi = .no 2 := by unfold decEr; rw [if_pos (by rw [hlist]; exact hbad)]
  rw [hr]
  clear hr hlist
  by_cases h1 : s.size < lo
  ·
   go_enter Tryz.func46, Tryz.ntmps46
   go_wp2
   go_ret
   exact ⟨⟨_, rfl, rfl⟩, Below.refl _ _⟩
  ·
   have h2 : hi < s.size := by omega
   go_enter Tryz.func46, Tryz.ntmps46
   go_wp2
   go_ret
   exact ⟨⟨_, rfl, rfl⟩, Below.refl _ _⟩
 ·
  have hr : decEr s.data.toList lo hi = match badAt isDec s.data.toList with | some k => .fa k 16 | none => .ok := by unfold decEr; rw [if_neg (by rw [hlist]; exact hbad)]
  have h1 : ¬ s.size < lo := by omega
  have h2 : ¬ hi < s.size := by omega
  have HR := Lib.hid hr; clear hr hbad hlist
  go_enter Tryz.func46, Tryz.ntmps46
  go_wp2
  go_loop [21] (fun i => ∃ k : Nat, k ≤ s.size ∧ i = .int .i64 k ∧ Hid (∀ j (h : j < k) (h' : j < s.size), isDec s[j] = true)) (fun i => s.size - (intOf i).toNat)
  case atStart => exact ⟨0, by omega, rfl, fun j h => by omega⟩
  case round =>
   obtain ⟨k, hk, rfl, hall⟩ := hrel
   by_cases hlt : k < s.size
   ·
    have hd := fun W => decimal_one s k hlt W
    obtain ⟨c, hc⟩ : ∃ c, s[k] = c := ⟨_, rfl⟩
    simp only [hc] at hd
    have HC := Lib.hid hc; clear hc
    cases hcd : isDec c with
    | true =>
     rw [hcd] at hd
     have HD := Lib.hid hd; clear hd
     have HCD := Lib.hid hcd; clear hcd
     go_wp2_with (go_at_call 72; refine (HD.out _).mono ?_; rintro e w' ⟨rfl, rfl⟩)
     go_round
     case rel => exact ⟨k + 1, by omega, by go_num, fun j h h' => by
      by_cases e : j = k
      ·
       subst e; rw [HC.out]; exact HCD.out
      ·
       exact hall.out j (by omega) h'⟩
     case measure => simp [intOf]; omega
    | false =>
     rw [hcd] at hd
     have HD := Lib.hid hd; clear hd
     have hfin : badAt isDec s.data.toList = some k := badAt_some (k := k) (by simpa using hlt) (fun j hj => hall.out j hj (by omega)) (by show isDec s[k] = false; rw [HC.out]; exact hcd)
     rw [hfin] at HR
     clear hfin hcd
     go_wp2_with (go_at_call 72; refine (HD.out _).mono ?_; rintro e w' ⟨rfl, rfl⟩)
     go_ret
     rw [HR.out]
     exact ⟨⟨_, rfl, _, rfl, Nat.le_refl _, Blk.new _ _ _⟩, (Below.refl _ _).alloc (Nat.le_refl _) _⟩
   ·
    have hfin : badAt isDec s.data.toList = none := badAt_none fun c hc => by
     obtain ⟨j, hj, rfl⟩ := List.getElem_of_mem hc
     have hj' : j < s.size := by simpa using hj
     exact hall.out j (by omega) hj'
    rw [hfin] at HR
    clear hfin
    go_wp2
    go_ret
    rw [HR.out]
    exact ⟨⟨_, rfl, rfl⟩, Below.refl _ _⟩

set_option maxHeartbeats 400000 in
theorem account_any (s : ByteArray) (hs : s.size ≤ 140737488351232) (w : World) :
    Calls Tryz.prog 21 #[.string s] w fun e w' => (∃ v, e = .returned v ∧ ErIs w' w.heap.size v (decEr s.data.toList 13 19)) ∧ Below w.heap.size w w' := by
 have H := Lib.hid (fun W => decimals_any s hs 13 19 (by omega) (by omega) W)
 go_enter Tryz.func21, Tryz.ntmps21
 go_wp2_with fail
 refine (H.out _).mono ?_
 rintro e w' ⟨⟨v, rfl, hv⟩, hb⟩
 go_wp2
 go_ret
 exact ⟨⟨_, rfl, hv⟩, hb⟩

set_option maxHeartbeats 400000 in
theorem right_pin (s : ByteArray) (hs : s.size ≤ 140737488351232) (w : World) :
    Calls Tryz.prog 20 #[.string s] w fun e w' => (∃ v, e = .returned v ∧ ErIs w' w.heap.size v (decEr s.data.toList 4 12)) ∧ Below w.heap.size w w' := by
 have H := Lib.hid (fun W => decimals_any s hs 4 12 (by omega) (by omega) W)
 go_enter Tryz.func20, Tryz.ntmps20
 go_wp2_with fail
 refine (H.out _).mono ?_
 rintro e w' ⟨⟨v, rfl, hv⟩, hb⟩
 go_wp2
 go_ret
 exact ⟨⟨_, rfl, hv⟩, hb⟩

/-- what is wrong with a PIN and an account -/
def bothEr (p a : List UInt8) : Er := match decEr p 4 12 with | .ok => decEr a 13 19 | e => e
set_option maxHeartbeats 1000000 in
theorem both_any (p a : ByteArray) (hp : p.size ≤ 140737488351232) (ha : a.size ≤ 140737488351232) (w : World) :
    Calls Tryz.prog 25 #[.string p, .string a] w fun e w' => (∃ v, e = .returned v ∧ ErIs w' w.heap.size v (bothEr p.data.toList a.data.toList)) ∧ Below w.heap.size w w' := by
 have HP := Lib.hid (fun W => right_pin p hp W)
 have HA := Lib.hid (fun W => account_any a ha W)
 have HE : Hid (bothEr p.data.toList a.data.toList = match decEr p.data.toList 4 12 with | .ok => decEr a.data.toList 13 19 | e => e) := rfl
 generalize bothEr p.data.toList a.data.toList = er at *
 generalize decEr p.data.toList 4 12 = ep at *
 generalize decEr a.data.toList 13 19 = ea at *
 cases ep with
 | no m =>
  go_enter Tryz.func25, Tryz.ntmps25
  go_wp2_with fail
  refine (HP.out _).mono ?_
  rintro e w1 ⟨⟨v, rfl, hv⟩, hb⟩
  obtain rfl : v = _ := hv
  go_wp2
  go_ret
  rw [HE.out]
  exact ⟨⟨_, rfl, rfl⟩, hb⟩
 | fa q m =>
  go_enter Tryz.func25, Tryz.ntmps25
  go_wp2_with fail
  refine (HP.out _).mono ?_
  rintro e w1 ⟨⟨v, rfl, hv⟩, hb⟩
  have hv' := hv
  obtain ⟨g, rfl, _⟩ := hv'
  go_wp2
  go_ret
  rw [HE.out]
  exact ⟨⟨_, rfl, hv⟩, hb⟩
 | ok =>
  go_enter Tryz.func25, Tryz.ntmps25
  go_wp2_with fail
  refine (HP.out _).mono ?_
  rintro e w1 ⟨⟨v, rfl, hv⟩, hb⟩
  obtain rfl : v = _ := hv
  go_wp2_with fail
  refine (HA.out _).mono ?_
  rintro e w2 ⟨⟨v, rfl, hv⟩, hb2⟩
  go_wp2
  go_ret
  rw [HE.out]
  exact ⟨⟨_, rfl, hv.more hb.size⟩, hb.trans (hb2.mono hb.size)⟩
end Go.Proofs.YthodpjcdmdbnoaaGreatDoor

/- The contract of pvv.Pick. -/
namespace Go.Proofs.YthodpjcdmdbnoaaGreatDoor
open Go Go.RowKit Pr

/-- two builders, one behind the other, from block B on -/
def TwoB (B : Nat) (w wr : World) (l1 l2 : List UInt8) : Prop :=
 ∃ R1 R2, Bld wr B R1 l1 ∧ Bld wr (B + 1) R2 l2 ∧ (∀ g, R1 = some g → B + 1 < g) ∧ (∀ g, R2 = some g → B + 1 < g) ∧ (∀ g, R1 = some g → R2 ≠ some g) ∧ Below B w wr ∧ B + 2 ≤ wr.heap.size

theorem TwoB.start (w : World) : TwoB w.heap.size w ((w.alloc (.cells #[.pointer none, .slice none 0 0] 106)).alloc (.cells #[.pointer none, .slice none 0 0] 106)) [] [] :=
 ⟨none, none, ⟨.pointer none, .slice none 0 0, .inl rfl, (Blk.new w _ _).alloc _, ⟨by rfl, .inl ⟨rfl, rfl⟩⟩, rfl, by simp, fun _ => rfl⟩,
  ⟨.pointer none, .slice none 0 0, .inl rfl, Blk.new2 w _ _ _, ⟨by rfl, .inl ⟨rfl, rfl⟩⟩, rfl, by simp, fun _ => rfl⟩, by simp, by simp, by simp,
  ((Below.refl _ _).alloc (Nat.le_refl _) _).alloc (by simp) _, by simp⟩

theorem TwoB.first {B : Nat} {w wr : World} {l1 l2 : List UInt8} (h : TwoB B w wr l1 l2) (hB : B ≤ w.heap.size) (c : UInt8) (x : Int) (hx : x = c.toNat) (hlen : l1.length + 1 ≤ 140737488355328) :
    Calls Tryz.prog 57 #[.pointer (some ⟨B, 0, none⟩), .int .u8 x] wr fun e w' => e = .returned .nilIface ∧ TwoB B w w' (l1 ++ [c]) l2 := by
 obtain ⟨R1, R2, h1, h2, g1, g2, g12, hb, hs⟩ := h
 refine (writeByte_any B R1 l1 c x hx wr h1 hlen).mono ?_
 rintro e w' ⟨rfl, A', hA', hat, hC⟩
 have h2' := h2.chg hC (by omega) (fun e => by have := g1 _ e.symm; omega) (fun e => by have := g2 _ e; omega) (fun g hg e => g12 g e hg)
 refine ⟨rfl, A', R2, hA', h2', ?_, g2, ?_, hC.below hb hB (Nat.le_refl _) (fun g hg => by have := g1 g hg; omega), by have := hC.size; omega⟩
 ·
  intro g hg
  rcases hat with e | ⟨g', e, hg'⟩
  ·
   exact g1 g (by rw [← e]; exact hg)
  ·
   rw [e] at hg; injection hg with hg; omega
 ·
  intro g hg e2
  rcases hat with e | ⟨g', e, hg'⟩
  ·
   exact g12 g (by rw [← e]; exact hg) e2
  ·
   rw [e] at hg; injection hg with hg; have := h2.row_lt e2; omega
theorem cat_bytes (D L : List UInt8) : ((⟨D.toArray⟩ : ByteArray) ++ (⟨L.toArray⟩ : ByteArray)) = ⟨(D ++ L).toArray⟩ := by
 apply ByteArray.ext
 simp

end Go.Proofs.YthodpjcdmdbnoaaGreatDoor

/- Plain definitions and facts of PIN blocks, as lists of digits; no program in sight. -/
namespace Go.Proofs.YthodpjcdmdbnoaaGreatDoor.Pr

/-- bytes of two digits each -/
def packN (l : List Nat) : List Nat := (List.range (l.length / 2)).map fun j => 16 * l.getD (2 * j) 0 + l.getD (2 * j + 1) 0
/-- the two digits of each byte -/
def nibN (l : List Nat) : List Nat := l.flatMap fun c => [c / 16, c % 16]
theorem packN_len (l : List Nat) : (packN l).length = l.length / 2 := by simp [packN]
theorem nibN_snoc (l : List Nat) (c : Nat) : nibN (l ++ [c]) = nibN l ++ [c / 16, c % 16] := by simp [nibN]
theorem nibN_len (l : List Nat) : (nibN l).length = 2 * l.length := by
 induction l with
 | nil => rfl
 | cons a l ih => simp only [nibN, List.flatMap_cons, List.length_append, List.length_cons, List.length_nil] at *; omega
theorem nibN_lt (l : List Nat) (h : ∀ c ∈ l, c < 256) : ∀ c ∈ nibN l, c < 16 := by
 intro c hc
 simp only [nibN, List.mem_flatMap, List.mem_cons, List.not_mem_nil, or_false] at hc
 obtain ⟨a, ha, h1⟩ := hc
 have := h a ha
 omega
theorem nibN_getD (l : List Nat) : ∀ j, (nibN l).getD (2 * j) 0 = l.getD j 0 / 16 ∧ (nibN l).getD (2 * j + 1) 0 = l.getD j 0 % 16 := by
 induction l with
 | nil => intro j; simp [nibN]
 | cons a l ih =>
  intro j
  have e : nibN (a :: l) = a / 16 :: a % 16 :: nibN l := by simp [nibN]
  rw [e]
  match j with
  | 0 => simp
  | j + 1 =>
   have := ih j
   rw [show 2 * (j + 1) = 2 * j + 1 + 1 by omega, show 2 * j + 1 + 1 + 1 = (2 * j + 1) + 1 + 1 by omega]
   simpa using this
theorem getD_lt16 (l : List Nat) (h : ∀ c ∈ l, c < 16) (i : Nat) : l.getD i 0 < 16 := by
 rw [List.getD_eq_getElem?_getD]
 cases hq : l[i]? with
 | none => simp
 | some c => exact h c (List.mem_of_getElem? hq)
theorem packN_nibN (l : List Nat) : packN (nibN l) = l := by
 apply List.ext_getElem
 ·
  rw [packN_len, nibN_len]; omega
 ·
  intro i h1 h2
  have := nibN_getD l i
  simp only [packN, List.getElem_map, List.getElem_range]
  rw [this.1, this.2, List.getD_eq_getElem?_getD, List.getElem?_eq_getElem h2]
  simp only [Option.getD_some]
  omega
theorem packN_getD (l : List Nat) (j : Nat) (h : 2 * j + 1 < l.length) : (packN l).getD j 0 = 16 * l.getD (2 * j) 0 + l.getD (2 * j + 1) 0 := by
 rw [List.getD_eq_getElem?_getD, List.getElem?_eq_getElem (by rw [packN_len]; omega)]
 simp [packN]
theorem nibN_packN (l : List Nat) (h : ∀ c ∈ l, c < 16) (hev : l.length % 2 = 0) : nibN (packN l) = l := by
 apply List.ext_getElem
 ·
  rw [nibN_len, packN_len]; omega
 ·
  intro i h1 h2
  have hg := nibN_getD (packN l) (i / 2)
  have hp := packN_getD l (i / 2) (by omega)
  have hb := getD_lt16 l h (2 * (i / 2) + 1)
  rw [hp] at hg
  have e1 : (nibN (packN l))[i] = (nibN (packN l)).getD i 0 := by rw [List.getD_eq_getElem?_getD, List.getElem?_eq_getElem h1]; rfl
  have e2 : l[i] = l.getD i 0 := by rw [List.getD_eq_getElem?_getD, List.getElem?_eq_getElem h2]; rfl
  rw [e1, e2]
  rcases (show i = 2 * (i / 2) ∨ i = 2 * (i / 2) + 1 by omega) with e | e
  ·
   rw [e, hg.1]; omega
  ·
   rw [e, hg.2]; omega
theorem packN_take (l : List Nat) (j : Nat) (h : 2 * j + 1 < l.length) : (packN l).take (j + 1) = (packN l).take j ++ [16 * l.getD (2 * j) 0 + l.getD (2 * j + 1) 0] := by
 rw [List.take_succ_eq_append_getElem (by rw [packN_len]; omega)]
 congr 2
 simp [packN]

theorem hexv_hexd (n : Nat) (h : n < 16) : hexv (hexd n) = n := by
 have : ∀ n < 16, hexv (hexd n) = n := by decide +kernel
 exact this n h
theorem unhexL_pack (s : List UInt8) : unhexL s = packN (s.map hexv) := by
 unfold unhexL packN
 rw [List.length_map]
 apply List.map_congr_left
 intro j _
 unfold unhexAt
 have e : ∀ i, (s.map hexv).getD i 0 = hexv (s.getD i 0) := by
  intro i
  simp only [List.getD_eq_getElem?_getD, List.getElem?_map]
  cases s[i]? <;> rfl
 rw [e, e]
 omega
theorem hexL_nib (l : List Nat) : hexL l = (nibN l).map hexd := by
 unfold hexL nibN
 rw [List.map_flatMap]
 rfl
theorem map_hexv_hexd (l : List Nat) (h : ∀ c ∈ l, c < 16) : (l.map hexd).map hexv = l := by
 rw [List.map_map]
 conv => rhs; rw [← List.map_id l]
 apply List.map_congr_left
 intro c hc
 exact hexv_hexd c (h c hc)
/-- the account's field, digit by digit -/
def fieldD (fmt : Nat) (a : List UInt8) (i : Nat) : Nat := if fmt = 1 ∨ i < 4 then 0 else hexv (a.getD (a.length + i - 17) 0)
def turnD (fmt : Nat) (a : List UInt8) (l : List Nat) : List Nat := (List.range 16).map fun i => l.getD i 0 ^^^ fieldD fmt a i
def fillD (fmt : Nat) (fill : List Nat) : List Nat := if fmt = 0 then List.replicate 16 15 else if fmt = 1 then nibN fill else (nibN fill).map fun c => 10 + c % 6
def startD (fmt : Nat) (p : List UInt8) : List Nat := [fmt, p.length] ++ p.map hexv
def rawD (fmt : Nat) (p : List UInt8) (fill : List Nat) : List Nat := (startD fmt p ++ fillD fmt fill).take 16
def makeD (fmt : Nat) (p a : List UInt8) (fill : List Nat) : List Nat := packN (turnD fmt a (rawD fmt p fill))

/-- the same, as the code reckons it: on texts -/
def fillS (fmt : Nat) (fill : List Nat) : List UInt8 := if fmt = 0 then Lib.repeatL [70] 16 else if fmt = 3 then fill.flatMap (fun c => [UInt8.ofNat (65 + c / 16 % 6), UInt8.ofNat (65 + c % 16 % 6)]) else hexL fill
def textS (fmt : Nat) (p : List UInt8) : List UInt8 := [hexd fmt, hexd p.length] ++ p
def fieldS (a : List UInt8) : List UInt8 := [48, 48, 48, 48] ++ (a.drop (a.length - 13)).take 12
def turnC (fmt : Nat) (a : List UInt8) (b : List Nat) : List Nat := if fmt = 1 then b else xorTo b (unhexL (fieldS a)) 8
def makeC (fmt : Nat) (p a : List UInt8) (fill : List Nat) : List Nat := turnC fmt a (unhexL ((textS fmt p ++ fillS fmt fill).take 16))

theorem fillS_len (fmt : Nat) (fill : List Nat) (h : fill.length = 8) : (fillS fmt fill).length = 16 := by
 unfold fillS
 split
 ·
  decide
 ·
  split
  ·
   have : ∀ l : List Nat, (l.flatMap (fun c => [UInt8.ofNat (65 + c / 16 % 6), UInt8.ofNat (65 + c % 16 % 6)])).length = 2 * l.length := by
    intro l
    induction l with
    | nil => rfl
    | cons a l ih => simp only [List.flatMap_cons, List.length_append, List.length_cons, List.length_nil, ih]; omega
   rw [this, h]
  ·
   rw [hexL_len, h]
theorem alpha_hex (n : Nat) (h : n < 6) : isHex (UInt8.ofNat (65 + n)) = true ∧ hexv (UInt8.ofNat (65 + n)) = 10 + n := by
 have : ∀ n < 6, isHex (UInt8.ofNat (65 + n)) = true ∧ hexv (UInt8.ofNat (65 + n)) = 10 + n := by decide +kernel
 exact this n h
theorem fillS_hex (fmt : Nat) (fill : List Nat) (h : ∀ c ∈ fill, c < 256) : ∀ c ∈ fillS fmt fill, isHex c = true := by
 intro c hc
 unfold fillS at hc
 split at hc
 ·
  have : c = 70 := by have := mem_repeat [70] c 16 hc; simpa using this
  subst this; decide
 ·
  split at hc
  ·
   obtain ⟨a, _, h1⟩ := List.mem_flatMap.1 hc
   simp only [List.mem_cons, List.not_mem_nil, or_false] at h1
   rcases h1 with rfl | rfl
   ·
    exact (alpha_hex _ (Nat.mod_lt _ (by omega))).1
   ·
    exact (alpha_hex _ (Nat.mod_lt _ (by omega))).1
  ·
   exact hexL_hex _ h c hc
theorem fillS_val (fmt : Nat) (fill : List Nat) (h : ∀ c ∈ fill, c < 256) (hf : fmt = 0 ∨ fmt = 1 ∨ fmt = 3) : (fillS fmt fill).map hexv = fillD fmt fill := by
 unfold fillS fillD
 rcases hf with rfl | rfl | rfl
 ·
  simp only [if_true]; decide
 ·
  simp only [if_neg (show ¬ (1 = 0) by omega), if_neg (show ¬ (1 = 3) by omega), if_true]
  rw [hexL_nib, map_hexv_hexd _ (nibN_lt _ h)]
 ·
  simp only [if_neg (show ¬ (3 = 0) by omega), if_neg (show ¬ (3 = 1) by omega), if_true]
  unfold nibN
  rw [List.map_flatMap, List.map_flatMap]
  congr 1
  funext c
  simp only [List.map_cons, List.map_nil]
  rw [(alpha_hex _ (Nat.mod_lt _ (by omega))).2, (alpha_hex _ (Nat.mod_lt _ (by omega))).2]
theorem textS_len (fmt : Nat) (p : List UInt8) : (textS fmt p).length = p.length + 2 := by simp [textS]
theorem textS_hex (fmt : Nat) (p : List UInt8) (hf : fmt < 16) (hl : p.length < 16) (hp : ∀ c ∈ p, isDec c = true) : ∀ c ∈ textS fmt p, isHex c = true := by
 intro c hc
 unfold textS at hc
 simp only [List.cons_append, List.nil_append, List.mem_cons] at hc
 rcases hc with rfl | rfl | hc
 ·
  exact hexd_hex _ hf
 ·
  exact hexd_hex _ hl
 ·
  exact isHex_of_dec (hp c hc)
theorem textS_val (fmt : Nat) (p : List UInt8) (hf : fmt < 16) (hl : p.length < 16) : (textS fmt p).map hexv = startD fmt p := by
 unfold textS startD
 simp only [List.cons_append, List.nil_append, List.map_cons, hexv_hexd _ hf, hexv_hexd _ hl]
theorem raw_hex (fmt : Nat) (p : List UInt8) (fill : List Nat) (hf : fmt < 16) (hl : p.length < 16) (hp : ∀ c ∈ p, isDec c = true) (hfl : ∀ c ∈ fill, c < 256) : ∀ c ∈ (textS fmt p ++ fillS fmt fill).take 16, isHex c = true := by
 intro c hc
 rcases List.mem_append.1 (List.mem_of_mem_take hc) with h | h
 ·
  exact textS_hex fmt p hf hl hp c h
 ·
  exact fillS_hex fmt fill hfl c h
theorem raw_len (fmt : Nat) (p : List UInt8) (fill : List Nat) (hfl : fill.length = 8) : ((textS fmt p ++ fillS fmt fill).take 16).length = 16 := by
 rw [List.length_take, List.length_append, fillS_len _ _ hfl]; omega
theorem raw_val (fmt : Nat) (p : List UInt8) (fill : List Nat) (hf : fmt = 0 ∨ fmt = 1 ∨ fmt = 3) (hl : p.length < 16) (hfl : ∀ c ∈ fill, c < 256) : ((textS fmt p ++ fillS fmt fill).take 16).map hexv = rawD fmt p fill := by
 rw [List.map_take, List.map_append, textS_val _ _ (by omega) hl, fillS_val _ _ hfl hf]
 rfl
theorem fieldS_len (a : List UInt8) (h : 13 ≤ a.length) : (fieldS a).length = 16 := by unfold fieldS; simp; omega
theorem fieldS_hex (a : List UInt8) (h : ∀ c ∈ a, isDec c = true) : ∀ c ∈ fieldS a, isHex c = true := by
 intro c hc
 unfold fieldS at hc
 rcases List.mem_append.1 hc with h1 | h1
 ·
  have : c = 48 := by simpa using h1
  subst this; decide
 ·
  exact isHex_of_dec (h c (List.mem_of_mem_drop (List.mem_of_mem_take h1)))
theorem fieldS_val (fmt : Nat) (a : List UInt8) (h : 13 ≤ a.length) (hf : fmt ≠ 1) (i : Nat) (hi : i < 16) : ((fieldS a).map hexv).getD i 0 = fieldD fmt a i := by
 unfold fieldD
 have e : ∀ i, ((fieldS a).map hexv).getD i 0 = hexv ((fieldS a).getD i 0) := by
  intro i
  simp only [List.getD_eq_getElem?_getD, List.getElem?_map]
  cases (fieldS a)[i]? <;> rfl
 rw [e]
 by_cases h4 : i < 4
 ·
  rw [if_pos (.inr h4)]
  unfold fieldS
  rw [List.getD_eq_getElem?_getD, List.getElem?_append_left (by simpa using h4)]
  rcases (show i = 0 ∨ i = 1 ∨ i = 2 ∨ i = 3 by omega) with rfl | rfl | rfl | rfl <;> rfl
 ·
  rw [if_neg (by omega)]
  unfold fieldS
  rw [List.getD_eq_getElem?_getD, List.getElem?_append_right (by simp; omega), List.getD_eq_getElem?_getD]
  simp only [List.length_cons, List.length_nil]
  rw [List.getElem?_take_of_lt (by omega), List.getElem?_drop]
  congr 3
  omega

theorem xor_nib (a b c d : Nat) (ha : a < 16) (hb : b < 16) (hc : c < 16) (hd : d < 16) : (16 * a + b) ^^^ (16 * c + d) = 16 * (a ^^^ c) + (b ^^^ d) := by
 have h : ∀ a < 16, ∀ b < 16, ∀ c < 16, ∀ d < 16, (16 * a + b) ^^^ (16 * c + d) = 16 * (a ^^^ c) + (b ^^^ d) := by decide +kernel
 exact h a ha b hb c hc d hd
theorem xorTo_getD (x y : List Nat) : ∀ n k, k < n → k < x.length → (xorTo x y n).getD k 0 = x.getD k 0 ^^^ y.getD k 0 := by
 intro n
 induction n with
 | zero => intro k h; omega
 | succ n ih =>
  intro k hk hx
  unfold xorTo
  by_cases e : k = n
  ·
   subst e
   rw [List.getD_eq_getElem?_getD, List.getElem?_set_self (by rw [xorTo_len]; exact hx)]
   rfl
  ·
   rw [List.getD_eq_getElem?_getD, List.getElem?_set_ne (fun h => e h.symm), ← List.getD_eq_getElem?_getD]
   exact ih k (by omega) hx
theorem xor_lt16 (a b : Nat) (ha : a < 16) (hb : b < 16) : a ^^^ b < 16 := Nat.xor_lt_two_pow (n := 4) ha hb
theorem range_getD (f : Nat → Nat) (n i : Nat) (h : i < n) : ((List.range n).map f).getD i 0 = f i := by
 rw [List.getD_eq_getElem?_getD]; simp [h]
theorem xor_pack (x y : List Nat) (hx : x.length = 16) (hy : y.length = 16) (gx : ∀ c ∈ x, c < 16) (gy : ∀ c ∈ y, c < 16) :
    xorTo (packN x) (packN y) 8 = packN ((List.range 16).map fun i => x.getD i 0 ^^^ y.getD i 0) := by
 apply List.ext_getElem
 ·
  rw [xorTo_len, packN_len, packN_len, hx]; simp
 ·
  intro i h1 h2
  have hi : i < 8 := by rw [xorTo_len, packN_len, hx] at h1; exact h1
  have e1 : (xorTo (packN x) (packN y) 8)[i] = (xorTo (packN x) (packN y) 8).getD i 0 := by rw [List.getD_eq_getElem?_getD, List.getElem?_eq_getElem h1]; rfl
  rw [e1, xorTo_getD _ _ 8 i hi (by rw [packN_len, hx]; omega), packN_getD _ _ (by omega), packN_getD _ _ (by omega),
   xor_nib _ _ _ _ (getD_lt16 _ gx _) (getD_lt16 _ gx _) (getD_lt16 _ gy _) (getD_lt16 _ gy _)]
  simp only [packN, List.getElem_map, List.getElem_range]
  rw [range_getD _ _ _ (by omega), range_getD _ _ _ (by omega)]

theorem turnD_len (fmt : Nat) (a : List UInt8) (l : List Nat) : (turnD fmt a l).length = 16 := by simp [turnD]
theorem hexv_lt16 (c : UInt8) (h : isDec c = true) : hexv c < 16 := hexv_lt c (isHex_of_dec h)
theorem fieldD_lt (fmt : Nat) (a : List UInt8) (h : ∀ c ∈ a, isDec c = true) (i : Nat) : fieldD fmt a i < 16 := by
 unfold fieldD
 split
 ·
  omega
 ·
  rw [List.getD_eq_getElem?_getD]
  cases hq : a[a.length + i - 17]? with
  | none => decide
  | some c => exact hexv_lt16 c (h c (List.mem_of_getElem? hq))
theorem turnD_lt (fmt : Nat) (a : List UInt8) (l : List Nat) (h : ∀ c ∈ a, isDec c = true) (hl : ∀ c ∈ l, c < 16) : ∀ c ∈ turnD fmt a l, c < 16 := by
 intro c hc
 simp only [turnD, List.mem_map] at hc
 obtain ⟨i, _, rfl⟩ := hc
 exact xor_lt16 _ _ (getD_lt16 _ hl _) (fieldD_lt _ _ h _)
/-- to turn bytes is to turn their digits -/
theorem turn_pack (fmt : Nat) (a : List UInt8) (l : List Nat) (h13 : 13 ≤ a.length) (h : ∀ c ∈ a, isDec c = true) (hl : l.length = 16) (hlt : ∀ c ∈ l, c < 16) : turnC fmt a (packN l) = packN (turnD fmt a l) := by
 unfold turnC
 by_cases hf : fmt = 1
 ·
  rw [if_pos hf]
  congr 1
  apply List.ext_getElem
  ·
   rw [turnD_len, hl]
  ·
   intro i h1 h2
   have : fieldD fmt a i = 0 := by unfold fieldD; rw [if_pos (.inl hf)]
   simp only [turnD, List.getElem_map, List.getElem_range, this, Nat.xor_zero]
   rw [List.getD_eq_getElem?_getD, List.getElem?_eq_getElem h1]; rfl
 ·
  rw [if_neg hf, unhexL_pack, xor_pack _ _ hl (by rw [List.length_map, fieldS_len _ h13]) hlt (by
   intro c hc
   obtain ⟨x, hx, rfl⟩ := List.mem_map.1 hc
   exact hexv_lt x (fieldS_hex a h x hx))]
  congr 1
  unfold turnD
  apply List.map_congr_left
  intro i hi
  rw [fieldS_val fmt a h13 hf i (by simpa using hi)]
theorem rawD_len (fmt : Nat) (p : List UInt8) (fill : List Nat) (hf : fmt = 0 ∨ fmt = 1 ∨ fmt = 3) (hl : p.length < 16) (hfl : fill.length = 8) (hfb : ∀ c ∈ fill, c < 256) : (rawD fmt p fill).length = 16 := by
 rw [← raw_val fmt p fill hf hl hfb, List.length_map, raw_len _ _ _ hfl]
theorem rawD_lt (fmt : Nat) (p : List UInt8) (fill : List Nat) (hf : fmt = 0 ∨ fmt = 1 ∨ fmt = 3) (hl : p.length < 16) (hp : ∀ c ∈ p, isDec c = true) (hfb : ∀ c ∈ fill, c < 256) : ∀ c ∈ rawD fmt p fill, c < 16 := by
 rw [← raw_val fmt p fill hf hl hfb]
 intro c hc
 obtain ⟨x, hx, rfl⟩ := List.mem_map.1 hc
 exact hexv_lt x (raw_hex fmt p fill (by omega) hl hp hfb x hx)
/-- what the code makes is what the document asks for -/
theorem makeC_eq (fmt : Nat) (p a : List UInt8) (fill : List Nat) (hf : fmt = 0 ∨ fmt = 1 ∨ fmt = 3) (hl : p.length < 16) (hp : ∀ c ∈ p, isDec c = true) (h13 : 13 ≤ a.length) (ha : ∀ c ∈ a, isDec c = true) (hfl : fill.length = 8) (hfb : ∀ c ∈ fill, c < 256) :
    makeC fmt p a fill = makeD fmt p a fill := by
 unfold makeC makeD
 rw [unhexL_pack, raw_val fmt p fill hf hl hfb]
 exact turn_pack fmt a _ h13 ha (rawD_len fmt p fill hf hl hfl hfb) (rawD_lt fmt p fill hf hl hp hfb)
theorem turnC_len (fmt : Nat) (a : List UInt8) (b : List Nat) : (turnC fmt a b).length = b.length := by
 unfold turnC; split
 ·
  rfl
 ·
  exact xorTo_len _ _ _
theorem turnC_nib (fmt : Nat) (a : List UInt8) (b : List Nat) (h13 : 13 ≤ a.length) (ha : ∀ c ∈ a, isDec c = true) (hb : b.length = 8) (hlt : ∀ c ∈ b, c < 256) : nibN (turnC fmt a b) = turnD fmt a (nibN b) := by
 have := turn_pack fmt a (nibN b) h13 ha (by rw [nibN_len, hb]) (nibN_lt b hlt)
 rw [packN_nibN] at this
 rw [this, nibN_packN _ (turnD_lt fmt a _ ha (nibN_lt b hlt)) (by rw [turnD_len])]

/-- whether the digit c at place i is none that may be there -/
def noD (fmt c : Nat) : Bool := (fmt == 0 && c != 15) || (fmt == 3 && decide (c < 10)) || (fmt == 4 && c != 10)
def badD (fmt n i c : Nat) : Bool := if i < 2 + n then decide (9 < c) else noD fmt c
/-- the first place from k on, of so many, where it is bad -/
def firstD (fmt : Nat) (l : List Nat) : Nat → Nat → Option Nat
 | _, 0 => none
 | k, m + 1 => if badD fmt (l.getD 1 0) k (l.getD k 0) then some k else firstD fmt l (k + 1) m
/-- the place of what is wrong -/
def readAt (l : List Nat) (fmt : Nat) : Option Nat := if l.getD 0 0 ≠ fmt then some 0 else if l.getD 1 0 < 4 ∨ 12 < l.getD 1 0 then some 1 else firstD fmt l 2 14
def readV (l : List Nat) : List UInt8 := ((l.drop 2).take (l.getD 1 0)).map hexd
end Go.Proofs.YthodpjcdmdbnoaaGreatDoor.Pr
