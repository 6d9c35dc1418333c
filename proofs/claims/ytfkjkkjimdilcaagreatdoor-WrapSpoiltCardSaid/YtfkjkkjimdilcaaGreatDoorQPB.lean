/- Plain definitions and facts of PIN blocks, as lists of digits; no program in sight. The contracts of strconv.Itoa of one digit, pin.known, pin.text, pin.field, pin.filler, mode.Xor, pin.turned. The contracts of mode.Xor, pin.turned, pin.Make. -/
import Derived.Test.YtfkjkkjimdilcaaGreatDoorQPureAll
import Derived.Test.YtfkjkkjimdilcaaGreatDoorQPinAll
import Derived.Test.YtfkjkkjimdilcaaGreatDoorQEqual
import Derived.Test.YtfkjkkjimdilcaaGreatDoorQConv
import Derived.Test.YtfkjkkjimdilcaaGreatDoorQDesGH
import Derived.Test.YtfkjkkjimdilcaaGreatDoorQNums
import Derived.Test.YtfkjkkjimdilcaaGreatDoorQRefQ
set_option maxHeartbeats 8000000
set_option maxRecDepth 100000
/- Plain definitions and facts of PIN blocks, as lists of digits; no program in sight. -/
namespace Go.Proofs.YtfkjkkjimdilcaaGreatDoor.Pr

/-- bytes of two digits each -/
def packN (l : List Nat) : List Nat := (List.range (l.length / 2)).map fun j => 16 * l.getD (2 * j) 0 + l.getD (2 * j + 1) 0
/-- the two digits of each byte -/
def nibN (l : List Nat) : List Nat := l.flatMap fun c => [c / 16, c % 16]
theorem packN_len (l : List Nat) : (packN l).length = l.length / 2 := by simp [packN]
theorem nibN_len (l : List Nat) : (nibN l).length = 2 * l.length := by
 induction l with
 | nil => rfl
 | cons a l ih => simp only [nibN, List.flatMap_cons, List.length_append, List.length_cons, List.length_nil] at *; omega
theorem nibN_lt (l : List Nat) (h : ∀ c ∈ l, c < 256) : ∀ c ∈ nibN l, c < 16 := by
 intro c hc; simp only [nibN, List.mem_flatMap, List.mem_cons, List.not_mem_nil, or_false] at hc
 obtain ⟨a, ha, h1⟩ := hc; have := h a ha; omega
theorem nibN_getD (l : List Nat) : ∀ j, (nibN l).getD (2 * j) 0 = l.getD j 0 / 16 ∧ (nibN l).getD (2 * j + 1) 0 = l.getD j 0 % 16 := by
 induction l with
 | nil => intro j; simp [nibN]
 | cons a l ih =>
  intro j; have e : nibN (a :: l) = a / 16 :: a % 16 :: nibN l := by simp [nibN]
  rw [e]
  match j with
  | 0 => simp
  | j + 1 =>
   have := ih j; rw [show 2 * (j + 1) = 2 * j + 1 + 1 by omega, show 2 * j + 1 + 1 + 1 = (2 * j + 1) + 1 + 1 by omega]
   simpa using this
theorem packN_nibN (l : List Nat) : packN (nibN l) = l := by
 apply List.ext_getElem
 ·
  rw [packN_len, nibN_len]; omega
 ·
  intro i h1 h2; have := nibN_getD l i; simp only [packN, List.getElem_map, List.getElem_range]
  rw [this.1, this.2, List.getD_eq_getElem?_getD, List.getElem?_eq_getElem h2]; simp only [Option.getD_some]
  omega
theorem hexv_hexd (n : Nat) (h : n < 16) : hexv (hexd n) = n := by
 have : ∀ n < 16, hexv (hexd n) = n := by decide +kernel
 exact this n h
theorem unhexL_pack (s : List UInt8) : unhexL s = packN (s.map hexv) := by
 unfold unhexL packN
 rw [List.length_map]
 apply List.map_congr_left
 intro j _
 unfold unhexAt
 have e : ∀ i, (s.map hexv).getD i 0 = hexv (s.getD i 0) := by
  intro i; simp only [List.getD_eq_getElem?_getD, List.getElem?_map]
  cases s[i]? <;> rfl
 rw [e, e]; omega
theorem hexL_nib (l : List Nat) : hexL l = (nibN l).map hexd := by
 unfold hexL nibN
 rw [List.map_flatMap]
 rfl
theorem map_hexv_hexd (l : List Nat) (h : ∀ c ∈ l, c < 16) : (l.map hexd).map hexv = l := by
 rw [List.map_map]
 conv => rhs; rw [← List.map_id l]
 apply List.map_congr_left
 intro c hc; exact hexv_hexd c (h c hc)
theorem xorTo_getD (x y : List Nat) : ∀ n k, k < n → k < x.length → (xorTo x y n).getD k 0 = x.getD k 0 ^^^ y.getD k 0 := by
 intro n
 induction n with
 | zero => intro k h; omega
 | succ n ih =>
  intro k hk hx
  unfold xorTo
  by_cases e : k = n
  ·
   subst e; rw [List.getD_eq_getElem?_getD, List.getElem?_set_self (by rw [xorTo_len]; exact hx)]
   rfl
  ·
   rw [List.getD_eq_getElem?_getD, List.getElem?_set_ne (fun h => e h.symm), ← List.getD_eq_getElem?_getD]; exact ih k (by omega) hx
theorem range_getD (f : Nat → Nat) (n i : Nat) (h : i < n) : ((List.range n).map f).getD i 0 = f i := by
 rw [List.getD_eq_getElem?_getD]; simp [h]
end Go.Proofs.YtfkjkkjimdilcaaGreatDoor.Pr

/- The contracts of strconv.Itoa of one digit, pin.known, pin.text, pin.field, pin.filler, mode.Xor, pin.turned. -/
namespace Go.Proofs.YtfkjkkjimdilcaaGreatDoor
open Go Go.RowKit Pr

def str (L : List UInt8) : ByteArray := ⟨L.toArray⟩
theorem str_list (L : List UInt8) : (str L).data.toList = L := rfl
theorem str_size (L : List UInt8) : (str L).size = L.length := by simp [str, ByteArray.size]
theorem str_add (L M : List UInt8) : str L ++ str M = str (L ++ M) := by
 unfold str
 rw [cat_bytes]
theorem str_extract (L : List UInt8) (i j : Nat) : (str L).extract i j = str ((L.drop i).take (j - i)) := by
 apply ByteArray.ext
 apply Array.toList_inj.1
 rw [Lib.extract_data]
 unfold str
 simp [List.take_drop]
 try omega

theorem getD_256 (l : List Nat) (h : ∀ b ∈ l, b < 256) (i : Nat) : l.getD i 0 < 256 := by
 rw [List.getD_eq_getElem?_getD]
 rcases hq : l[i]? with _ | c
 ·
  simp
 ·
  exact h c (List.mem_of_getElem? hq)
theorem Own.ofBlk {w : World} {B g n : Nat} {l : List Nat} (h : Blk w g 5 (byteCells l)) (hg : B ≤ g) (hn : l.length = n) (hm : n ≤ 1000000) : Own w B (.slice (some ⟨g, 0, none⟩) n n) l := by
 subst hn; exact ⟨by simp [byteCells], .inr ⟨g, l.length, byteCells l, rfl, hg, h, Nat.le_refl _, by unfold maxLen; omega, by simp [byteCells], by rw [List.take_of_length_le (by simp [byteCells])]⟩⟩

theorem modeXor_any (x y : List Nat) (n : Nat) (hx : x.length = n) (hy : y.length = n) (hn : n ≤ 1000) (gx : ∀ c ∈ x, c < 256) (gy : ∀ c ∈ y, c < 256) (A B : Option Addr) (ca cb : Nat) (w : World) (hA : At w A x) (hB : At w B y) :
    Calls Tryz.prog 66 #[.slice A n ca, .slice B n cb] w fun e w' => (∃ v, e = .returned (.tuple #[v, .nilIface]) ∧ Own w' w.heap.size v (xorTo x y n)) ∧ Below w.heap.size w w' := by
 have hXl : (xorTo x y n).length = n := by rw [xorTo_len, hx]
 have hXg : ∀ k, k < n → (xorTo x y n).getD k 0 = x.getD k 0 ^^^ y.getD k 0 := fun k hk => xorTo_getD x y n k hk (by omega)
 have hcx : ∀ k, k < n → ∃ b o, A = some ⟨b, o, none⟩ ∧ ∀ W, Below w.heap.size w W → W.cell? ⟨b, o + k, none⟩ = some (.int .u8 (x.getD k 0 : Nat)) := fun k hk => by
  obtain ⟨b, o, e, hN⟩ := hA (by intro h; rw [h] at hx; simp at hx; omega); refine ⟨b, o, e, fun W hW => ?_⟩; rw [getD_of _ _ (by omega)]; exact (hN.below hW (hN.lt (by intro h; rw [h] at hx; simp at hx; omega))).cell k (by omega)
 have hcy : ∀ k, k < n → ∃ b o, B = some ⟨b, o, none⟩ ∧ ∀ W, Below w.heap.size w W → W.cell? ⟨b, o + k, none⟩ = some (.int .u8 (y.getD k 0 : Nat)) := fun k hk => by
  obtain ⟨b, o, e, hN⟩ := hB (by intro h; rw [h] at hy; simp at hy; omega); refine ⟨b, o, e, fun W hW => ?_⟩; rw [getD_of _ _ (by omega)]; exact (hN.below hW (hN.lt (by intro h; rw [h] at hy; simp at hy; omega))).cell k (by omega)
 have HG1 := Hh (fun i => getD_256 x gx i); have HG2 := Hh (fun i => getD_256 y gy i); generalize xorTo x y n = X at *; have HXL := Hh hXl; clear hXl; have HXG := Hh hXg; clear hXg; have HCX := Hh hcx; clear hcx; have HCY := Hh hcy; clear hcy; clear hA hB hx hy gx gy; have t1 : ((n : Int) != (n : Int)) = false := by simp
 go_enter Tryz.func66, Tryz.ntmps66
 go_wp2_with (refine wpList_make_bytes rfl (.tmp 15) (.tmp 15) rfl .i64 .i64 n n n rfl rfl rfl rfl (by omega) ?_; intro w1 hb1 hB1 hs1)
 have HS1 := Hh hs1; clear hs1
 go_loopw [19] (fun i wr => ∃ k : Nat, k ≤ n ∧ i = .int .i64 k ∧ Blk wr w.heap.size 5 (byteCells (fillN X n k)) ∧ Below w.heap.size w wr) (fun i _ => n - (intOf i).toNat)
 case atStart => exact ⟨0, by omega, rfl, by simpa [fillN] using hB1, hb1⟩
 case round =>
  obtain ⟨k, hk, rfl, hBr, hbr⟩ := hrel
  by_cases hlt : k < n
  ·
   obtain ⟨b1, o1, rfl, hL1⟩ := HCX.out k hlt; obtain ⟨b2, o2, rfl, hL2⟩ := HCY.out k hlt; have hl := fillN_len X n k hk HXL.out; have hcell := hBr.cell k; have hfr := hBr.frozen k; obtain ⟨c0, hc0⟩ : ∃ c, (byteCells (fillN X n k))[k]? = some c := ⟨_, get_byteCells _ k (by rw [hl]; exact hlt)⟩; rw [hc0] at hcell; clear hc0 hl; have hL1 := hL1 wr.drew (below_drewN hbr 1); have hL2 := hL2 wr.drew (below_drewN hbr 1); have hX := u8_xor_nat _ _ (HG1.out k) (HG2.out k); have hst := fillN_set X n k hlt HXL.out; have hXk : X[k]'(by rw [HXL.out]; exact hlt) = x.getD k 0 ^^^ y.getD k 0 := by rw [← HXG.out k hlt, getD_of]
   rw [hXk] at hst; have hnx := hBr.set_ k (.int .u8 ((x.getD k 0 ^^^ y.getD k 0 : Nat) : Int)); rw [show (byteCells (fillN X n k)).setIfInBounds k (.int .u8 ((x.getD k 0 ^^^ y.getD k 0 : Nat) : Int)) = byteCells ((fillN X n k).set k (x.getD k 0 ^^^ y.getD k 0)) from set_byteCells _ _ _, hst] at hnx; generalize x.getD k 0 = x1 at *; generalize y.getD k 0 = y1 at *; rw [← hX] at hnx; have HNX := Hh hnx; clear hnx hst hXk hX; have hcell' : wr.drew.cell? ⟨w.heap.size, k, none⟩ = some c0 := hcell; have hfr' : wr.drew.frozen? ⟨w.heap.size, k, none⟩ = false := hfr; clear hBr; go_wp2_with fail
   go_still_tail 12, (by kernel_rfl)
   change wpList _ _ _ _ _ wr.drew
   have hbr2 : Below w.heap.size w wr.drew := below_drewN hbr 1; have hnx2 : Blk (wr.drew.setCell ⟨w.heap.size, k, none⟩ (.int .u8 (bits .xor .u8 (x1 : Int) (y1 : Int)))) w.heap.size 5 (byteCells (fillN X n (k + 1))) := HNX.out; have HNX2 := Hh hnx2; clear hnx2 HNX; generalize wr.drew = w2 at *; go_wp2
   go_roundw
   case rel => exact ⟨k + 1, by omega, by go_num, HNX2.out, hbr2.setCell (by show w.heap.size ≤ w.heap.size; omega) _⟩
   case measure => simp [intOf]; omega
  ·
   obtain rfl : k = n := by omega
   rw [fillN_end _ _ HXL.out] at hBr; go_wp2
   go_ret2
   exact ⟨⟨_, rfl, Own.ofBlk hBr lr HXL.out (by omega)⟩, hbr⟩

end Go.Proofs.YtfkjkkjimdilcaaGreatDoor
