/- Plain definitions and facts of PIN blocks, as lists of digits; no program in sight. -/
import Derived.Test.YtfkjkkjimdilcaaGreatDoorLPureAll
namespace Go.Proofs.YtfkjkkjimdilcaaGreatDoor.Pr

/-- bytes of two digits each -/
def packN (l : List Nat) : List Nat := (List.range (l.length / 2)).map fun j => 16 * l.getD (2 * j) 0 + l.getD (2 * j + 1) 0
/-- the two digits of each byte -/
def nibN (l : List Nat) : List Nat := l.flatMap fun c => [c / 16, c % 16]
theorem packN_len (l : List Nat) : (packN l).length = l.length / 2 := by simp [packN]
theorem nibN_len (l : List Nat) : (nibN l).length = 2 * l.length := by
 induction l with
 | nil => rfl
 | cons a l ih => simp only [nibN, List.flatMap_cons, List.length_append, List.length_cons, List.length_nil] at *; omega
theorem nibN_lt (l : List Nat) (h : ∀ c ∈ l, c < 256) : ∀ c ∈ nibN l, c < 16 := by
 intro c hc
 simp only [nibN, List.mem_flatMap, List.mem_cons, List.not_mem_nil, or_false] at hc
 obtain ⟨a, ha, h1⟩ := hc
 have := h a ha
 omega
theorem nibN_getD (l : List Nat) : ∀ j, (nibN l).getD (2 * j) 0 = l.getD j 0 / 16 ∧ (nibN l).getD (2 * j + 1) 0 = l.getD j 0 % 16 := by
 induction l with
 | nil => intro j; simp [nibN]
 | cons a l ih =>
  intro j
  have e : nibN (a :: l) = a / 16 :: a % 16 :: nibN l := by simp [nibN]
  rw [e]
  match j with
  | 0 => simp
  | j + 1 =>
   have := ih j
   rw [show 2 * (j + 1) = 2 * j + 1 + 1 by omega, show 2 * j + 1 + 1 + 1 = (2 * j + 1) + 1 + 1 by omega]
   simpa using this
theorem packN_nibN (l : List Nat) : packN (nibN l) = l := by
 apply List.ext_getElem
 ·
  rw [packN_len, nibN_len]; omega
 ·
  intro i h1 h2
  have := nibN_getD l i
  simp only [packN, List.getElem_map, List.getElem_range]
  rw [this.1, this.2, List.getD_eq_getElem?_getD, List.getElem?_eq_getElem h2]
  simp only [Option.getD_some]
  omega
theorem hexv_hexd (n : Nat) (h : n < 16) : hexv (hexd n) = n := by
 have : ∀ n < 16, hexv (hexd n) = n := by decide +kernel
 exact this n h
theorem unhexL_pack (s : List UInt8) : unhexL s = packN (s.map hexv) := by
 unfold unhexL packN
 rw [List.length_map]
 apply List.map_congr_left
 intro j _
 unfold unhexAt
 have e : ∀ i, (s.map hexv).getD i 0 = hexv (s.getD i 0) := by
  intro i
  simp only [List.getD_eq_getElem?_getD, List.getElem?_map]
  cases s[i]? <;> rfl
 rw [e, e]
 omega
theorem hexL_nib (l : List Nat) : hexL l = (nibN l).map hexd := by
 unfold hexL nibN
 rw [List.map_flatMap]
 rfl
theorem map_hexv_hexd (l : List Nat) (h : ∀ c ∈ l, c < 16) : (l.map hexd).map hexv = l := by
 rw [List.map_map]
 conv => rhs; rw [← List.map_id l]
 apply List.map_congr_left
 intro c hc
 exact hexv_hexd c (h c hc)
theorem xorTo_getD (x y : List Nat) : ∀ n k, k < n → k < x.length → (xorTo x y n).getD k 0 = x.getD k 0 ^^^ y.getD k 0 := by
 intro n
 induction n with
 | zero => intro k h; omega
 | succ n ih =>
  intro k hk hx
  unfold xorTo
  by_cases e : k = n
  ·
   subst e
   rw [List.getD_eq_getElem?_getD, List.getElem?_set_self (by rw [xorTo_len]; exact hx)]
   rfl
  ·
   rw [List.getD_eq_getElem?_getD, List.getElem?_set_ne (fun h => e h.symm), ← List.getD_eq_getElem?_getD]
   exact ih k (by omega) hx
theorem range_getD (f : Nat → Nat) (n i : Nat) (h : i < n) : ((List.range n).map f).getD i 0 = f i := by
 rw [List.getD_eq_getElem?_getD]; simp [h]
end Go.Proofs.YtfkjkkjimdilcaaGreatDoor.Pr
