/- Pure: numbers as lists of bits; what the reference reckons of DES, on such lists. -/
import Derived.Test.YtgffppmpmjaknaaDoorPure
namespace Go.Proofs.YtgffppmpmjaknaaDoor
open Go
namespace Pr

theorem snoc_ind {α : Type} {C : List α → Prop} (h0 : C []) (h1 : ∀ l a, C l → C (l ++ [a])) (l : List α) : C l := by
  have : ∀ l : List α, C l.reverse := by
    intro l
    induction l with
    | nil => exact h0
    | cons a l ih => rw [List.reverse_cons]; exact h1 _ _ ih
  have := this l.reverse
  rwa [List.reverse_reverse] at this

/-- the w bits of x, the highest first -/
def bitsW (w x : Nat) : List Nat := (List.range w).map fun i => x / 2 ^ (w - 1 - i) % 2
theorem bitsW_len (w x : Nat) : (bitsW w x).length = w := by simp [bitsW]
theorem bitsW_get (w x i : Nat) (h : i < w) : (bitsW w x)[i]'(by rw [bitsW_len]; exact h) = x / 2 ^ (w - 1 - i) % 2 := by simp [bitsW]
theorem bitsW_getD (w x i : Nat) (h : i < w) : (bitsW w x).getD i 0 = x / 2 ^ (w - 1 - i) % 2 := by
  rw [List.getD_eq_getElem?_getD, List.getElem?_eq_getElem (by rw [bitsW_len]; exact h), Option.getD_some, bitsW_get w x i h]
theorem bitsW_lt (w x : Nat) : ∀ b ∈ bitsW w x, b < 2 := by
  intro b hb
  simp only [bitsW, List.mem_map] at hb
  obtain ⟨k, _, rfl⟩ := hb
  exact Nat.mod_lt _ (by omega)
theorem bitsW_cat (a b q r : Nat) (hr : r < 2 ^ b) : bitsW (a + b) (q * 2 ^ b + r) = bitsW a q ++ bitsW b r := by
  apply List.ext_getElem
  · simp [bitsW]
  · intro i h1 h2
    rw [bitsW_len] at h1
    rw [bitsW_get _ _ _ h1]
    rcases Nat.lt_or_ge i a with h | h
    · rw [List.getElem_append_left (by rw [bitsW_len]; exact h), bitsW_get _ _ _ h]
      rw [show a + b - 1 - i = b + (a - 1 - i) by omega, Nat.pow_add, ← Nat.div_div_eq_div_mul]
      congr 2
      rw [Nat.mul_comm, Nat.mul_add_div (Nat.two_pow_pos b), Nat.div_eq_of_lt hr, Nat.add_zero]
    · have hj : i - a < b := by omega
      rw [List.getElem_append_right (by rw [bitsW_len]; exact h)]
      simp only [bitsW_len]
      rw [bitsW_get _ _ _ hj]
      obtain ⟨j, rfl⟩ := Nat.exists_eq_add_of_le h
      rw [show a + b - 1 - (a + j) = b - 1 - j by omega, show a + j - a = j by omega]
      have e : 2 ^ b = 2 ^ (b - 1 - j) * (2 * 2 ^ j) := by
        rw [← Nat.pow_succ', ← Nat.pow_add]; congr 1; omega
      rw [e, show q * (2 ^ (b - 1 - j) * (2 * 2 ^ j)) = 2 ^ (b - 1 - j) * (q * (2 * 2 ^ j)) by rw [← Nat.mul_assoc, Nat.mul_comm q, Nat.mul_assoc]]
      rw [Nat.mul_add_div (Nat.two_pow_pos _)]
      rw [show q * (2 * 2 ^ j) = 2 * (q * 2 ^ j) by rw [← Nat.mul_assoc, Nat.mul_comm q 2, Nat.mul_assoc], Nat.mul_add_mod]
theorem bitsW_snoc (w a b : Nat) (hb : b < 2) : bitsW (w + 1) (2 * a + b) = bitsW w a ++ [b] := by
  have := bitsW_cat w 1 a b (by simpa using hb)
  rw [show a * 2 ^ 1 + b = 2 * a + b by omega] at this
  rw [this]
  congr 1
  simp [bitsW]
  omega

/-- a byte's bits -/
def bitsB (l : List Nat) : List Nat := l.flatMap (bitsW 8)
theorem bitsB_snoc (l : List Nat) (c : Nat) : bitsB (l ++ [c]) = bitsB l ++ bitsW 8 c := by simp [bitsB]
theorem bitsB_len (l : List Nat) : (bitsB l).length = 8 * l.length := by
  induction l with
  | nil => rfl
  | cons c l ih => rw [bitsB, List.flatMap_cons, List.length_append, bitsW_len]; show 8 + (bitsB l).length = _; rw [ih, List.length_cons]; omega
theorem bitsB_lt (l : List Nat) : ∀ b ∈ bitsB l, b < 2 := by
  intro b hb
  simp only [bitsB, List.mem_flatMap] at hb
  obtain ⟨c, _, hb⟩ := hb
  exact bitsW_lt 8 c b hb
theorem bitsB_be8 (l : List Nat) (h : ∀ c ∈ l, c < 256) : bitsB l = bitsW (8 * l.length) (be8 l) := by
  revert h
  refine snoc_ind (C := fun l => (∀ c ∈ l, c < 256) → bitsB l = bitsW (8 * l.length) (be8 l)) (fun _ => rfl) (fun l c ih h => ?_) l
  · rw [bitsB_snoc, be8_snoc, ih (fun x hx => h x (List.mem_append_left _ hx)), List.length_append]
    have := bitsW_cat (8 * l.length) 8 (be8 l) c (h c (by simp))
    rw [show 8 * (l.length + [c].length) = 8 * l.length + 8 by simp; omega, show be8 l * 256 + c = be8 l * 2 ^ 8 + c by rfl, this]

/-- bits picked by places -/
def permR (l ps : List Nat) : List Nat := ps.map fun p => l.getD (p - 1) 0
theorem permR_bits (x size : Nat) (ps : List Nat) (h : ∀ p ∈ ps, 1 ≤ p ∧ p ≤ size) : permR (bitsW size x) ps = bitsW ps.length (permN x size ps) := by
  revert h
  refine snoc_ind (C := fun ps => (∀ p ∈ ps, 1 ≤ p ∧ p ≤ size) → permR (bitsW size x) ps = bitsW ps.length (permN x size ps)) (fun _ => rfl) (fun ps p ih h => ?_) ps
  · obtain ⟨h1, h2⟩ := h p (by simp)
    rw [permN_snoc, List.length_append, show ps.length + [p].length = ps.length + 1 from rfl, bitsW_snoc _ _ _ (Nat.mod_lt _ (by omega)), ← ih (fun q hq => h q (List.mem_append_left _ hq))]
    unfold permR
    rw [List.map_append, List.map_cons, List.map_nil, bitsW_getD size x (p - 1) (by omega), show size - 1 - (p - 1) = size - p by omega]
theorem turn_bits (x n : Nat) (hx : x < 2 ^ 28) (hn : n ≤ 28) : bitsW 28 (turnN x n) = (bitsW 28 x).drop n ++ (bitsW 28 x).take n := by
  obtain ⟨q, hq⟩ : ∃ q, x / 2 ^ (28 - n) = q := ⟨_, rfl⟩
  obtain ⟨r, hr⟩ : ∃ r, x % 2 ^ (28 - n) = r := ⟨_, rfl⟩
  have hrl : r < 2 ^ (28 - n) := by rw [← hr]; exact Nat.mod_lt _ (Nat.two_pow_pos _)
  have e28 : 2 ^ 28 = 2 ^ (28 - n) * 2 ^ n := by rw [← Nat.pow_add]; congr 1; omega
  have hql : q < 2 ^ n := by rw [← hq]; exact Nat.div_lt_of_lt_mul (by rw [← e28]; exact hx)
  have hx2 : x = q * 2 ^ (28 - n) + r := by rw [← hq, ← hr, Nat.mul_comm]; exact (Nat.div_add_mod _ _).symm
  have hy : turnN x n = r * 2 ^ n + q := by
    unfold turnN
    rw [hq]
    have : x * 2 ^ n = q * 2 ^ 28 + r * 2 ^ n := by
      rw [e28, hx2, Nat.add_mul, Nat.mul_assoc]
    rw [this, Nat.add_assoc, Nat.mul_comm q, Nat.mul_add_mod]
    refine Nat.mod_eq_of_lt ?_
    rw [e28]
    have h1 : r + 1 ≤ 2 ^ (28 - n) := hrl
    have h2 := Nat.mul_le_mul_right (2 ^ n) h1
    rw [Nat.add_mul, Nat.one_mul] at h2
    omega
  have h1 : bitsW 28 x = bitsW n q ++ bitsW (28 - n) r := by
    have := bitsW_cat n (28 - n) q r hrl
    rw [show n + (28 - n) = 28 by omega, ← hx2] at this
    exact this
  have h2 : bitsW 28 (turnN x n) = bitsW (28 - n) r ++ bitsW n q := by
    have := bitsW_cat (28 - n) n r q hql
    rw [show 28 - n + n = 28 by omega, ← hy] at this
    exact this
  rw [h2, h1, List.drop_left' (bitsW_len _ _), List.take_left' (bitsW_len _ _)]
end Pr
end Go.Proofs.YtgffppmpmjaknaaDoor
