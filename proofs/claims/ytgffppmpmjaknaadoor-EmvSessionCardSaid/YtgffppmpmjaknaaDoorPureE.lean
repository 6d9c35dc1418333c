/- Pure: the reference's keys, its round's function, its block, on lists of bits; that they are what the program reckons. -/
import Derived.Test.YtgffppmpmjaknaaDoorPureD
namespace Go.Proofs.YtgffppmpmjaknaaDoor
open Go
namespace Pr

def refC (c : List Nat) : Nat → List Nat
  | 0 => c
  | r + 1 => (refC c r).drop (rotN r) ++ (refC c r).take (rotN r)
theorem rotN_le (r : Nat) : rotN r ≤ 28 := by unfold rotN; split <;> omega
theorem refC_bits (x : Nat) (hx : x < 268435456) : ∀ r, refC (bitsW 28 x) r = bitsW 28 (spun x r)
  | 0 => rfl
  | r + 1 => by rw [refC, refC_bits x hx r, spun, turn_bits _ _ (spun_lt x hx r) (rotN_le r)]
/-- a round's key -/
def keyR (l : List Nat) (r : Nat) : List Nat := permR (refC ((permR (bitsB l) psPC1).take 28) (r + 1) ++ refC ((permR (bitsB l) psPC1).drop 28) (r + 1)) psPC2
theorem keyR_bits (l : List Nat) (hl : l.length = 8) (h : ∀ c ∈ l, c < 256) (r : Nat) : keyR l r = bitsW 48 (keyN l r) := by
  have h1 : permR (bitsB l) psPC1 = bitsW 56 (pc1 l) := by
    rw [bitsB_be8 l h, hl]
    exact permR_bits (be8 l) 64 psPC1 (by decide)
  have hlt := pc1_lt l
  have h2 : bitsW 56 (pc1 l) = bitsW 28 (pc1 l / 268435456) ++ bitsW 28 (pc1 l % 268435456) := by
    have := bitsW_cat 28 28 (pc1 l / 268435456) (pc1 l % 268435456) (Nat.mod_lt _ (by decide))
    rw [show pc1 l / 268435456 * 2 ^ 28 + pc1 l % 268435456 = pc1 l by omega] at this
    exact this
  have ha : pc1 l / 268435456 < 268435456 := by omega
  have hb : pc1 l % 268435456 < 268435456 := by omega
  unfold keyR
  rw [h1, h2, List.take_left' (bitsW_len _ _), List.drop_left' (bitsW_len _ _), refC_bits _ ha, refC_bits _ hb]
  have hs := spun_lt _ hb (r + 1)
  have := bitsW_cat 28 28 (spun (pc1 l / 268435456) (r + 1)) (spun (pc1 l % 268435456) (r + 1)) hs
  rw [← this]
  exact permR_bits _ 56 psPC2 (by decide)

theorem bit_xor (a b m : Nat) : (a ^^^ b) / 2 ^ m % 2 = (a / 2 ^ m % 2) ^^^ (b / 2 ^ m % 2) := by
  rw [← Nat.shiftRight_eq_div_pow, ← Nat.shiftRight_eq_div_pow, ← Nat.shiftRight_eq_div_pow, Nat.shiftRight_xor_distrib]
  have := @Nat.xor_mod_two_pow (a >>> m) (b >>> m) 1
  simpa using this
theorem xor_bits (w a b : Nat) : bitsW w (a ^^^ b) = (List.range w).map fun i => (bitsW w a).getD i 0 ^^^ (bitsW w b).getD i 0 := by
  unfold bitsW
  apply List.map_congr_left
  intro i hi
  rw [List.mem_range] at hi
  rw [bit_xor]
  have := bitsW_getD w a i hi
  have h2 := bitsW_getD w b i hi
  unfold bitsW at this h2
  rw [this, h2]

theorem wide_bits (h : Nat) (hh : h < 4294967296) : bitsW 34 (wideN h) = [h % 2] ++ (bitsW 32 h ++ [h / 2 ^ 31]) := by
  have h1 : h / 2 ^ 31 < 2 := by omega
  have h2 := bitsW_snoc 32 h (h / 2 ^ 31) h1
  have h3 := bitsW_cat 1 33 (h % 2) (2 * h + h / 2 ^ 31) (by omega)
  rw [h2] at h3
  have h4 : wideN h = h % 2 * 2 ^ 33 + (2 * h + h / 2 ^ 31) := by unfold wideN; omega
  rw [h4]
  rw [show (34 : Nat) = 1 + 33 from rfl, h3]
  congr 1
  simp [bitsW]
theorem wide_getD (h m : Nat) (hh : h < 4294967296) (hm : m < 34) : (bitsW 34 (wideN h)).getD m 0 = (bitsW 32 h).getD ((m + 31) % 32) 0 := by
  rw [wide_bits h hh]
  rcases (by omega : m = 0 ∨ (1 ≤ m ∧ m ≤ 32) ∨ m = 33) with rfl | ⟨h1, h2⟩ | rfl
  · rw [bitsW_getD 32 h _ (by decide)]; simp
  · obtain ⟨k, rfl⟩ := Nat.exists_eq_add_of_le' h1
    rw [show (k + 1 + 31) % 32 = k by omega]
    rw [List.getD_eq_getElem?_getD, List.getD_eq_getElem?_getD, List.getElem?_append_right (by simp), List.length_singleton, Nat.add_sub_cancel, List.getElem?_append_left (by rw [bitsW_len]; omega)]
  · rw [bitsW_getD 32 h _ (by decide)]
    rw [List.getD_eq_getElem?_getD, List.getElem?_append_right (by simp), List.getElem?_append_right (by simp [bitsW_len])]
    simp [bitsW_len]
    omega
/-- the six bits that pick from a box -/
def sixR (half key : List Nat) (i : Nat) : List Nat := (List.range 6).map fun j => half.getD ((4 * i + j + 31) % 32) 0 ^^^ key.getD (6 * i + j) 0
theorem sub_bit (x k m : Nat) (hm : m < 6) : x / 2 ^ k % 64 / 2 ^ m % 2 = x / 2 ^ (k + m) % 2 := by
  rw [Nat.pow_add, ← Nat.div_div_eq_div_mul]
  generalize x / 2 ^ k = y
  rcases (by omega : m = 0 ∨ m = 1 ∨ m = 2 ∨ m = 3 ∨ m = 4 ∨ m = 5) with rfl | rfl | rfl | rfl | rfl | rfl <;> omega
theorem sixR_bits (h k i : Nat) (hh : h < 4294967296) (hi : i < 8) : sixR (bitsW 32 h) (bitsW 48 k) i = bitsW 6 (sixN h k i) := by
  unfold sixR
  rw [sixN, xor_bits]
  apply List.map_congr_left
  intro j hj
  rw [List.mem_range] at hj
  congr 1
  · rw [bitsW_getD 6 _ j hj, sub_bit _ _ _ (by omega), ← wide_getD h (4 * i + j) hh (by omega), bitsW_getD 34 _ _ (by omega)]
    congr 3
    omega
  · rw [bitsW_getD 6 _ j hj, sub_bit _ _ _ (by omega), bitsW_getD 48 _ _ (by omega)]
    congr 3
    omega
def nibR (half key : List Nat) (i : Nat) : List Nat :=
  let s := sixR half key i
  let x := (boxes.getD i []).getD (16 * (2 * s.getD 0 0 + s.getD 5 0) + (8 * s.getD 1 0 + 4 * s.getD 2 0 + 2 * s.getD 3 0 + s.getD 4 0)) 0
  [x / 8 % 2, x / 4 % 2, x / 2 % 2, x % 2]
theorem box_place : ∀ six < 64, ((six / 16) &&& 2 ||| six &&& 1) * 16 + six / 2 % 16 = 16 * (2 * ((bitsW 6 six).getD 0 0) + (bitsW 6 six).getD 5 0) + (8 * (bitsW 6 six).getD 1 0 + 4 * (bitsW 6 six).getD 2 0 + 2 * (bitsW 6 six).getD 3 0 + (bitsW 6 six).getD 4 0) := by decide +kernel
theorem nibR_bits (h k i : Nat) (hh : h < 4294967296) (hi : i < 8) : nibR (bitsW 32 h) (bitsW 48 k) i = bitsW 4 (boxN i (sixN h k i)) := by
  unfold nibR
  rw [sixR_bits h k i hh hi]
  simp only
  rw [← box_place _ (sixN_lt h k i)]
  show _ = bitsW 4 ((boxes.getD i []).getD _ 0)
  simp [bitsW, List.range, List.range.loop]
def outR (half key : List Nat) : Nat → List Nat
  | 0 => []
  | i + 1 => outR half key i ++ nibR half key i
theorem outR_bits (h k : Nat) (hh : h < 4294967296) : ∀ i, i ≤ 8 → outR (bitsW 32 h) (bitsW 48 k) i = bitsW (4 * i) (mixB h k i)
  | 0, _ => rfl
  | i + 1, hi => by
    rw [outR, outR_bits h k hh i (by omega), nibR_bits h k i hh (by omega), mixB]
    have := bitsW_cat (4 * i) 4 (mixB h k i) (boxN i (sixN h k i)) (boxN_lt i _ (by omega) (sixN_lt _ _ _))
    rw [show 4 * (i + 1) = 4 * i + 4 by omega, ← this]
def mixR (half key : List Nat) : List Nat := permR (outR half key 8) psP
theorem mixR_bits (h k : Nat) (hh : h < 4294967296) : mixR (bitsW 32 h) (bitsW 48 k) = bitsW 32 (mixN h k) := by
  unfold mixR mixN
  rw [outR_bits h k hh 8 (Nat.le_refl _)]
  exact permR_bits _ 32 psP (by decide)

/-- the halves, round by round -/
def ladderR (ks : Nat → List Nat) (left right : List Nat) : Nat → List Nat × List Nat
  | 0 => (left, right)
  | r + 1 => let p := ladderR ks left right r; (p.2, (List.range 32).map fun i => p.1.getD i 0 ^^^ (mixR p.2 (ks r)).getD i 0)
theorem ladderR_bits (ns : List Nat) (back : Bool) (x : Nat) (hx : x < 18446744073709551616) (ks : Nat → List Nat) (hks : ∀ r, r < 16 → ks r = bitsW 48 (ns.getD (if back then 15 - r else r) 0)) :
    ∀ r, r ≤ 16 → ladderR ks (bitsW 32 (x / 4294967296)) (bitsW 32 (x % 4294967296)) r = (bitsW 32 (ladderN ns back x r).1, bitsW 32 (ladderN ns back x r).2)
  | 0, _ => rfl
  | r + 1, hr => by
    have hlt := ladderN_lt ns back x hx r
    rw [ladderR, ladderR_bits ns back x hx ks hks r (by omega)]
    simp only [ladderN]
    rw [hks r (by omega), mixR_bits _ _ hlt.2, xor_bits]
end Pr
end Go.Proofs.YtgffppmpmjaknaaDoor
