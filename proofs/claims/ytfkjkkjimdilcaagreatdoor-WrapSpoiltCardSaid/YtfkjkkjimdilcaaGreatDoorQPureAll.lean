/- Plain definitions and facts: what the code computes; no program in sight. Plain definitions and facts on texts of digits; no program in sight. Pure: what cvv.Of reckons. Pure: numbers as lists of bits; what the reference reckons of DES, on such lists. Pure: the reference's keys, its round's function, its block, on lists of bits; that they are what the program reckons. -/
import Derived.Laws.BitsAllLaws
import Derived.Lib.Bytealg
import Derived.Lib.Repeat
/- Plain definitions and facts: what the code computes; no program in sight. -/
namespace Go.Proofs.YtfkjkkjimdilcaaGreatDoor.Pr

/-- byte k of a text, as a number -/
def tb (t : ByteArray) (k : Nat) : Nat := if h : k < t.size then (t[k]).toNat else 0
theorem tb_of {t : ByteArray} {k : Nat} (h : k < t.size) : tb t k = (t[k]).toNat := dif_pos h

/-- a table of places, two decimal digits each -/
structure Tab (t : ByteArray) (size : Nat) (ps : List Nat) : Prop where
 len : t.size = 2 * ps.length
 short : ps.length ≤ 64
 dig : ∀ j (h : j < ps.length), tb t (2 * j) = 48 + ps[j] / 10 ∧ tb t (2 * j + 1) = 48 + ps[j] % 10 ∧ 1 ≤ ps[j] ∧ ps[j] ≤ size

theorem Tab.at_ {t : ByteArray} {size : Nat} {ps : List Nat} (h : Tab t size ps) {j k : Nat} (hk : k = 2 * j) (hlt : k < t.size) :
    ∃ (hj : j < ps.length) (h2 : k + 1 < t.size), (t[k]).toNat = 48 + ps[j] / 10 ∧ (t[k + 1]).toNat = 48 + ps[j] % 10 ∧ 1 ≤ ps[j] ∧ ps[j] ≤ size := by
 have h0 := h.len; have hj : j < ps.length := by omega
 have h2 : k + 1 < t.size := by omega
 obtain ⟨d1, d2, d3, d4⟩ := h.dig j hj; subst hk; rw [tb_of hlt] at d1; rw [tb_of h2] at d2; exact ⟨hj, h2, d1, d2, d3, d4⟩

theorem Tab.pos {t : ByteArray} {size : Nat} {ps : List Nat} (h : Tab t size ps) : ∀ p ∈ ps, 1 ≤ p := by
 intro p hp; obtain ⟨j, hj, rfl⟩ := List.getElem_of_mem hp; exact (h.dig j hj).2.2.1

theorem getD_of (ps : List Nat) (j : Nat) (h : j < ps.length) : ps.getD j 0 = ps[j] := by simp [List.getD_eq_getElem?_getD, h]

def permN (x size : Nat) (ps : List Nat) : Nat := ps.foldl (fun o n => 2 * o + x / 2 ^ (size - n) % 2) 0

theorem permN_lt (x size : Nat) (ps : List Nat) : permN x size ps < 2 ^ ps.length := by
 unfold permN
 have : ∀ (ps : List Nat) (a k : Nat), a < 2 ^ k → ps.foldl (fun o n => 2 * o + x / 2 ^ (size - n) % 2) a < 2 ^ (k + ps.length) := by
  intro ps
  induction ps with
  | nil => intro a k h; simpa using h
  | cons p ps ih =>
   intro a k h; simp only [List.foldl_cons, List.length_cons]
   rw [show k + (ps.length + 1) = (k + 1) + ps.length by omega]
   apply ih
   rw [Nat.pow_succ]; omega
 simpa using this ps 0 0 (by simp)

theorem permN_snoc (x size : Nat) (ps : List Nat) (n : Nat) : permN x size (ps ++ [n]) = 2 * permN x size ps + x / 2 ^ (size - n) % 2 := by
 simp [permN]

def unpN (x : Nat) (ps : List Nat) : Nat → Nat
 | 0 => 0
 | j + 1 => unpN x ps j ||| (x / 2 ^ (63 - j) % 2) * 2 ^ (64 - ps.getD j 0)

theorem unpN_lt (x : Nat) (ps : List Nat) (h : ∀ p ∈ ps, 1 ≤ p) (j : Nat) (hj : j ≤ ps.length) : unpN x ps j < 2 ^ 64 := by
 induction j with
 | zero => simp [unpN]
 | succ j ih =>
  have e : ps.getD j 0 = ps[j] := by simp [List.getD_eq_getElem?_getD, show j < ps.length by omega]
  have hp : 1 ≤ ps.getD j 0 := by rw [e]; exact h _ (List.getElem_mem _)
  refine Nat.or_lt_two_pow (ih (by omega)) ?_; have h1 : 2 ^ (64 - ps.getD j 0) ≤ 2 ^ 63 := Nat.pow_le_pow_right (by omega) (by omega); have h2 : x / 2 ^ (63 - j) % 2 < 2 := Nat.mod_lt _ (by omega); generalize 2 ^ (64 - ps.getD j 0) = q at *
  rcases (show x / 2 ^ (63 - j) % 2 = 0 ∨ x / 2 ^ (63 - j) % 2 = 1 by omega) with e | e <;> rw [e] <;> omega

def turnN (x n : Nat) : Nat := (x * 2 ^ n + x / 2 ^ (28 - n)) % 2 ^ 28

def hexN (c : Nat) : Nat := if c ≥ 97 then c - 87 else c - 48
def tabB (t : ByteArray) (size : Nat) (ps : List Nat) : Bool :=
 t.size == 2 * ps.length && decide (ps.length ≤ 64) && (List.range ps.length).all fun j => tb t (2 * j) == 48 + ps.getD j 0 / 10 && tb t (2 * j + 1) == 48 + ps.getD j 0 % 10 && decide (1 ≤ ps.getD j 0) && decide (ps.getD j 0 ≤ size)
theorem tab_of {t : ByteArray} {size : Nat} {ps : List Nat} (h : tabB t size ps = true) : Tab t size ps := by
 simp only [tabB, Bool.and_eq_true, beq_iff_eq, decide_eq_true_eq, List.all_eq_true, List.mem_range] at h
 obtain ⟨⟨h1, h2⟩, h3⟩ := h; refine ⟨h1, h2, fun j hj => ?_⟩; have := h3 j hj; rw [getD_of ps j hj] at this; exact ⟨this.1.1.1, this.1.1.2, this.1.2, this.2⟩
def psIP : List Nat := [58, 50, 42, 34, 26, 18, 10, 2, 60, 52, 44, 36, 28, 20, 12, 4, 62, 54, 46, 38, 30, 22, 14, 6, 64, 56, 48, 40, 32, 24, 16, 8, 57, 49, 41, 33, 25, 17, 9, 1, 59, 51, 43, 35, 27, 19, 11, 3, 61, 53, 45, 37, 29, 21, 13, 5, 63, 55, 47, 39, 31, 23, 15, 7]
def psP : List Nat := [16, 7, 20, 21, 29, 12, 28, 17, 1, 15, 23, 26, 5, 18, 31, 10, 2, 8, 24, 14, 32, 27, 3, 9, 19, 13, 30, 6, 22, 11, 4, 25]
def psPC1 : List Nat := [57, 49, 41, 33, 25, 17, 9, 1, 58, 50, 42, 34, 26, 18, 10, 2, 59, 51, 43, 35, 27, 19, 11, 3, 60, 52, 44, 36, 63, 55, 47, 39, 31, 23, 15, 7, 62, 54, 46, 38, 30, 22, 14, 6, 61, 53, 45, 37, 29, 21, 13, 5, 28, 20, 12, 4]
def psPC2 : List Nat := [14, 17, 11, 24, 1, 5, 3, 28, 15, 6, 21, 10, 23, 19, 12, 4, 26, 8, 16, 7, 27, 20, 13, 2, 41, 52, 31, 37, 47, 55, 30, 40, 51, 45, 33, 48, 44, 49, 39, 56, 34, 53, 46, 42, 50, 36, 29, 32]
/-- the eight boxes' digits -/
def boxes : List (List Nat) := [[14, 4, 13, 1, 2, 15, 11, 8, 3, 10, 6, 12, 5, 9, 0, 7, 0, 15, 7, 4, 14, 2, 13, 1, 10, 6, 12, 11, 9, 5, 3, 8, 4, 1, 14, 8, 13, 6, 2, 11, 15, 12, 9, 7, 3, 10, 5, 0, 15, 12, 8, 2, 4, 9, 1, 7, 5, 11, 3, 14, 10, 0, 6, 13], [15, 1, 8, 14, 6, 11, 3, 4, 9, 7, 2, 13, 12, 0, 5, 10, 3, 13, 4, 7, 15, 2, 8, 14, 12, 0, 1, 10, 6, 9, 11, 5, 0, 14, 7, 11, 10, 4, 13, 1, 5, 8, 12, 6, 9, 3, 2, 15, 13, 8, 10, 1, 3, 15, 4, 2, 11, 6, 7, 12, 0, 5, 14, 9], [10, 0, 9, 14, 6, 3, 15, 5, 1, 13, 12, 7, 11, 4, 2, 8, 13, 7, 0, 9, 3, 4, 6, 10, 2, 8, 5, 14, 12, 11, 15, 1, 13, 6, 4, 9, 8, 15, 3, 0, 11, 1, 2, 12, 5, 10, 14, 7, 1, 10, 13, 0, 6, 9, 8, 7, 4, 15, 14, 3, 11, 5, 2, 12], [7, 13, 14, 3, 0, 6, 9, 10, 1, 2, 8, 5, 11, 12, 4, 15, 13, 8, 11, 5, 6, 15, 0, 3, 4, 7, 2, 12, 1, 10, 14, 9, 10, 6, 9, 0, 12, 11, 7, 13, 15, 1, 3, 14, 5, 2, 8, 4, 3, 15, 0, 6, 10, 1, 13, 8, 9, 4, 5, 11, 12, 7, 2, 14], [2, 12, 4, 1, 7, 10, 11, 6, 8, 5, 3, 15, 13, 0, 14, 9, 14, 11, 2, 12, 4, 7, 13, 1, 5, 0, 15, 10, 3, 9, 8, 6, 4, 2, 1, 11, 10, 13, 7, 8, 15, 9, 12, 5, 6, 3, 0, 14, 11, 8, 12, 7, 1, 14, 2, 13, 6, 15, 0, 9, 10, 4, 5, 3], [12, 1, 10, 15, 9, 2, 6, 8, 0, 13, 3, 4, 14, 7, 5, 11, 10, 15, 4, 2, 7, 12, 9, 5, 6, 1, 13, 14, 0, 11, 3, 8, 9, 14, 15, 5, 2, 8, 12, 3, 7, 0, 4, 10, 1, 13, 11, 6, 4, 3, 2, 12, 9, 5, 15, 10, 11, 14, 1, 7, 6, 0, 8, 13], [4, 11, 2, 14, 15, 0, 8, 13, 3, 12, 9, 7, 5, 10, 6, 1, 13, 0, 11, 7, 4, 9, 1, 10, 14, 3, 5, 12, 2, 15, 8, 6, 1, 4, 11, 13, 12, 3, 7, 14, 10, 15, 6, 8, 0, 5, 9, 2, 6, 11, 13, 8, 1, 4, 10, 7, 9, 5, 0, 15, 14, 2, 3, 12], [13, 2, 8, 4, 6, 15, 11, 1, 10, 9, 3, 14, 5, 0, 12, 7, 1, 15, 13, 8, 10, 3, 7, 4, 12, 5, 6, 11, 0, 14, 9, 2, 7, 11, 4, 1, 9, 12, 14, 2, 0, 6, 10, 13, 15, 3, 5, 8, 2, 1, 14, 7, 4, 10, 8, 13, 15, 12, 9, 0, 3, 5, 6, 11]]
def boxN (i six : Nat) : Nat := (boxes.getD i []).getD (((six / 16) &&& 2 ||| six &&& 1) * 16 + six / 2 % 16) 0
/-- the eight boxes' texts -/
def boxS (i : Nat) : ByteArray := [⟨#[101, 52, 100, 49, 50, 102, 98, 56, 51, 97, 54, 99, 53, 57, 48, 55, 48, 102, 55, 52, 101, 50, 100, 49, 97, 54, 99, 98, 57, 53, 51, 56, 52, 49, 101, 56, 100, 54, 50, 98, 102, 99, 57, 55, 51, 97, 53, 48, 102, 99, 56, 50, 52, 57, 49, 55, 53, 98, 51, 101, 97, 48, 54, 100]⟩, ⟨#[102, 49, 56, 101, 54, 98, 51, 52, 57, 55, 50, 100, 99, 48, 53, 97, 51, 100, 52, 55, 102, 50, 56, 101, 99, 48, 49, 97, 54, 57, 98, 53, 48, 101, 55, 98, 97, 52, 100, 49, 53, 56, 99, 54, 57, 51, 50, 102, 100, 56, 97, 49, 51, 102, 52, 50, 98, 54, 55, 99, 48, 53, 101, 57]⟩, ⟨#[97, 48, 57, 101, 54, 51, 102, 53, 49, 100, 99, 55, 98, 52, 50, 56, 100, 55, 48, 57, 51, 52, 54, 97, 50, 56, 53, 101, 99, 98, 102, 49, 100, 54, 52, 57, 56, 102, 51, 48, 98, 49, 50, 99, 53, 97, 101, 55, 49, 97, 100, 48, 54, 57, 56, 55, 52, 102, 101, 51, 98, 53, 50, 99]⟩, ⟨#[55, 100, 101, 51, 48, 54, 57, 97, 49, 50, 56, 53, 98, 99, 52, 102, 100, 56, 98, 53, 54, 102, 48, 51, 52, 55, 50, 99, 49, 97, 101, 57, 97, 54, 57, 48, 99, 98, 55, 100, 102, 49, 51, 101, 53, 50, 56, 52, 51, 102, 48, 54, 97, 49, 100, 56, 57, 52, 53, 98, 99, 55, 50, 101]⟩, ⟨#[50, 99, 52, 49, 55, 97, 98, 54, 56, 53, 51, 102, 100, 48, 101, 57, 101, 98, 50, 99, 52, 55, 100, 49, 53, 48, 102, 97, 51, 57, 56, 54, 52, 50, 49, 98, 97, 100, 55, 56, 102, 57, 99, 53, 54, 51, 48, 101, 98, 56, 99, 55, 49, 101, 50, 100, 54, 102, 48, 57, 97, 52, 53, 51]⟩, ⟨#[99, 49, 97, 102, 57, 50, 54, 56, 48, 100, 51, 52, 101, 55, 53, 98, 97, 102, 52, 50, 55, 99, 57, 53, 54, 49, 100, 101, 48, 98, 51, 56, 57, 101, 102, 53, 50, 56, 99, 51, 55, 48, 52, 97, 49, 100, 98, 54, 52, 51, 50, 99, 57, 53, 102, 97, 98, 101, 49, 55, 54, 48, 56, 100]⟩, ⟨#[52, 98, 50, 101, 102, 48, 56, 100, 51, 99, 57, 55, 53, 97, 54, 49, 100, 48, 98, 55, 52, 57, 49, 97, 101, 51, 53, 99, 50, 102, 56, 54, 49, 52, 98, 100, 99, 51, 55, 101, 97, 102, 54, 56, 48, 53, 57, 50, 54, 98, 100, 56, 49, 52, 97, 55, 57, 53, 48, 102, 101, 50, 51, 99]⟩, ⟨#[100, 50, 56, 52, 54, 102, 98, 49, 97, 57, 51, 101, 53, 48, 99, 55, 49, 102, 100, 56, 97, 51, 55, 52, 99, 53, 54, 98, 48, 101, 57, 50, 55, 98, 52, 49, 57, 99, 101, 50, 48, 54, 97, 100, 102, 51, 53, 56, 50, 49, 101, 55, 52, 97, 56, 100, 102, 99, 57, 48, 51, 53, 54, 98]⟩].getD i ByteArray.empty
theorem boxS_size : ∀ i < 8, (boxS i).size = 64 := by decide +kernel
theorem boxS_dig : ∀ i < 8, ∀ j < 64, tb (boxS i) j = (if (boxes.getD i []).getD j 0 < 10 then 48 + (boxes.getD i []).getD j 0 else 87 + (boxes.getD i []).getD j 0) ∧ (boxes.getD i []).getD j 0 < 16 := by decide +kernel

theorem boxN_lt (i six : Nat) (hi : i < 8) (_hs : six < 64) : boxN i six < 16 := by
 have b3 : (six / 16 &&& 2 ||| six &&& 1) < 2 ^ 2 := Nat.or_lt_two_pow (Nat.lt_of_le_of_lt Nat.and_le_right (by omega)) (Nat.lt_of_le_of_lt Nat.and_le_right (by omega)); exact (boxS_dig i hi _ (by omega)).2

def wideN (half : Nat) : Nat := half % 2 * 2 ^ 33 + half * 2 + half / 2 ^ 31
def sixN (half key i : Nat) : Nat := (wideN half / 2 ^ (28 - 4 * i) % 64) ^^^ (key / 2 ^ (42 - 6 * i) % 64)
def mixB (half key : Nat) : Nat → Nat
 | 0 => 0
 | i + 1 => mixB half key i * 16 + boxN i (sixN half key i)
theorem sixN_lt (half key i : Nat) : sixN half key i < 64 := Nat.xor_lt_two_pow (n := 6) (Nat.mod_lt _ (by omega)) (Nat.mod_lt _ (by omega))
theorem mixB_lt (half key : Nat) : ∀ i, i ≤ 8 → mixB half key i < 16 ^ i
 | 0, _ => by simp [mixB]
 | i + 1, h => by
  have h1 := mixB_lt half key i (by omega); have h2 := boxN_lt i _ (by omega) (sixN_lt half key i); rw [mixB, Nat.pow_succ]; omega
def mixN (half key : Nat) : Nat := permN (mixB half key 8) 32 psP
def be8 (l : List Nat) : Nat := l.foldl (fun a c => a * 256 + c) 0
theorem be8_snoc (l : List Nat) (c : Nat) : be8 (l ++ [c]) = be8 l * 256 + c := by simp [be8]
theorem be8_lt (l : List Nat) (h : ∀ c ∈ l, c < 256) : be8 l < 256 ^ l.length := by
 unfold be8
 have : ∀ (l : List Nat) (a k : Nat), (∀ c ∈ l, c < 256) → a < 256 ^ k → l.foldl (fun a c => a * 256 + c) a < 256 ^ (k + l.length) := by
  intro l
  induction l with
  | nil => intro a k _ h; simpa using h
  | cons p l ih =>
   intro a k hp h; simp only [List.foldl_cons, List.length_cons]
   rw [show k + (l.length + 1) = (k + 1) + l.length by omega]; refine ih _ _ (fun c hc => hp c (by simp [hc])) ?_; have := hp p (by simp); rw [Nat.pow_succ]; omega
 simpa using this l 0 0 h (by simp)
theorem be8_lt8 {l : List Nat} (hl : l.length = 8) (h : ∀ c ∈ l, c < 256) : be8 l < 18446744073709551616 := by have := be8_lt l h; rw [hl] at this; exact this
def bytes8 (x : Nat) : List Nat := (List.range 8).map fun i => x / 2 ^ (56 - 8 * i) % 256

theorem turnN_lt (x n : Nat) : turnN x n < 268435456 := Nat.mod_lt _ (by decide)
/-- how far the halves are turned in round r (from 0 on) -/
def rotN (r : Nat) : Nat := if r = 0 ∨ r = 1 ∨ r = 8 ∨ r = 15 then 1 else 2
def spun (x : Nat) : Nat → Nat
 | 0 => x
 | k + 1 => turnN (spun x k) (rotN k)
theorem spun_lt (x : Nat) (h : x < 268435456) : ∀ k, spun x k < 268435456
 | 0 => h
 | _ + 1 => turnN_lt _ _
def pc1 (l : List Nat) : Nat := permN (be8 l) 64 psPC1
def keyN (l : List Nat) (r : Nat) : Nat := permN (spun (pc1 l / 268435456) (r + 1) * 268435456 + spun (pc1 l % 268435456) (r + 1)) 56 psPC2
def roundsN (l : List Nat) : List Nat := (List.range 16).map (keyN l)
theorem pc1_lt (l : List Nat) : pc1 l < 2 ^ 56 := permN_lt _ _ psPC1
theorem keyN_lt (l : List Nat) (r : Nat) : keyN l r < 2 ^ 48 := permN_lt _ _ psPC2
/-- the first k of n numbers, the rest still 0 -/
def fillN (l : List Nat) (n k : Nat) : List Nat := l.take k ++ List.replicate (n - k) 0
theorem fillN_len (l : List Nat) (n k : Nat) (h : k ≤ n) (hl : l.length = n) : (fillN l n k).length = n := by simp [fillN, hl]; omega
theorem fillN_set (l : List Nat) (n k : Nat) (h : k < n) (hl : l.length = n) : (fillN l n k).set k (l[k]'(by omega)) = fillN l n (k + 1) := by
 apply List.ext_getElem?
 intro i; have hlen := fillN_len l n k (by omega) hl
 unfold fillN at *
 have h1 : (l.take k).length = k := by simp; omega
 have h2 : (l.take (k+1)).length = k+1 := by simp; omega
 rw [List.getElem?_set]
 by_cases hik : k = i
 ·
  subst hik; rw [if_pos rfl, if_pos (by omega), List.getElem?_append_left (by omega), List.getElem?_take_of_lt (by omega), List.getElem?_eq_getElem (by omega)]
 ·
  rw [if_neg hik]
  by_cases hlt : i < k
  ·
   rw [List.getElem?_append_left (by omega), List.getElem?_append_left (by omega), List.getElem?_take_of_lt (by omega), List.getElem?_take_of_lt (by omega)]
  ·
   rw [List.getElem?_append_right (by omega), List.getElem?_append_right (by omega), h1, h2, List.getElem?_replicate, List.getElem?_replicate]
   by_cases h3 : i < n
   ·
    rw [if_pos (by omega), if_pos (by omega)]
   ·
    rw [if_neg (by omega), if_neg (by omega)]
theorem fillN_end (l : List Nat) (n : Nat) (hl : l.length = n) : fillN l n n = l := by
 unfold fillN
 rw [List.take_of_length_le (by omega)]; simp

theorem tab_ip : ∀ p ∈ psIP, 1 ≤ p := by decide
/-- a round's halves, and the block -/
def ladderN (ks : List Nat) (back : Bool) (x : Nat) : Nat → Nat × Nat
 | 0 => (x / 4294967296, x % 4294967296)
 | r + 1 => let p := ladderN ks back x r; (p.2, p.1 ^^^ mixN p.2 (ks.getD (if back then 15 - r else r) 0))
theorem mixN_lt (h k : Nat) : mixN h k < 4294967296 := permN_lt _ _ psP
theorem ladderN_lt (ks : List Nat) (back : Bool) (x : Nat) (hx : x < 18446744073709551616) : ∀ r, (ladderN ks back x r).1 < 4294967296 ∧ (ladderN ks back x r).2 < 4294967296
 | 0 => by simp only [ladderN]; omega
 | r + 1 => by
  have h := ladderN_lt ks back x hx r; exact ⟨h.2, Nat.xor_lt_two_pow (n := 32) h.1 (mixN_lt _ _)⟩
theorem roundsN_len (l : List Nat) : (roundsN l).length = 16 := by simp [roundsN]
theorem roundsN_lt (l : List Nat) : ∀ c ∈ roundsN l, c < 18446744073709551616 := by
 intro c hc; simp only [roundsN, List.mem_map] at hc
 obtain ⟨r, _, rfl⟩ := hc; exact Nat.lt_trans (keyN_lt l r) (by decide)
theorem bytes8_len (x : Nat) : (bytes8 x).length = 8 := by simp [bytes8]
theorem bytes8_lt (x : Nat) : ∀ c ∈ bytes8 x, c < 256 := by
 intro c hc; simp only [bytes8, List.mem_map] at hc
 obtain ⟨r, _, rfl⟩ := hc; exact Nat.mod_lt _ (by decide)
def blockN (key b : List Nat) (back : Bool) : List Nat :=
 let p := ladderN (roundsN key) back (permN (be8 b) 64 psIP) 16
 bytes8 (unpN (p.2 * 4294967296 + p.1) psIP 64)
theorem blockN_len (k b : List Nat) (back : Bool) : (blockN k b back).length = 8 := bytes8_len _
theorem blockN_lt (k b : List Nat) (back : Bool) : ∀ c ∈ blockN k b back, c < 256 := bytes8_lt _
end Go.Proofs.YtfkjkkjimdilcaaGreatDoor.Pr

/- Plain definitions and facts on texts of digits; no program in sight. -/
namespace Go.Proofs.YtfkjkkjimdilcaaGreatDoor.Pr

def digs : List UInt8 := [48, 49, 50, 51, 52, 53, 54, 55, 56, 57, 65, 66, 67, 68, 69, 70]
/-- is a byte one of some? -/
def isIn (sm : List UInt8) (c : UInt8) : Bool := decide (0 ≤ Lib.indexByte sm c)
def isDec (c : UInt8) : Bool := decide (48 ≤ c.toNat ∧ c.toNat ≤ 57)
def isHex (c : UInt8) : Bool := isDec c || decide (65 ≤ c.toNat ∧ c.toNat ≤ 70)
/-- a hexadecimal digit's number -/
def hexv (c : UInt8) : Nat := if c.toNat ≤ 57 then c.toNat - 48 else c.toNat - 55
def hexd (n : Nat) : UInt8 := if n < 10 then UInt8.ofNat (48 + n) else UInt8.ofNat (55 + n)

theorem all_u8 {p : UInt8 → Prop} [DecidablePred p] (h : (List.range 256).all (fun n => decide (p (UInt8.ofNat n))) = true) (c : UInt8) : p c := by
 have := List.all_eq_true.1 h c.toNat (List.mem_range.2 c.toNat_lt); rw [decide_eq_true_eq, UInt8.ofNat_toNat] at this; exact this
theorem isIn_digs (c : UInt8) : isIn digs c = isHex c := all_u8 (p := fun c => isIn digs c = isHex c) (by decide +kernel) c
theorem indexByte_digs (c : UInt8) (h : isHex c = true) : Lib.indexByte digs c = hexv c := by
 have := all_u8 (p := fun c => isHex c = true → Lib.indexByte digs c = hexv c) (by decide +kernel) c; exact this h
theorem hexv_lt (c : UInt8) (h : isHex c = true) : hexv c < 16 := by
 have := all_u8 (p := fun c => isHex c = true → hexv c < 16) (by decide +kernel) c; exact this h
/-- the place of the first byte that isn't right -/
def badAt (p : UInt8 → Bool) : List UInt8 → Option Nat
 | [] => none
 | c :: r => if p c then (badAt p r).map (· + 1) else some 0
def badZ (p : UInt8 → Bool) (s : List UInt8) : Int := match badAt p s with | some k => k | none => -1
theorem badAt_none {p : UInt8 → Bool} : ∀ {s : List UInt8}, (∀ c ∈ s, p c = true) → badAt p s = none
 | [], _ => rfl
 | c :: r, h => by rw [badAt, if_pos (h c (by simp)), badAt_none fun c hc => h c (by simp [hc])]; rfl
theorem badAt_some {p : UInt8 → Bool} : ∀ {s : List UInt8} {k : Nat} (hk : k < s.length), (∀ j (h : j < k), p (s[j]'(by omega)) = true) → p s[k] = false → badAt p s = some k
 | c :: r, 0, _, _, h => by rw [badAt, if_neg (by simpa using h)]
 | c :: r, k + 1, hk, h, hb => by
  rw [badAt, if_pos (by simpa using h 0 (by omega)), badAt_some (k := k) (by simpa using hk) (fun j hj => by simpa using h (j + 1) (by omega)) (by simpa using hb)]
  rfl
theorem all_of_badAt {p : UInt8 → Bool} : ∀ {s : List UInt8}, badAt p s = none → ∀ c ∈ s, p c = true
 | [], _, c, hc => by cases hc
 | d :: r, h, c, hc => by
  rw [badAt] at h
  by_cases hd : p d = true
  ·
   rw [if_pos hd] at h
   rcases List.mem_cons.1 hc with rfl | hc
   ·
    exact hd
   ·
    exact all_of_badAt (by simpa using h) c hc
  ·
   rw [if_neg hd] at h; cases h
theorem badAt_lt {p : UInt8 → Bool} : ∀ {s : List UInt8} {k : Nat}, badAt p s = some k → k < s.length
 | [], k, h => by cases h
 | d :: r, k, h => by
  rw [badAt] at h
  by_cases hd : p d = true
  ·
   rw [if_pos hd] at h; obtain ⟨k', hk, rfl⟩ := Option.map_eq_some_iff.1 h; have := badAt_lt hk
   simp; omega
  ·
   rw [if_neg hd] at h; cases h; simp
theorem badAt_congr {p q : UInt8 → Bool} (h : ∀ c, p c = q c) (s : List UInt8) : badAt p s = badAt q s := by
 rw [show p = q from funext h]

def hexL (l : List Nat) : List UInt8 := l.flatMap fun c => [hexd (c / 16), hexd (c % 16)]
theorem hexL_snoc (l : List Nat) (c : Nat) : hexL (l ++ [c]) = hexL l ++ [hexd (c / 16)] ++ [hexd (c % 16)] := by simp [hexL]
theorem hexL_len (l : List Nat) : (hexL l).length = 2 * l.length := by
 induction l with
 | nil => rfl
 | cons c l ih => simp only [hexL, List.flatMap_cons, List.length_append, List.length_cons, List.length_nil] at *; omega
def unhexAt (s : List UInt8) (j : Nat) : Nat := hexv (s.getD (2 * j) 0) * 16 + hexv (s.getD (2 * j + 1) 0)
def unhexL (s : List UInt8) : List Nat := (List.range (s.length / 2)).map (unhexAt s)
theorem unhexL_len (s : List UInt8) : (unhexL s).length = s.length / 2 := by simp [unhexL]
theorem unhexAt_lt {s : List UInt8} (h : ∀ c ∈ s, isHex c = true) (j : Nat) (hj : 2 * j + 1 < s.length) : unhexAt s j < 256 := by
 have e : ∀ i < s.length, hexv (s.getD i 0) < 16 := fun i hi => by
  have : s.getD i 0 = s[i] := by simp [List.getD_eq_getElem?_getD, hi]
  rw [this]; exact hexv_lt _ (h _ (List.getElem_mem _))
 have h1 := e (2 * j) (by omega); have h2 := e (2 * j + 1) hj
 unfold unhexAt; omega
theorem unhexL_lt {s : List UInt8} (h : ∀ c ∈ s, isHex c = true) : ∀ c ∈ unhexL s, c < 256 := by
 intro c hc; simp only [unhexL, List.mem_map, List.mem_range] at hc
 obtain ⟨j, hj, rfl⟩ := hc; exact unhexAt_lt h j (by omega)
theorem unhexL_take (s : List UInt8) (j : Nat) (h : j < s.length / 2) : (unhexL s).take (j + 1) = (unhexL s).take j ++ [unhexAt s j] := by
 have hl : j < (unhexL s).length := by rw [unhexL_len]; exact h
 rw [List.take_succ_eq_append_getElem hl]
 simp [unhexL]

end Go.Proofs.YtfkjkkjimdilcaaGreatDoor.Pr

/- Pure: what cvv.Of reckons. -/
namespace Go.Proofs.YtfkjkkjimdilcaaGreatDoor
open Go
namespace Pr

/-- x with its first k places xored with y's -/
def xorTo (x y : List Nat) : Nat → List Nat
 | 0 => x
 | k + 1 => (xorTo x y k).set k (x.getD k 0 ^^^ y.getD k 0)
theorem xorTo_len (x y : List Nat) : ∀ k, (xorTo x y k).length = x.length
 | 0 => rfl
 | k + 1 => by rw [xorTo, List.length_set, xorTo_len x y k]
theorem xorTo_get (x y : List Nat) : ∀ k j, k ≤ j → (xorTo x y k)[j]? = x[j]?
 | 0, _, _ => rfl
 | k + 1, j, h => by rw [xorTo, List.getElem?_set_ne (by omega), xorTo_get x y k j (by omega)]
theorem hexd_hex (n : Nat) (h : n < 16) : isHex (hexd n) = true := by
 have : ∀ n < 16, isHex (hexd n) = true := by decide +kernel
 exact this n h
theorem hexL_hex (l : List Nat) (h : ∀ c ∈ l, c < 256) : ∀ c ∈ hexL l, isHex c = true := by
 intro c hc
 unfold hexL at hc
 rw [List.mem_flatMap] at hc; obtain ⟨x, hx, hc⟩ := hc; have := h x hx; simp only [List.mem_cons, List.not_mem_nil, or_false] at hc
 rcases hc with rfl | rfl
 ·
  exact hexd_hex _ (by omega)
 ·
  exact hexd_hex _ (by omega)

end Pr
namespace Pr

theorem snoc_ind {α : Type} {C : List α → Prop} (h0 : C []) (h1 : ∀ l a, C l → C (l ++ [a])) (l : List α) : C l := by
 have : ∀ l : List α, C l.reverse := by
  intro l
  induction l with
  | nil => exact h0
  | cons a l ih => rw [List.reverse_cons]; exact h1 _ _ ih
 have := this l.reverse
 rwa [List.reverse_reverse] at this

/-- the w bits of x, the highest first -/
def bitsW (w x : Nat) : List Nat := (List.range w).map fun i => x / 2 ^ (w - 1 - i) % 2
theorem bitsW_len (w x : Nat) : (bitsW w x).length = w := by simp [bitsW]
theorem bitsW_get (w x i : Nat) (h : i < w) : (bitsW w x)[i]'(by rw [bitsW_len]; exact h) = x / 2 ^ (w - 1 - i) % 2 := by simp [bitsW]
theorem bitsW_getD (w x i : Nat) (h : i < w) : (bitsW w x).getD i 0 = x / 2 ^ (w - 1 - i) % 2 := by
 rw [List.getD_eq_getElem?_getD, List.getElem?_eq_getElem (by rw [bitsW_len]; exact h), Option.getD_some, bitsW_get w x i h]
theorem bitsW_lt (w x : Nat) : ∀ b ∈ bitsW w x, b < 2 := by
 intro b hb; simp only [bitsW, List.mem_map] at hb
 obtain ⟨k, _, rfl⟩ := hb; exact Nat.mod_lt _ (by omega)
theorem bitsW_cat (a b q r : Nat) (hr : r < 2 ^ b) : bitsW (a + b) (q * 2 ^ b + r) = bitsW a q ++ bitsW b r := by
 apply List.ext_getElem
 ·
  simp [bitsW]
 ·
  intro i h1 h2; rw [bitsW_len] at h1; rw [bitsW_get _ _ _ h1]
  rcases Nat.lt_or_ge i a with h | h
  ·
   rw [List.getElem_append_left (by rw [bitsW_len]; exact h), bitsW_get _ _ _ h]; rw [show a + b - 1 - i = b + (a - 1 - i) by omega, Nat.pow_add, ← Nat.div_div_eq_div_mul]
   congr 2
   rw [Nat.mul_comm, Nat.mul_add_div (Nat.two_pow_pos b), Nat.div_eq_of_lt hr, Nat.add_zero]
  ·
   have hj : i - a < b := by omega
   rw [List.getElem_append_right (by rw [bitsW_len]; exact h)]; simp only [bitsW_len]
   rw [bitsW_get _ _ _ hj]; obtain ⟨j, rfl⟩ := Nat.exists_eq_add_of_le h; rw [show a + b - 1 - (a + j) = b - 1 - j by omega, show a + j - a = j by omega]
   have e : 2 ^ b = 2 ^ (b - 1 - j) * (2 * 2 ^ j) := by
    rw [← Nat.pow_succ', ← Nat.pow_add]; congr 1; omega
   rw [e, show q * (2 ^ (b - 1 - j) * (2 * 2 ^ j)) = 2 ^ (b - 1 - j) * (q * (2 * 2 ^ j)) by rw [← Nat.mul_assoc, Nat.mul_comm q, Nat.mul_assoc]]; rw [Nat.mul_add_div (Nat.two_pow_pos _)]; rw [show q * (2 * 2 ^ j) = 2 * (q * 2 ^ j) by rw [← Nat.mul_assoc, Nat.mul_comm q 2, Nat.mul_assoc], Nat.mul_add_mod]
theorem bitsW_snoc (w a b : Nat) (hb : b < 2) : bitsW (w + 1) (2 * a + b) = bitsW w a ++ [b] := by
 have := bitsW_cat w 1 a b (by simpa using hb); rw [show a * 2 ^ 1 + b = 2 * a + b by omega] at this; rw [this]
 congr 1
 simp [bitsW]
 omega

/-- a byte's bits -/
def bitsB (l : List Nat) : List Nat := l.flatMap (bitsW 8)
theorem bitsB_snoc (l : List Nat) (c : Nat) : bitsB (l ++ [c]) = bitsB l ++ bitsW 8 c := by simp [bitsB]
theorem bitsB_lt (l : List Nat) : ∀ b ∈ bitsB l, b < 2 := by
 intro b hb; simp only [bitsB, List.mem_flatMap] at hb
 obtain ⟨c, _, hb⟩ := hb; exact bitsW_lt 8 c b hb
theorem bitsB_be8 (l : List Nat) (h : ∀ c ∈ l, c < 256) : bitsB l = bitsW (8 * l.length) (be8 l) := by
 revert h
 refine snoc_ind (C := fun l => (∀ c ∈ l, c < 256) → bitsB l = bitsW (8 * l.length) (be8 l)) (fun _ => rfl) (fun l c ih h => ?_) l
 ·
  rw [bitsB_snoc, be8_snoc, ih (fun x hx => h x (List.mem_append_left _ hx)), List.length_append]; have := bitsW_cat (8 * l.length) 8 (be8 l) c (h c (by simp)); rw [show 8 * (l.length + [c].length) = 8 * l.length + 8 by simp; omega, show be8 l * 256 + c = be8 l * 2 ^ 8 + c by rfl, this]

/-- bits picked by places -/
def permR (l ps : List Nat) : List Nat := ps.map fun p => l.getD (p - 1) 0
theorem permR_bits (x size : Nat) (ps : List Nat) (h : ∀ p ∈ ps, 1 ≤ p ∧ p ≤ size) : permR (bitsW size x) ps = bitsW ps.length (permN x size ps) := by
 revert h
 refine snoc_ind (C := fun ps => (∀ p ∈ ps, 1 ≤ p ∧ p ≤ size) → permR (bitsW size x) ps = bitsW ps.length (permN x size ps)) (fun _ => rfl) (fun ps p ih h => ?_) ps
 ·
  obtain ⟨h1, h2⟩ := h p (by simp); rw [permN_snoc, List.length_append, show ps.length + [p].length = ps.length + 1 from rfl, bitsW_snoc _ _ _ (Nat.mod_lt _ (by omega)), ← ih (fun q hq => h q (List.mem_append_left _ hq))]
  unfold permR
  rw [List.map_append, List.map_cons, List.map_nil, bitsW_getD size x (p - 1) (by omega), show size - 1 - (p - 1) = size - p by omega]
theorem turn_bits (x n : Nat) (hx : x < 2 ^ 28) (hn : n ≤ 28) : bitsW 28 (turnN x n) = (bitsW 28 x).drop n ++ (bitsW 28 x).take n := by
 obtain ⟨q, hq⟩ : ∃ q, x / 2 ^ (28 - n) = q := ⟨_, rfl⟩; obtain ⟨r, hr⟩ : ∃ r, x % 2 ^ (28 - n) = r := ⟨_, rfl⟩; have hrl : r < 2 ^ (28 - n) := by rw [← hr]; exact Nat.mod_lt _ (Nat.two_pow_pos _)
 have e28 : 2 ^ 28 = 2 ^ (28 - n) * 2 ^ n := by rw [← Nat.pow_add]; congr 1; omega
 have hql : q < 2 ^ n := by rw [← hq]; exact Nat.div_lt_of_lt_mul (by rw [← e28]; exact hx)
 have hx2 : x = q * 2 ^ (28 - n) + r := by rw [← hq, ← hr, Nat.mul_comm]; exact (Nat.div_add_mod _ _).symm
 have hy : turnN x n = r * 2 ^ n + q := by
  unfold turnN
  rw [hq]
  have : x * 2 ^ n = q * 2 ^ 28 + r * 2 ^ n := by
   rw [e28, hx2, Nat.add_mul, Nat.mul_assoc]
  rw [this, Nat.add_assoc, Nat.mul_comm q, Nat.mul_add_mod]; refine Nat.mod_eq_of_lt ?_; rw [e28]; have h1 : r + 1 ≤ 2 ^ (28 - n) := hrl; have h2 := Nat.mul_le_mul_right (2 ^ n) h1; rw [Nat.add_mul, Nat.one_mul] at h2; omega
 have h1 : bitsW 28 x = bitsW n q ++ bitsW (28 - n) r := by
  have := bitsW_cat n (28 - n) q r hrl; rw [show n + (28 - n) = 28 by omega, ← hx2] at this; exact this
 have h2 : bitsW 28 (turnN x n) = bitsW (28 - n) r ++ bitsW n q := by
  have := bitsW_cat (28 - n) n r q hql; rw [show 28 - n + n = 28 by omega, ← hy] at this; exact this
 rw [h2, h1, List.drop_left' (bitsW_len _ _), List.take_left' (bitsW_len _ _)]
end Pr
namespace Pr

def refC (c : List Nat) : Nat → List Nat
 | 0 => c
 | r + 1 => (refC c r).drop (rotN r) ++ (refC c r).take (rotN r)
theorem rotN_le (r : Nat) : rotN r ≤ 28 := by unfold rotN; split <;> omega
theorem refC_bits (x : Nat) (hx : x < 268435456) : ∀ r, refC (bitsW 28 x) r = bitsW 28 (spun x r)
 | 0 => rfl
 | r + 1 => by rw [refC, refC_bits x hx r, spun, turn_bits _ _ (spun_lt x hx r) (rotN_le r)]
/-- a round's key -/
def keyR (l : List Nat) (r : Nat) : List Nat := permR (refC ((permR (bitsB l) psPC1).take 28) (r + 1) ++ refC ((permR (bitsB l) psPC1).drop 28) (r + 1)) psPC2
theorem keyR_bits (l : List Nat) (hl : l.length = 8) (h : ∀ c ∈ l, c < 256) (r : Nat) : keyR l r = bitsW 48 (keyN l r) := by
 have h1 : permR (bitsB l) psPC1 = bitsW 56 (pc1 l) := by
  rw [bitsB_be8 l h, hl]; exact permR_bits (be8 l) 64 psPC1 (by decide)
 have hlt := pc1_lt l
 have h2 : bitsW 56 (pc1 l) = bitsW 28 (pc1 l / 268435456) ++ bitsW 28 (pc1 l % 268435456) := by
  have := bitsW_cat 28 28 (pc1 l / 268435456) (pc1 l % 268435456) (Nat.mod_lt _ (by decide)); rw [show pc1 l / 268435456 * 2 ^ 28 + pc1 l % 268435456 = pc1 l by omega] at this; exact this
 have ha : pc1 l / 268435456 < 268435456 := by omega
 have hb : pc1 l % 268435456 < 268435456 := by omega
 unfold keyR
 rw [h1, h2, List.take_left' (bitsW_len _ _), List.drop_left' (bitsW_len _ _), refC_bits _ ha, refC_bits _ hb]; have hs := spun_lt _ hb (r + 1); have := bitsW_cat 28 28 (spun (pc1 l / 268435456) (r + 1)) (spun (pc1 l % 268435456) (r + 1)) hs; rw [← this]; exact permR_bits _ 56 psPC2 (by decide)

theorem bit_xor (a b m : Nat) : (a ^^^ b) / 2 ^ m % 2 = (a / 2 ^ m % 2) ^^^ (b / 2 ^ m % 2) := by
 rw [← Nat.shiftRight_eq_div_pow, ← Nat.shiftRight_eq_div_pow, ← Nat.shiftRight_eq_div_pow, Nat.shiftRight_xor_distrib]; have := @Nat.xor_mod_two_pow (a >>> m) (b >>> m) 1
 simpa using this
theorem xor_bits (w a b : Nat) : bitsW w (a ^^^ b) = (List.range w).map fun i => (bitsW w a).getD i 0 ^^^ (bitsW w b).getD i 0 := by
 unfold bitsW
 apply List.map_congr_left
 intro i hi; rw [List.mem_range] at hi; rw [bit_xor]; have := bitsW_getD w a i hi; have h2 := bitsW_getD w b i hi
 unfold bitsW at this h2
 rw [this, h2]

theorem wide_bits (h : Nat) (hh : h < 4294967296) : bitsW 34 (wideN h) = [h % 2] ++ (bitsW 32 h ++ [h / 2 ^ 31]) := by
 have h1 : h / 2 ^ 31 < 2 := by omega
 have h2 := bitsW_snoc 32 h (h / 2 ^ 31) h1; have h3 := bitsW_cat 1 33 (h % 2) (2 * h + h / 2 ^ 31) (by omega); rw [h2] at h3; have h4 : wideN h = h % 2 * 2 ^ 33 + (2 * h + h / 2 ^ 31) := by unfold wideN; omega
 rw [h4]; rw [show (34 : Nat) = 1 + 33 from rfl, h3]
 congr 1
 simp [bitsW]
theorem wide_getD (h m : Nat) (hh : h < 4294967296) (hm : m < 34) : (bitsW 34 (wideN h)).getD m 0 = (bitsW 32 h).getD ((m + 31) % 32) 0 := by
 rw [wide_bits h hh]
 rcases (by omega : m = 0 ∨ (1 ≤ m ∧ m ≤ 32) ∨ m = 33) with rfl | ⟨h1, h2⟩ | rfl
 ·
  rw [bitsW_getD 32 h _ (by decide)]; simp
 ·
  obtain ⟨k, rfl⟩ := Nat.exists_eq_add_of_le' h1; rw [show (k + 1 + 31) % 32 = k by omega]; rw [List.getD_eq_getElem?_getD, List.getD_eq_getElem?_getD, List.getElem?_append_right (by simp), List.length_singleton, Nat.add_sub_cancel, List.getElem?_append_left (by rw [bitsW_len]; omega)]
 ·
  rw [bitsW_getD 32 h _ (by decide)]; rw [List.getD_eq_getElem?_getD, List.getElem?_append_right (by simp), List.getElem?_append_right (by simp [bitsW_len])]
  simp [bitsW_len]
  omega
/-- the six bits that pick from a box -/
def sixR (half key : List Nat) (i : Nat) : List Nat := (List.range 6).map fun j => half.getD ((4 * i + j + 31) % 32) 0 ^^^ key.getD (6 * i + j) 0
theorem sub_bit (x k m : Nat) (hm : m < 6) : x / 2 ^ k % 64 / 2 ^ m % 2 = x / 2 ^ (k + m) % 2 := by
 rw [Nat.pow_add, ← Nat.div_div_eq_div_mul]; generalize x / 2 ^ k = y
 rcases (by omega : m = 0 ∨ m = 1 ∨ m = 2 ∨ m = 3 ∨ m = 4 ∨ m = 5) with rfl | rfl | rfl | rfl | rfl | rfl <;> omega
theorem sixR_bits (h k i : Nat) (hh : h < 4294967296) (hi : i < 8) : sixR (bitsW 32 h) (bitsW 48 k) i = bitsW 6 (sixN h k i) := by
 unfold sixR
 rw [sixN, xor_bits]
 apply List.map_congr_left
 intro j hj; rw [List.mem_range] at hj
 congr 1
 ·
  rw [bitsW_getD 6 _ j hj, sub_bit _ _ _ (by omega), ← wide_getD h (4 * i + j) hh (by omega), bitsW_getD 34 _ _ (by omega)]
  congr 3
  omega
 ·
  rw [bitsW_getD 6 _ j hj, sub_bit _ _ _ (by omega), bitsW_getD 48 _ _ (by omega)]
  congr 3
  omega
def nibR (half key : List Nat) (i : Nat) : List Nat :=
 let s := sixR half key i
 let x := (boxes.getD i []).getD (16 * (2 * s.getD 0 0 + s.getD 5 0) + (8 * s.getD 1 0 + 4 * s.getD 2 0 + 2 * s.getD 3 0 + s.getD 4 0)) 0
 [x / 8 % 2, x / 4 % 2, x / 2 % 2, x % 2]
theorem box_place : ∀ six < 64, ((six / 16) &&& 2 ||| six &&& 1) * 16 + six / 2 % 16 = 16 * (2 * ((bitsW 6 six).getD 0 0) + (bitsW 6 six).getD 5 0) + (8 * (bitsW 6 six).getD 1 0 + 4 * (bitsW 6 six).getD 2 0 + 2 * (bitsW 6 six).getD 3 0 + (bitsW 6 six).getD 4 0) := by decide +kernel
theorem nibR_bits (h k i : Nat) (hh : h < 4294967296) (hi : i < 8) : nibR (bitsW 32 h) (bitsW 48 k) i = bitsW 4 (boxN i (sixN h k i)) := by
 unfold nibR
 rw [sixR_bits h k i hh hi]
 simp only
 rw [← box_place _ (sixN_lt h k i)]
 show _ = bitsW 4 ((boxes.getD i []).getD _ 0)
 simp [bitsW, List.range, List.range.loop]
def outR (half key : List Nat) : Nat → List Nat
 | 0 => []
 | i + 1 => outR half key i ++ nibR half key i
theorem outR_bits (h k : Nat) (hh : h < 4294967296) : ∀ i, i ≤ 8 → outR (bitsW 32 h) (bitsW 48 k) i = bitsW (4 * i) (mixB h k i)
 | 0, _ => rfl
 | i + 1, hi => by
  rw [outR, outR_bits h k hh i (by omega), nibR_bits h k i hh (by omega), mixB]; have := bitsW_cat (4 * i) 4 (mixB h k i) (boxN i (sixN h k i)) (boxN_lt i _ (by omega) (sixN_lt _ _ _)); rw [show 4 * (i + 1) = 4 * i + 4 by omega, ← this]
def mixR (half key : List Nat) : List Nat := permR (outR half key 8) psP
theorem mixR_bits (h k : Nat) (hh : h < 4294967296) : mixR (bitsW 32 h) (bitsW 48 k) = bitsW 32 (mixN h k) := by
 unfold mixR mixN
 rw [outR_bits h k hh 8 (Nat.le_refl _)]; exact permR_bits _ 32 psP (by decide)

/-- the halves, round by round -/
def ladderR (ks : Nat → List Nat) (left right : List Nat) : Nat → List Nat × List Nat
 | 0 => (left, right)
 | r + 1 => let p := ladderR ks left right r; (p.2, (List.range 32).map fun i => p.1.getD i 0 ^^^ (mixR p.2 (ks r)).getD i 0)
theorem ladderR_bits (ns : List Nat) (back : Bool) (x : Nat) (hx : x < 18446744073709551616) (ks : Nat → List Nat) (hks : ∀ r, r < 16 → ks r = bitsW 48 (ns.getD (if back then 15 - r else r) 0)) :
    ∀ r, r ≤ 16 → ladderR ks (bitsW 32 (x / 4294967296)) (bitsW 32 (x % 4294967296)) r = (bitsW 32 (ladderN ns back x r).1, bitsW 32 (ladderN ns back x r).2)
 | 0, _ => rfl
 | r + 1, hr => by
  have hlt := ladderN_lt ns back x hx r; rw [ladderR, ladderR_bits ns back x hx ks hks r (by omega)]; simp only [ladderN]
  rw [hks r (by omega), mixR_bits _ _ hlt.2, xor_bits]
end Pr
end Go.Proofs.YtfkjkkjimdilcaaGreatDoor
