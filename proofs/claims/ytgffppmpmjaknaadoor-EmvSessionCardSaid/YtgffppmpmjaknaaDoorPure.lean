/- Plain definitions and facts: what the code computes; no program in sight. -/
import Derived.Laws.BitsAllLaws
namespace Go.Proofs.YtgffppmpmjaknaaDoor.Pr

/-- byte k of a text, as a number -/
def tb (t : ByteArray) (k : Nat) : Nat := if h : k < t.size then (t[k]).toNat else 0
theorem tb_of {t : ByteArray} {k : Nat} (h : k < t.size) : tb t k = (t[k]).toNat := dif_pos h

/-- a table of places, two decimal digits each -/
structure Tab (t : ByteArray) (size : Nat) (ps : List Nat) : Prop where
  len : t.size = 2 * ps.length
  short : ps.length ≤ 64
  dig : ∀ j (h : j < ps.length), tb t (2 * j) = 48 + ps[j] / 10 ∧ tb t (2 * j + 1) = 48 + ps[j] % 10 ∧ 1 ≤ ps[j] ∧ ps[j] ≤ size

theorem Tab.at_ {t : ByteArray} {size : Nat} {ps : List Nat} (h : Tab t size ps) {j k : Nat} (hk : k = 2 * j) (hlt : k < t.size) :
    ∃ (hj : j < ps.length) (h2 : k + 1 < t.size), (t[k]).toNat = 48 + ps[j] / 10 ∧ (t[k + 1]).toNat = 48 + ps[j] % 10 ∧ 1 ≤ ps[j] ∧ ps[j] ≤ size := by
  have h0 := h.len
  have hj : j < ps.length := by omega
  have h2 : k + 1 < t.size := by omega
  obtain ⟨d1, d2, d3, d4⟩ := h.dig j hj
  subst hk
  rw [tb_of hlt] at d1
  rw [tb_of h2] at d2
  exact ⟨hj, h2, d1, d2, d3, d4⟩

theorem Tab.pos {t : ByteArray} {size : Nat} {ps : List Nat} (h : Tab t size ps) : ∀ p ∈ ps, 1 ≤ p := by
  intro p hp
  obtain ⟨j, hj, rfl⟩ := List.getElem_of_mem hp
  exact (h.dig j hj).2.2.1

theorem getD_of (ps : List Nat) (j : Nat) (h : j < ps.length) : ps.getD j 0 = ps[j] := by simp [List.getD_eq_getElem?_getD, h]

def permN (x size : Nat) (ps : List Nat) : Nat := ps.foldl (fun o n => 2 * o + x / 2 ^ (size - n) % 2) 0

theorem permN_lt (x size : Nat) (ps : List Nat) : permN x size ps < 2 ^ ps.length := by
  unfold permN
  have : ∀ (ps : List Nat) (a k : Nat), a < 2 ^ k → ps.foldl (fun o n => 2 * o + x / 2 ^ (size - n) % 2) a < 2 ^ (k + ps.length) := by
    intro ps
    induction ps with
    | nil => intro a k h; simpa using h
    | cons p ps ih =>
      intro a k h
      simp only [List.foldl_cons, List.length_cons]
      rw [show k + (ps.length + 1) = (k + 1) + ps.length by omega]
      apply ih
      rw [Nat.pow_succ]; omega
  simpa using this ps 0 0 (by simp)

theorem permN_snoc (x size : Nat) (ps : List Nat) (n : Nat) : permN x size (ps ++ [n]) = 2 * permN x size ps + x / 2 ^ (size - n) % 2 := by
  simp [permN]

def unpN (x : Nat) (ps : List Nat) : Nat → Nat
  | 0 => 0
  | j + 1 => unpN x ps j ||| (x / 2 ^ (63 - j) % 2) * 2 ^ (64 - ps.getD j 0)

theorem unpN_lt (x : Nat) (ps : List Nat) (h : ∀ p ∈ ps, 1 ≤ p) (j : Nat) (hj : j ≤ ps.length) : unpN x ps j < 2 ^ 64 := by
  induction j with
  | zero => simp [unpN]
  | succ j ih =>
    have e : ps.getD j 0 = ps[j] := by simp [List.getD_eq_getElem?_getD, show j < ps.length by omega]
    have hp : 1 ≤ ps.getD j 0 := by rw [e]; exact h _ (List.getElem_mem _)
    refine Nat.or_lt_two_pow (ih (by omega)) ?_
    have h1 : 2 ^ (64 - ps.getD j 0) ≤ 2 ^ 63 := Nat.pow_le_pow_right (by omega) (by omega)
    have h2 : x / 2 ^ (63 - j) % 2 < 2 := Nat.mod_lt _ (by omega)
    generalize 2 ^ (64 - ps.getD j 0) = q at *
    rcases (show x / 2 ^ (63 - j) % 2 = 0 ∨ x / 2 ^ (63 - j) % 2 = 1 by omega) with e | e <;> rw [e] <;> omega

def turnN (x n : Nat) : Nat := (x * 2 ^ n + x / 2 ^ (28 - n)) % 2 ^ 28

def hexN (c : Nat) : Nat := if c ≥ 97 then c - 87 else c - 48
def tabB (t : ByteArray) (size : Nat) (ps : List Nat) : Bool :=
  t.size == 2 * ps.length && decide (ps.length ≤ 64) && (List.range ps.length).all fun j => tb t (2 * j) == 48 + ps.getD j 0 / 10 && tb t (2 * j + 1) == 48 + ps.getD j 0 % 10 && decide (1 ≤ ps.getD j 0) && decide (ps.getD j 0 ≤ size)
theorem tab_of {t : ByteArray} {size : Nat} {ps : List Nat} (h : tabB t size ps = true) : Tab t size ps := by
  simp only [tabB, Bool.and_eq_true, beq_iff_eq, decide_eq_true_eq, List.all_eq_true, List.mem_range] at h
  obtain ⟨⟨h1, h2⟩, h3⟩ := h
  refine ⟨h1, h2, fun j hj => ?_⟩
  have := h3 j hj
  rw [getD_of ps j hj] at this
  exact ⟨this.1.1.1, this.1.1.2, this.1.2, this.2⟩
def psIP : List Nat := [58, 50, 42, 34, 26, 18, 10, 2, 60, 52, 44, 36, 28, 20, 12, 4, 62, 54, 46, 38, 30, 22, 14, 6, 64, 56, 48, 40, 32, 24, 16, 8, 57, 49, 41, 33, 25, 17, 9, 1, 59, 51, 43, 35, 27, 19, 11, 3, 61, 53, 45, 37, 29, 21, 13, 5, 63, 55, 47, 39, 31, 23, 15, 7]
def psP : List Nat := [16, 7, 20, 21, 29, 12, 28, 17, 1, 15, 23, 26, 5, 18, 31, 10, 2, 8, 24, 14, 32, 27, 3, 9, 19, 13, 30, 6, 22, 11, 4, 25]
def psPC1 : List Nat := [57, 49, 41, 33, 25, 17, 9, 1, 58, 50, 42, 34, 26, 18, 10, 2, 59, 51, 43, 35, 27, 19, 11, 3, 60, 52, 44, 36, 63, 55, 47, 39, 31, 23, 15, 7, 62, 54, 46, 38, 30, 22, 14, 6, 61, 53, 45, 37, 29, 21, 13, 5, 28, 20, 12, 4]
def psPC2 : List Nat := [14, 17, 11, 24, 1, 5, 3, 28, 15, 6, 21, 10, 23, 19, 12, 4, 26, 8, 16, 7, 27, 20, 13, 2, 41, 52, 31, 37, 47, 55, 30, 40, 51, 45, 33, 48, 44, 49, 39, 56, 34, 53, 46, 42, 50, 36, 29, 32]
/-- the eight boxes' digits -/
def boxes : List (List Nat) := [[14, 4, 13, 1, 2, 15, 11, 8, 3, 10, 6, 12, 5, 9, 0, 7, 0, 15, 7, 4, 14, 2, 13, 1, 10, 6, 12, 11, 9, 5, 3, 8, 4, 1, 14, 8, 13, 6, 2, 11, 15, 12, 9, 7, 3, 10, 5, 0, 15, 12, 8, 2, 4, 9, 1, 7, 5, 11, 3, 14, 10, 0, 6, 13], [15, 1, 8, 14, 6, 11, 3, 4, 9, 7, 2, 13, 12, 0, 5, 10, 3, 13, 4, 7, 15, 2, 8, 14, 12, 0, 1, 10, 6, 9, 11, 5, 0, 14, 7, 11, 10, 4, 13, 1, 5, 8, 12, 6, 9, 3, 2, 15, 13, 8, 10, 1, 3, 15, 4, 2, 11, 6, 7, 12, 0, 5, 14, 9], [10, 0, 9, 14, 6, 3, 15, 5, 1, 13, 12, 7, 11, 4, 2, 8, 13, 7, 0, 9, 3, 4, 6, 10, 2, 8, 5, 14, 12, 11, 15, 1, 13, 6, 4, 9, 8, 15, 3, 0, 11, 1, 2, 12, 5, 10, 14, 7, 1, 10, 13, 0, 6, 9, 8, 7, 4, 15, 14, 3, 11, 5, 2, 12], [7, 13, 14, 3, 0, 6, 9, 10, 1, 2, 8, 5, 11, 12, 4, 15, 13, 8, 11, 5, 6, 15, 0, 3, 4, 7, 2, 12, 1, 10, 14, 9, 10, 6, 9, 0, 12, 11, 7, 13, 15, 1, 3, 14, 5, 2, 8, 4, 3, 15, 0, 6, 10, 1, 13, 8, 9, 4, 5, 11, 12, 7, 2, 14], [2, 12, 4, 1, 7, 10, 11, 6, 8, 5, 3, 15, 13, 0, 14, 9, 14, 11, 2, 12, 4, 7, 13, 1, 5, 0, 15, 10, 3, 9, 8, 6, 4, 2, 1, 11, 10, 13, 7, 8, 15, 9, 12, 5, 6, 3, 0, 14, 11, 8, 12, 7, 1, 14, 2, 13, 6, 15, 0, 9, 10, 4, 5, 3], [12, 1, 10, 15, 9, 2, 6, 8, 0, 13, 3, 4, 14, 7, 5, 11, 10, 15, 4, 2, 7, 12, 9, 5, 6, 1, 13, 14, 0, 11, 3, 8, 9, 14, 15, 5, 2, 8, 12, 3, 7, 0, 4, 10, 1, 13, 11, 6, 4, 3, 2, 12, 9, 5, 15, 10, 11, 14, 1, 7, 6, 0, 8, 13], [4, 11, 2, 14, 15, 0, 8, 13, 3, 12, 9, 7, 5, 10, 6, 1, 13, 0, 11, 7, 4, 9, 1, 10, 14, 3, 5, 12, 2, 15, 8, 6, 1, 4, 11, 13, 12, 3, 7, 14, 10, 15, 6, 8, 0, 5, 9, 2, 6, 11, 13, 8, 1, 4, 10, 7, 9, 5, 0, 15, 14, 2, 3, 12], [13, 2, 8, 4, 6, 15, 11, 1, 10, 9, 3, 14, 5, 0, 12, 7, 1, 15, 13, 8, 10, 3, 7, 4, 12, 5, 6, 11, 0, 14, 9, 2, 7, 11, 4, 1, 9, 12, 14, 2, 0, 6, 10, 13, 15, 3, 5, 8, 2, 1, 14, 7, 4, 10, 8, 13, 15, 12, 9, 0, 3, 5, 6, 11]]
def boxN (i six : Nat) : Nat := (boxes.getD i []).getD (((six / 16) &&& 2 ||| six &&& 1) * 16 + six / 2 % 16) 0
/-- the eight boxes' texts -/
def boxS (i : Nat) : ByteArray := [⟨#[101, 52, 100, 49, 50, 102, 98, 56, 51, 97, 54, 99, 53, 57, 48, 55, 48, 102, 55, 52, 101, 50, 100, 49, 97, 54, 99, 98, 57, 53, 51, 56, 52, 49, 101, 56, 100, 54, 50, 98, 102, 99, 57, 55, 51, 97, 53, 48, 102, 99, 56, 50, 52, 57, 49, 55, 53, 98, 51, 101, 97, 48, 54, 100]⟩, ⟨#[102, 49, 56, 101, 54, 98, 51, 52, 57, 55, 50, 100, 99, 48, 53, 97, 51, 100, 52, 55, 102, 50, 56, 101, 99, 48, 49, 97, 54, 57, 98, 53, 48, 101, 55, 98, 97, 52, 100, 49, 53, 56, 99, 54, 57, 51, 50, 102, 100, 56, 97, 49, 51, 102, 52, 50, 98, 54, 55, 99, 48, 53, 101, 57]⟩, ⟨#[97, 48, 57, 101, 54, 51, 102, 53, 49, 100, 99, 55, 98, 52, 50, 56, 100, 55, 48, 57, 51, 52, 54, 97, 50, 56, 53, 101, 99, 98, 102, 49, 100, 54, 52, 57, 56, 102, 51, 48, 98, 49, 50, 99, 53, 97, 101, 55, 49, 97, 100, 48, 54, 57, 56, 55, 52, 102, 101, 51, 98, 53, 50, 99]⟩, ⟨#[55, 100, 101, 51, 48, 54, 57, 97, 49, 50, 56, 53, 98, 99, 52, 102, 100, 56, 98, 53, 54, 102, 48, 51, 52, 55, 50, 99, 49, 97, 101, 57, 97, 54, 57, 48, 99, 98, 55, 100, 102, 49, 51, 101, 53, 50, 56, 52, 51, 102, 48, 54, 97, 49, 100, 56, 57, 52, 53, 98, 99, 55, 50, 101]⟩, ⟨#[50, 99, 52, 49, 55, 97, 98, 54, 56, 53, 51, 102, 100, 48, 101, 57, 101, 98, 50, 99, 52, 55, 100, 49, 53, 48, 102, 97, 51, 57, 56, 54, 52, 50, 49, 98, 97, 100, 55, 56, 102, 57, 99, 53, 54, 51, 48, 101, 98, 56, 99, 55, 49, 101, 50, 100, 54, 102, 48, 57, 97, 52, 53, 51]⟩, ⟨#[99, 49, 97, 102, 57, 50, 54, 56, 48, 100, 51, 52, 101, 55, 53, 98, 97, 102, 52, 50, 55, 99, 57, 53, 54, 49, 100, 101, 48, 98, 51, 56, 57, 101, 102, 53, 50, 56, 99, 51, 55, 48, 52, 97, 49, 100, 98, 54, 52, 51, 50, 99, 57, 53, 102, 97, 98, 101, 49, 55, 54, 48, 56, 100]⟩, ⟨#[52, 98, 50, 101, 102, 48, 56, 100, 51, 99, 57, 55, 53, 97, 54, 49, 100, 48, 98, 55, 52, 57, 49, 97, 101, 51, 53, 99, 50, 102, 56, 54, 49, 52, 98, 100, 99, 51, 55, 101, 97, 102, 54, 56, 48, 53, 57, 50, 54, 98, 100, 56, 49, 52, 97, 55, 57, 53, 48, 102, 101, 50, 51, 99]⟩, ⟨#[100, 50, 56, 52, 54, 102, 98, 49, 97, 57, 51, 101, 53, 48, 99, 55, 49, 102, 100, 56, 97, 51, 55, 52, 99, 53, 54, 98, 48, 101, 57, 50, 55, 98, 52, 49, 57, 99, 101, 50, 48, 54, 97, 100, 102, 51, 53, 56, 50, 49, 101, 55, 52, 97, 56, 100, 102, 99, 57, 48, 51, 53, 54, 98]⟩].getD i ByteArray.empty
theorem boxS_size : ∀ i < 8, (boxS i).size = 64 := by decide +kernel
theorem boxS_dig : ∀ i < 8, ∀ j < 64, tb (boxS i) j = (if (boxes.getD i []).getD j 0 < 10 then 48 + (boxes.getD i []).getD j 0 else 87 + (boxes.getD i []).getD j 0) ∧ (boxes.getD i []).getD j 0 < 16 := by decide +kernel

theorem boxN_lt (i six : Nat) (hi : i < 8) (_hs : six < 64) : boxN i six < 16 := by
  have b3 : (six / 16 &&& 2 ||| six &&& 1) < 2 ^ 2 := Nat.or_lt_two_pow (Nat.lt_of_le_of_lt Nat.and_le_right (by omega)) (Nat.lt_of_le_of_lt Nat.and_le_right (by omega))
  exact (boxS_dig i hi _ (by omega)).2

def wideN (half : Nat) : Nat := half % 2 * 2 ^ 33 + half * 2 + half / 2 ^ 31
def sixN (half key i : Nat) : Nat := (wideN half / 2 ^ (28 - 4 * i) % 64) ^^^ (key / 2 ^ (42 - 6 * i) % 64)
def mixB (half key : Nat) : Nat → Nat
  | 0 => 0
  | i + 1 => mixB half key i * 16 + boxN i (sixN half key i)
theorem sixN_lt (half key i : Nat) : sixN half key i < 64 := Nat.xor_lt_two_pow (n := 6) (Nat.mod_lt _ (by omega)) (Nat.mod_lt _ (by omega))
theorem mixB_lt (half key : Nat) : ∀ i, i ≤ 8 → mixB half key i < 16 ^ i
  | 0, _ => by simp [mixB]
  | i + 1, h => by
    have h1 := mixB_lt half key i (by omega)
    have h2 := boxN_lt i _ (by omega) (sixN_lt half key i)
    rw [mixB, Nat.pow_succ]; omega
def mixN (half key : Nat) : Nat := permN (mixB half key 8) 32 psP
def be8 (l : List Nat) : Nat := l.foldl (fun a c => a * 256 + c) 0
theorem be8_snoc (l : List Nat) (c : Nat) : be8 (l ++ [c]) = be8 l * 256 + c := by simp [be8]
theorem be8_lt (l : List Nat) (h : ∀ c ∈ l, c < 256) : be8 l < 256 ^ l.length := by
  unfold be8
  have : ∀ (l : List Nat) (a k : Nat), (∀ c ∈ l, c < 256) → a < 256 ^ k → l.foldl (fun a c => a * 256 + c) a < 256 ^ (k + l.length) := by
    intro l
    induction l with
    | nil => intro a k _ h; simpa using h
    | cons p l ih =>
      intro a k hp h
      simp only [List.foldl_cons, List.length_cons]
      rw [show k + (l.length + 1) = (k + 1) + l.length by omega]
      refine ih _ _ (fun c hc => hp c (by simp [hc])) ?_
      have := hp p (by simp)
      rw [Nat.pow_succ]; omega
  simpa using this l 0 0 h (by simp)
theorem be8_lt8 {l : List Nat} (hl : l.length = 8) (h : ∀ c ∈ l, c < 256) : be8 l < 18446744073709551616 := by have := be8_lt l h; rw [hl] at this; exact this
def bytes8 (x : Nat) : List Nat := (List.range 8).map fun i => x / 2 ^ (56 - 8 * i) % 256

theorem turnN_lt (x n : Nat) : turnN x n < 268435456 := Nat.mod_lt _ (by decide)
/-- how far the halves are turned in round r (from 0 on) -/
def rotN (r : Nat) : Nat := if r = 0 ∨ r = 1 ∨ r = 8 ∨ r = 15 then 1 else 2
def spun (x : Nat) : Nat → Nat
  | 0 => x
  | k + 1 => turnN (spun x k) (rotN k)
theorem spun_lt (x : Nat) (h : x < 268435456) : ∀ k, spun x k < 268435456
  | 0 => h
  | _ + 1 => turnN_lt _ _
def pc1 (l : List Nat) : Nat := permN (be8 l) 64 psPC1
def keyN (l : List Nat) (r : Nat) : Nat := permN (spun (pc1 l / 268435456) (r + 1) * 268435456 + spun (pc1 l % 268435456) (r + 1)) 56 psPC2
def roundsN (l : List Nat) : List Nat := (List.range 16).map (keyN l)
theorem pc1_lt (l : List Nat) : pc1 l < 2 ^ 56 := permN_lt _ _ psPC1
theorem keyN_lt (l : List Nat) (r : Nat) : keyN l r < 2 ^ 48 := permN_lt _ _ psPC2
/-- the first k of n numbers, the rest still 0 -/
def fillN (l : List Nat) (n k : Nat) : List Nat := l.take k ++ List.replicate (n - k) 0
theorem fillN_len (l : List Nat) (n k : Nat) (h : k ≤ n) (hl : l.length = n) : (fillN l n k).length = n := by simp [fillN, hl]; omega
theorem fillN_set (l : List Nat) (n k : Nat) (h : k < n) (hl : l.length = n) : (fillN l n k).set k (l[k]'(by omega)) = fillN l n (k + 1) := by
  apply List.ext_getElem?
  intro i
  have hlen := fillN_len l n k (by omega) hl
  unfold fillN at *
  have h1 : (l.take k).length = k := by simp; omega
  have h2 : (l.take (k+1)).length = k+1 := by simp; omega
  rw [List.getElem?_set]
  by_cases hik : k = i
  · subst hik
    rw [if_pos rfl, if_pos (by omega), List.getElem?_append_left (by omega), List.getElem?_take_of_lt (by omega), List.getElem?_eq_getElem (by omega)]
  · rw [if_neg hik]
    by_cases hlt : i < k
    · rw [List.getElem?_append_left (by omega), List.getElem?_append_left (by omega), List.getElem?_take_of_lt (by omega), List.getElem?_take_of_lt (by omega)]
    · rw [List.getElem?_append_right (by omega), List.getElem?_append_right (by omega), h1, h2, List.getElem?_replicate, List.getElem?_replicate]
      by_cases h3 : i < n
      · rw [if_pos (by omega), if_pos (by omega)]
      · rw [if_neg (by omega), if_neg (by omega)]
theorem fillN_end (l : List Nat) (n : Nat) (hl : l.length = n) : fillN l n n = l := by
  unfold fillN
  rw [List.take_of_length_le (by omega)]; simp

theorem tab_ip : ∀ p ∈ psIP, 1 ≤ p := by decide
/-- a round's halves, and the block -/
def ladderN (ks : List Nat) (back : Bool) (x : Nat) : Nat → Nat × Nat
  | 0 => (x / 4294967296, x % 4294967296)
  | r + 1 => let p := ladderN ks back x r; (p.2, p.1 ^^^ mixN p.2 (ks.getD (if back then 15 - r else r) 0))
theorem mixN_lt (h k : Nat) : mixN h k < 4294967296 := permN_lt _ _ psP
theorem ladderN_lt (ks : List Nat) (back : Bool) (x : Nat) (hx : x < 18446744073709551616) : ∀ r, (ladderN ks back x r).1 < 4294967296 ∧ (ladderN ks back x r).2 < 4294967296
  | 0 => by simp only [ladderN]; omega
  | r + 1 => by
    have h := ladderN_lt ks back x hx r
    exact ⟨h.2, Nat.xor_lt_two_pow (n := 32) h.1 (mixN_lt _ _)⟩
theorem roundsN_len (l : List Nat) : (roundsN l).length = 16 := by simp [roundsN]
theorem roundsN_lt (l : List Nat) : ∀ c ∈ roundsN l, c < 18446744073709551616 := by
  intro c hc
  simp only [roundsN, List.mem_map] at hc
  obtain ⟨r, _, rfl⟩ := hc
  exact Nat.lt_trans (keyN_lt l r) (by decide)
theorem bytes8_len (x : Nat) : (bytes8 x).length = 8 := by simp [bytes8]
theorem bytes8_lt (x : Nat) : ∀ c ∈ bytes8 x, c < 256 := by
  intro c hc
  simp only [bytes8, List.mem_map] at hc
  obtain ⟨r, _, rfl⟩ := hc
  exact Nat.mod_lt _ (by decide)
def blockN (key b : List Nat) (back : Bool) : List Nat :=
  let p := ladderN (roundsN key) back (permN (be8 b) 64 psIP) 16
  bytes8 (unpN (p.2 * 4294967296 + p.1) psIP 64)
theorem blockN_len (k b : List Nat) (back : Bool) : (blockN k b back).length = 8 := bytes8_len _
theorem blockN_lt (k b : List Nat) (back : Bool) : ∀ c ∈ blockN k b back, c < 256 := bytes8_lt _
end Go.Proofs.YtgffppmpmjaknaaDoor.Pr
