/- Plain definitions and facts: what the code computes; no program in sight. Plain definitions and facts on texts of digits; no program in sight. Pure: what cvv.Of reckons. Pure: numbers as lists of bits; what the reference reckons of DES, on such lists. Pure: the reference's keys, its round's function, its block, on lists of bits; that they are what the program reckons. -/
import Derived.Laws.BitsAllLaws
import Derived.Lib.Bytealg
import Derived.Lib.Repeat
/- Plain definitions and facts: what the code computes; no program in sight. -/
namespace Go.Proofs.YthodpjcdmdbnoaaGreatDoor.Pr

/-- byte k of a text, as a number -/
def tb (t : ByteArray) (k : Nat) : Nat := if h : k < t.size then (t[k]).toNat else 0
theorem tb_of {t : ByteArray} {k : Nat} (h : k < t.size) : tb t k = (t[k]).toNat := dif_pos h

/-- a table of places, two decimal digits each -/
structure Tab (t : ByteArray) (size : Nat) (ps : List Nat) : Prop where
 len : t.size = 2 * ps.length
 short : ps.length ≤ 64
 dig : ∀ j (h : j < ps.length), tb t (2 * j) = 48 + ps[j] / 10 ∧ tb t (2 * j + 1) = 48 + ps[j] % 10 ∧ 1 ≤ ps[j] ∧ ps[j] ≤ size

theorem Tab.at_ {t : ByteArray} {size : Nat} {ps : List Nat} (h : Tab t size ps) {j k : Nat} (hk : k = 2 * j) (hlt : k < t.size) :
    ∃ (hj : j < ps.length) (h2 : k + 1 < t.size), (t[k]).toNat = 48 + ps[j] / 10 ∧ (t[k + 1]).toNat = 48 + ps[j] % 10 ∧ 1 ≤ ps[j] ∧ ps[j] ≤ size := by
 have h0 := h.len
 have hj : j < ps.length := by omega
 have h2 : k + 1 < t.size := by omega
 obtain ⟨d1, d2, d3, d4⟩ := h.dig j hj
 subst hk
 rw [tb_of hlt] at d1
 rw [tb_of h2] at d2
 exact ⟨hj, h2, d1, d2, d3, d4⟩

theorem getD_of (ps : List Nat) (j : Nat) (h : j < ps.length) : ps.getD j 0 = ps[j] := by simp [List.getD_eq_getElem?_getD, h]

def permN (x size : Nat) (ps : List Nat) : Nat := ps.foldl (fun o n => 2 * o + x / 2 ^ (size - n) % 2) 0

def unpN (x : Nat) (ps : List Nat) : Nat → Nat
 | 0 => 0
 | j + 1 => unpN x ps j ||| (x / 2 ^ (63 - j) % 2) * 2 ^ (64 - ps.getD j 0)

def turnN (x n : Nat) : Nat := (x * 2 ^ n + x / 2 ^ (28 - n)) % 2 ^ 28

def psIP : List Nat := [58, 50, 42, 34, 26, 18, 10, 2, 60, 52, 44, 36, 28, 20, 12, 4, 62, 54, 46, 38, 30, 22, 14, 6, 64, 56, 48, 40, 32, 24, 16, 8, 57, 49, 41, 33, 25, 17, 9, 1, 59, 51, 43, 35, 27, 19, 11, 3, 61, 53, 45, 37, 29, 21, 13, 5, 63, 55, 47, 39, 31, 23, 15, 7]
def psP : List Nat := [16, 7, 20, 21, 29, 12, 28, 17, 1, 15, 23, 26, 5, 18, 31, 10, 2, 8, 24, 14, 32, 27, 3, 9, 19, 13, 30, 6, 22, 11, 4, 25]
def psPC1 : List Nat := [57, 49, 41, 33, 25, 17, 9, 1, 58, 50, 42, 34, 26, 18, 10, 2, 59, 51, 43, 35, 27, 19, 11, 3, 60, 52, 44, 36, 63, 55, 47, 39, 31, 23, 15, 7, 62, 54, 46, 38, 30, 22, 14, 6, 61, 53, 45, 37, 29, 21, 13, 5, 28, 20, 12, 4]
def psPC2 : List Nat := [14, 17, 11, 24, 1, 5, 3, 28, 15, 6, 21, 10, 23, 19, 12, 4, 26, 8, 16, 7, 27, 20, 13, 2, 41, 52, 31, 37, 47, 55, 30, 40, 51, 45, 33, 48, 44, 49, 39, 56, 34, 53, 46, 42, 50, 36, 29, 32]
/-- the eight boxes' digits -/
def boxes : List (List Nat) := [[14, 4, 13, 1, 2, 15, 11, 8, 3, 10, 6, 12, 5, 9, 0, 7, 0, 15, 7, 4, 14, 2, 13, 1, 10, 6, 12, 11, 9, 5, 3, 8, 4, 1, 14, 8, 13, 6, 2, 11, 15, 12, 9, 7, 3, 10, 5, 0, 15, 12, 8, 2, 4, 9, 1, 7, 5, 11, 3, 14, 10, 0, 6, 13], [15, 1, 8, 14, 6, 11, 3, 4, 9, 7, 2, 13, 12, 0, 5, 10, 3, 13, 4, 7, 15, 2, 8, 14, 12, 0, 1, 10, 6, 9, 11, 5, 0, 14, 7, 11, 10, 4, 13, 1, 5, 8, 12, 6, 9, 3, 2, 15, 13, 8, 10, 1, 3, 15, 4, 2, 11, 6, 7, 12, 0, 5, 14, 9], [10, 0, 9, 14, 6, 3, 15, 5, 1, 13, 12, 7, 11, 4, 2, 8, 13, 7, 0, 9, 3, 4, 6, 10, 2, 8, 5, 14, 12, 11, 15, 1, 13, 6, 4, 9, 8, 15, 3, 0, 11, 1, 2, 12, 5, 10, 14, 7, 1, 10, 13, 0, 6, 9, 8, 7, 4, 15, 14, 3, 11, 5, 2, 12], [7, 13, 14, 3, 0, 6, 9, 10, 1, 2, 8, 5, 11, 12, 4, 15, 13, 8, 11, 5, 6, 15, 0, 3, 4, 7, 2, 12, 1, 10, 14, 9, 10, 6, 9, 0, 12, 11, 7, 13, 15, 1, 3, 14, 5, 2, 8, 4, 3, 15, 0, 6, 10, 1, 13, 8, 9, 4, 5, 11, 12, 7, 2, 14], [2, 12, 4, 1, 7, 10, 11, 6, 8, 5, 3, 15, 13, 0, 14, 9, 14, 11, 2, 12, 4, 7, 13, 1, 5, 0, 15, 10, 3, 9, 8, 6, 4, 2, 1, 11, 10, 13, 7, 8, 15, 9, 12, 5, 6, 3, 0, 14, 11, 8, 12, 7, 1, 14, 2, 13, 6, 15, 0, 9, 10, 4, 5, 3], [12, 1, 10, 15, 9, 2, 6, 8, 0, 13, 3, 4, 14, 7, 5, 11, 10, 15, 4, 2, 7, 12, 9, 5, 6, 1, 13, 14, 0, 11, 3, 8, 9, 14, 15, 5, 2, 8, 12, 3, 7, 0, 4, 10, 1, 13, 11, 6, 4, 3, 2, 12, 9, 5, 15, 10, 11, 14, 1, 7, 6, 0, 8, 13], [4, 11, 2, 14, 15, 0, 8, 13, 3, 12, 9, 7, 5, 10, 6, 1, 13, 0, 11, 7, 4, 9, 1, 10, 14, 3, 5, 12, 2, 15, 8, 6, 1, 4, 11, 13, 12, 3, 7, 14, 10, 15, 6, 8, 0, 5, 9, 2, 6, 11, 13, 8, 1, 4, 10, 7, 9, 5, 0, 15, 14, 2, 3, 12], [13, 2, 8, 4, 6, 15, 11, 1, 10, 9, 3, 14, 5, 0, 12, 7, 1, 15, 13, 8, 10, 3, 7, 4, 12, 5, 6, 11, 0, 14, 9, 2, 7, 11, 4, 1, 9, 12, 14, 2, 0, 6, 10, 13, 15, 3, 5, 8, 2, 1, 14, 7, 4, 10, 8, 13, 15, 12, 9, 0, 3, 5, 6, 11]]
def boxN (i six : Nat) : Nat := (boxes.getD i []).getD (((six / 16) &&& 2 ||| six &&& 1) * 16 + six / 2 % 16) 0
def wideN (half : Nat) : Nat := half % 2 * 2 ^ 33 + half * 2 + half / 2 ^ 31
def sixN (half key i : Nat) : Nat := (wideN half / 2 ^ (28 - 4 * i) % 64) ^^^ (key / 2 ^ (42 - 6 * i) % 64)
def mixB (half key : Nat) : Nat → Nat
 | 0 => 0
 | i + 1 => mixB half key i * 16 + boxN i (sixN half key i)
def mixN (half key : Nat) : Nat := permN (mixB half key 8) 32 psP
def be8 (l : List Nat) : Nat := l.foldl (fun a c => a * 256 + c) 0
def bytes8 (x : Nat) : List Nat := (List.range 8).map fun i => x / 2 ^ (56 - 8 * i) % 256

/-- how far the halves are turned in round r (from 0 on) -/
def rotN (r : Nat) : Nat := if r = 0 ∨ r = 1 ∨ r = 8 ∨ r = 15 then 1 else 2
def spun (x : Nat) : Nat → Nat
 | 0 => x
 | k + 1 => turnN (spun x k) (rotN k)
def pc1 (l : List Nat) : Nat := permN (be8 l) 64 psPC1
def keyN (l : List Nat) (r : Nat) : Nat := permN (spun (pc1 l / 268435456) (r + 1) * 268435456 + spun (pc1 l % 268435456) (r + 1)) 56 psPC2
def roundsN (l : List Nat) : List Nat := (List.range 16).map (keyN l)
/-- the first k of n numbers, the rest still 0 -/
def fillN (l : List Nat) (n k : Nat) : List Nat := l.take k ++ List.replicate (n - k) 0
theorem fillN_len (l : List Nat) (n k : Nat) (h : k ≤ n) (hl : l.length = n) : (fillN l n k).length = n := by simp [fillN, hl]; omega
theorem fillN_set (l : List Nat) (n k : Nat) (h : k < n) (hl : l.length = n) : (fillN l n k).set k (l[k]'(by omega)) = fillN l n (k + 1) := by
 apply List.ext_getElem?
 intro i
 have hlen := fillN_len l n k (by omega) hl
 unfold fillN at *
 have h1 : (l.take k).length = k := by simp; omega
 have h2 : (l.take (k+1)).length = k+1 := by simp; omega
 rw [List.getElem?_set]
 by_cases hik : k = i
 ·
  subst hik
  rw [if_pos rfl, if_pos (by omega), List.getElem?_append_left (by omega), List.getElem?_take_of_lt (by omega), List.getElem?_eq_getElem (by omega)]
 ·
  rw [if_neg hik]
  by_cases hlt : i < k
  ·
   rw [List.getElem?_append_left (by omega), List.getElem?_append_left (by omega), List.getElem?_take_of_lt (by omega), List.getElem?_take_of_lt (by omega)]
  ·
   rw [List.getElem?_append_right (by omega), List.getElem?_append_right (by omega), h1, h2, List.getElem?_replicate, List.getElem?_replicate]
   by_cases h3 : i < n
   ·
    rw [if_pos (by omega), if_pos (by omega)]
   ·
    rw [if_neg (by omega), if_neg (by omega)]
theorem fillN_end (l : List Nat) (n : Nat) (hl : l.length = n) : fillN l n n = l := by
 unfold fillN
 rw [List.take_of_length_le (by omega)]; simp

/-- a round's halves, and the block -/
def ladderN (ks : List Nat) (back : Bool) (x : Nat) : Nat → Nat × Nat
 | 0 => (x / 4294967296, x % 4294967296)
 | r + 1 => let p := ladderN ks back x r; (p.2, p.1 ^^^ mixN p.2 (ks.getD (if back then 15 - r else r) 0))
theorem bytes8_len (x : Nat) : (bytes8 x).length = 8 := by simp [bytes8]
theorem bytes8_lt (x : Nat) : ∀ c ∈ bytes8 x, c < 256 := by
 intro c hc
 simp only [bytes8, List.mem_map] at hc
 obtain ⟨r, _, rfl⟩ := hc
 exact Nat.mod_lt _ (by decide)
def blockN (key b : List Nat) (back : Bool) : List Nat :=
 let p := ladderN (roundsN key) back (permN (be8 b) 64 psIP) 16
 bytes8 (unpN (p.2 * 4294967296 + p.1) psIP 64)
theorem blockN_len (k b : List Nat) (back : Bool) : (blockN k b back).length = 8 := bytes8_len _
theorem blockN_lt (k b : List Nat) (back : Bool) : ∀ c ∈ blockN k b back, c < 256 := bytes8_lt _
end Go.Proofs.YthodpjcdmdbnoaaGreatDoor.Pr

/- Plain definitions and facts on texts of digits; no program in sight. -/
namespace Go.Proofs.YthodpjcdmdbnoaaGreatDoor.Pr

def digs : List UInt8 := [48, 49, 50, 51, 52, 53, 54, 55, 56, 57, 65, 66, 67, 68, 69, 70]
/-- is a byte one of some? -/
def isIn (sm : List UInt8) (c : UInt8) : Bool := decide (0 ≤ Lib.indexByte sm c)
def isDec (c : UInt8) : Bool := decide (48 ≤ c.toNat ∧ c.toNat ≤ 57)
def isHex (c : UInt8) : Bool := isDec c || decide (65 ≤ c.toNat ∧ c.toNat ≤ 70)
/-- a hexadecimal digit's number -/
def hexv (c : UInt8) : Nat := if c.toNat ≤ 57 then c.toNat - 48 else c.toNat - 55
def hexd (n : Nat) : UInt8 := if n < 10 then UInt8.ofNat (48 + n) else UInt8.ofNat (55 + n)

theorem all_u8 {p : UInt8 → Prop} [DecidablePred p] (h : (List.range 256).all (fun n => decide (p (UInt8.ofNat n))) = true) (c : UInt8) : p c := by
 have := List.all_eq_true.1 h c.toNat (List.mem_range.2 c.toNat_lt)
 rw [decide_eq_true_eq, UInt8.ofNat_toNat] at this
 exact this
theorem isIn_digs (c : UInt8) : isIn digs c = isHex c := all_u8 (p := fun c => isIn digs c = isHex c) (by decide +kernel) c
theorem isIn_dec (c : UInt8) : isIn (digs.take 10) c = isDec c := all_u8 (p := fun c => isIn (digs.take 10) c = isDec c) (by decide +kernel) c
theorem indexByte_digs (c : UInt8) (h : isHex c = true) : Lib.indexByte digs c = hexv c := by
 have := all_u8 (p := fun c => isHex c = true → Lib.indexByte digs c = hexv c) (by decide +kernel) c
 exact this h
theorem hexv_lt (c : UInt8) (h : isHex c = true) : hexv c < 16 := by
 have := all_u8 (p := fun c => isHex c = true → hexv c < 16) (by decide +kernel) c
 exact this h
theorem isHex_of_dec {c : UInt8} (h : isDec c = true) : isHex c = true := by simp [isHex, h]

/-- the place of the first byte that isn't right -/
def badAt (p : UInt8 → Bool) : List UInt8 → Option Nat
 | [] => none
 | c :: r => if p c then (badAt p r).map (· + 1) else some 0
def badZ (p : UInt8 → Bool) (s : List UInt8) : Int := match badAt p s with | some k => k | none => -1
theorem badAt_none {p : UInt8 → Bool} : ∀ {s : List UInt8}, (∀ c ∈ s, p c = true) → badAt p s = none
 | [], _ => rfl
 | c :: r, h => by rw [badAt, if_pos (h c (by simp)), badAt_none fun c hc => h c (by simp [hc])]; rfl
theorem badAt_some {p : UInt8 → Bool} : ∀ {s : List UInt8} {k : Nat} (hk : k < s.length), (∀ j (h : j < k), p (s[j]'(by omega)) = true) → p s[k] = false → badAt p s = some k
 | c :: r, 0, _, _, h => by rw [badAt, if_neg (by simpa using h)]
 | c :: r, k + 1, hk, h, hb => by
  rw [badAt, if_pos (by simpa using h 0 (by omega)), badAt_some (k := k) (by simpa using hk) (fun j hj => by simpa using h (j + 1) (by omega)) (by simpa using hb)]
  rfl
theorem all_of_badAt {p : UInt8 → Bool} : ∀ {s : List UInt8}, badAt p s = none → ∀ c ∈ s, p c = true
 | [], _, c, hc => by cases hc
 | d :: r, h, c, hc => by
  rw [badAt] at h
  by_cases hd : p d = true
  ·
   rw [if_pos hd] at h
   rcases List.mem_cons.1 hc with rfl | hc
   ·
    exact hd
   ·
    exact all_of_badAt (by simpa using h) c hc
  ·
   rw [if_neg hd] at h; cases h
theorem badAt_congr {p q : UInt8 → Bool} (h : ∀ c, p c = q c) (s : List UInt8) : badAt p s = badAt q s := by
 rw [show p = q from funext h]

def hexL (l : List Nat) : List UInt8 := l.flatMap fun c => [hexd (c / 16), hexd (c % 16)]
theorem hexL_snoc (l : List Nat) (c : Nat) : hexL (l ++ [c]) = hexL l ++ [hexd (c / 16)] ++ [hexd (c % 16)] := by simp [hexL]
theorem hexL_len (l : List Nat) : (hexL l).length = 2 * l.length := by
 induction l with
 | nil => rfl
 | cons c l ih => simp only [hexL, List.flatMap_cons, List.length_append, List.length_cons, List.length_nil] at *; omega
def unhexAt (s : List UInt8) (j : Nat) : Nat := hexv (s.getD (2 * j) 0) * 16 + hexv (s.getD (2 * j + 1) 0)
def unhexL (s : List UInt8) : List Nat := (List.range (s.length / 2)).map (unhexAt s)
theorem unhexL_len (s : List UInt8) : (unhexL s).length = s.length / 2 := by simp [unhexL]
theorem unhexAt_lt {s : List UInt8} (h : ∀ c ∈ s, isHex c = true) (j : Nat) (hj : 2 * j + 1 < s.length) : unhexAt s j < 256 := by
 have e : ∀ i < s.length, hexv (s.getD i 0) < 16 := fun i hi => by
  have : s.getD i 0 = s[i] := by simp [List.getD_eq_getElem?_getD, hi]
  rw [this]; exact hexv_lt _ (h _ (List.getElem_mem _))
 have h1 := e (2 * j) (by omega)
 have h2 := e (2 * j + 1) hj
 unfold unhexAt; omega
theorem unhexL_lt {s : List UInt8} (h : ∀ c ∈ s, isHex c = true) : ∀ c ∈ unhexL s, c < 256 := by
 intro c hc
 simp only [unhexL, List.mem_map, List.mem_range] at hc
 obtain ⟨j, hj, rfl⟩ := hc
 exact unhexAt_lt h j (by omega)
theorem unhexL_take (s : List UInt8) (j : Nat) (h : j < s.length / 2) : (unhexL s).take (j + 1) = (unhexL s).take j ++ [unhexAt s j] := by
 have hl : j < (unhexL s).length := by rw [unhexL_len]; exact h
 rw [List.take_succ_eq_append_getElem hl]
 simp [unhexL]

end Go.Proofs.YthodpjcdmdbnoaaGreatDoor.Pr

/- Pure: what cvv.Of reckons. -/
namespace Go.Proofs.YthodpjcdmdbnoaaGreatDoor
open Go
namespace Pr

/-- x with its first k places xored with y's -/
def xorTo (x y : List Nat) : Nat → List Nat
 | 0 => x
 | k + 1 => (xorTo x y k).set k (x.getD k 0 ^^^ y.getD k 0)
theorem xorTo_len (x y : List Nat) : ∀ k, (xorTo x y k).length = x.length
 | 0 => rfl
 | k + 1 => by rw [xorTo, List.length_set, xorTo_len x y k]
theorem xorTo_lt (x y : List Nat) (hx : ∀ c ∈ x, c < 256) (hy : ∀ c ∈ y, c < 256) : ∀ k, ∀ c ∈ xorTo x y k, c < 256
 | 0 => hx
 | k + 1 => by
  intro c hc
  rcases List.mem_or_eq_of_mem_set hc with h | rfl
  ·
   exact xorTo_lt x y hx hy k c h
  ·
   have hg : ∀ (l : List Nat), (∀ c ∈ l, c < 256) → l.getD k 0 < 256 := fun l hl => by
    rw [List.getD_eq_getElem?_getD]
    rcases Nat.lt_or_ge k l.length with h | h
    ·
     rw [List.getElem?_eq_getElem h]; exact hl _ (List.getElem_mem _)
    ·
     rw [List.getElem?_eq_none h]; decide
   exact Nat.xor_lt_two_pow (n := 8) (hg x hx) (hg y hy)

theorem mem_repeat (l : List UInt8) (x : UInt8) : ∀ n, x ∈ Lib.repeatL l n → x ∈ l
 | 0, h => by simp [Lib.repeatL] at h
 | n + 1, h => by
  rw [Lib.repeatL_add, List.mem_append, Lib.repeatL_one] at h
  rcases h with h | h
  ·
   exact mem_repeat l x n h
  ·
   exact h
theorem hexd_hex (n : Nat) (h : n < 16) : isHex (hexd n) = true := by
 have : ∀ n < 16, isHex (hexd n) = true := by decide +kernel
 exact this n h
theorem hexL_hex (l : List Nat) (h : ∀ c ∈ l, c < 256) : ∀ c ∈ hexL l, isHex c = true := by
 intro c hc
 unfold hexL at hc
 rw [List.mem_flatMap] at hc
 obtain ⟨x, hx, hc⟩ := hc
 have := h x hx
 simp only [List.mem_cons, List.not_mem_nil, or_false] at hc
 rcases hc with rfl | rfl
 ·
  exact hexd_hex _ (by omega)
 ·
  exact hexd_hex _ (by omega)

end Pr
end Go.Proofs.YthodpjcdmdbnoaaGreatDoor

/- Pure: numbers as lists of bits; what the reference reckons of DES, on such lists. -/
namespace Go.Proofs.YthodpjcdmdbnoaaGreatDoor
open Go
namespace Pr

/-- the w bits of x, the highest first -/
def bitsW (w x : Nat) : List Nat := (List.range w).map fun i => x / 2 ^ (w - 1 - i) % 2
/-- a byte's bits -/
def bitsB (l : List Nat) : List Nat := l.flatMap (bitsW 8)
/-- bits picked by places -/
def permR (l ps : List Nat) : List Nat := ps.map fun p => l.getD (p - 1) 0
end Pr
end Go.Proofs.YthodpjcdmdbnoaaGreatDoor

/- Pure: the reference's keys, its round's function, its block, on lists of bits; that they are what the program reckons. -/
namespace Go.Proofs.YthodpjcdmdbnoaaGreatDoor
open Go
namespace Pr

def refC (c : List Nat) : Nat → List Nat
 | 0 => c
 | r + 1 => (refC c r).drop (rotN r) ++ (refC c r).take (rotN r)
/-- a round's key -/
def keyR (l : List Nat) (r : Nat) : List Nat := permR (refC ((permR (bitsB l) psPC1).take 28) (r + 1) ++ refC ((permR (bitsB l) psPC1).drop 28) (r + 1)) psPC2
end Pr
end Go.Proofs.YthodpjcdmdbnoaaGreatDoor
