/- lockboxref01.Mul: its plain function and its contract. lockboxref01.Affine: its plain function and its contract. lockboxref02.Boxes: its plain function; it is the box. lockboxref02.Boxes: the walk. lockboxref02.Words: plain facts; rows of words of four bytes. -/
import Derived.Test.YthodpjcdmdbnoaaGreatDoorNAG
import Derived.Test.YthodpjcdmdbnoaaGreatDoorNAesR
import Derived.Test.YthodpjcdmdbnoaaGreatDoorNAesXY
/- lockboxref01.Mul: its plain function and its contract. -/
namespace Go.Proofs.YthodpjcdmdbnoaaGreatDoor
open Go Go.RowKit Pr

def rowR (a b i p : Nat) : Nat → Nat
 | 0 => p
 | k + 1 => if a / 2 ^ i % 2 = 1 ∧ b / 2 ^ k % 2 = 1 then rowR a b i p k ^^^ 2 ^ (i + k) else rowR a b i p k
def tabR (a b : Nat) : Nat → Nat
 | 0 => 0
 | i + 1 => rowR a b i (tabR a b i) 8
def redR (p : Nat) : Nat → Nat
 | 0 => p
 | j + 1 => if redR p j / 2 ^ (14 - j) % 2 = 1 then redR p j ^^^ (283 * 2 ^ (6 - j)) else redR p j
def mulR (a b : Nat) : Nat := redR (tabR a b 8) 7 % 256
theorem rowR_lt (a b i p : Nat) (hi : i < 8) (hp : p < 32768) : ∀ k, k ≤ 8 → rowR a b i p k < 32768
 | 0, _ => hp
 | k + 1, hk => by
  have h := rowR_lt a b i p hi hp k (by omega)
  unfold rowR
  split
  ·
   have : 2 ^ (i + k) < 2 ^ 15 := Nat.pow_lt_pow_right (by omega) (by omega)
   exact Nat.xor_lt_two_pow (n := 15) h this
  ·
   exact h
theorem tabR_lt (a b : Nat) : ∀ i, i ≤ 8 → tabR a b i < 32768
 | 0, _ => by unfold tabR; omega
 | i + 1, hi => by
  unfold tabR
  exact rowR_lt a b i _ (by omega) (tabR_lt a b i (by omega)) 8 (Nat.le_refl _)
theorem redR_lt (p : Nat) (hp : p < 32768) : ∀ j, j ≤ 7 → redR p j < 32768
 | 0, _ => hp
 | j + 1, hj => by
  have h := redR_lt p hp j (by omega)
  unfold redR
  split
  ·
   have : 283 * 2 ^ (6 - j) < 2 ^ 15 := by
    have : 2 ^ (6 - j) ≤ 2 ^ 6 := Nat.pow_le_pow_right (by omega) (by omega)
    omega
   exact Nat.xor_lt_two_pow (n := 15) h this
  ·
   exact h
set_option maxRecDepth 100000 in
theorem mulR_2 : ∀ x < 256, mulR 2 x = mulG 2 x ∧ mulR x 2 = mulG x 2 ∧ mulR 3 x = mulG 3 x ∧ mulR x 3 = mulG x 3 := by decide +kernel
set_option maxRecDepth 100000 in
theorem mulR_9 : ∀ x < 256, mulR 9 x = mulG 9 x ∧ mulR 11 x = mulG 11 x ∧ mulR 13 x = mulG 13 x ∧ mulR 14 x = mulG 14 x := by decide +kernel

theorem i64_and_nat (a b : Nat) (ha : a < 4611686018427387904) (hb : b < 4611686018427387904) : bits .and .i64 (a : Int) (b : Int) = ((a &&& b : Nat) : Int) := by
 have hx : a &&& b < 2 ^ 62 := Nat.and_lt_two_pow _ (by omega)
 show IntKind.i64.wrap ((BitVec.ofInt 64 (a : Int) &&& BitVec.ofInt 64 (b : Int)).toNat : Int) = _
 rw [BitVec.toNat_and, ofInt_u64 a (by omega), ofInt_u64 b (by omega), IntWalk.i64_in _ (by omega)]
theorem i64_xor_nat (a b : Nat) (ha : a < 4611686018427387904) (hb : b < 4611686018427387904) : bits .xor .i64 (a : Int) (b : Int) = ((a ^^^ b : Nat) : Int) := by
 have hx : a ^^^ b < 2 ^ 62 := Nat.xor_lt_two_pow (by omega) (by omega)
 show IntKind.i64.wrap ((BitVec.ofInt 64 (a : Int) ^^^ BitVec.ofInt 64 (b : Int)).toNat : Int) = _
 rw [BitVec.toNat_xor, ofInt_u64 a (by omega), ofInt_u64 b (by omega), IntWalk.i64_in _ (by omega)]
theorem i64_bit (a n : Nat) (ha : a < 32768) : bits .and .i64 ((a : Int) / 2 ^ n) 1 = ((a / 2 ^ n % 2 : Nat) : Int) := by
 have h : a / 2 ^ n < 32768 := Nat.lt_of_le_of_lt (Nat.div_le_self _ _) ha
 rw [show (a : Int) / 2 ^ n = ((a / 2 ^ n : Nat) : Int) by simp, show (1 : Int) = ((1 : Nat) : Int) from rfl, i64_and_nat _ 1 (by omega) (by omega), Nat.and_one_is_mod]
theorem i64_flip (p c : Nat) (hp : p < 32768) (hc : c < 32768) : bits .xor .i64 (p : Int) (wrap64 (c : Int)) = ((p ^^^ c : Nat) : Int) := by
 rw [show wrap64 (c : Int) = (c : Int) by unfold wrap64; omega, i64_xor_nat _ _ (by omega) (by omega)]

set_option maxHeartbeats 2000000 in
theorem mulR_any (a b : Nat) (ha : a < 256) (hb : b < 256) (w : World) :
    Calls Tryz.prog 91 #[.int .u8 a, .int .u8 b] w fun e w' => e = .returned (.int .u8 (mulR a b : Nat)) ∧ w = w' := by
 have HT := Lib.hid (fun i hi => tabR_lt a b i hi)
 go_enter Tryz.func91, Tryz.ntmps91
 go_wp2
 go_loop [5, 6] (fun p i => ∃ n : Nat, n ≤ 8 ∧ i = .int .i64 n ∧ p = .int .i64 (tabR a b n : Nat)) (fun _ i => 8 - (intOf i).toNat)
 case atStart => exact ⟨0, by omega, rfl, rfl⟩
 case round =>
  obtain ⟨n, hn, rfl, rfl⟩ := hrel
  by_cases hlt : n < 8
  ·
   have hni : (n : Int) < 8 := by omega
   go_wp2
   go_loop [5, 7] (fun p k => ∃ m : Nat, m ≤ 8 ∧ k = .int .i64 m ∧ p = .int .i64 (rowR a b n (tabR a b n) m : Nat)) (fun _ k => 8 - (intOf k).toNat)
   case atStart => exact ⟨0, by omega, rfl, rfl⟩
   case round =>
    obtain ⟨m, hm, rfl, rfl⟩ := hrel
    by_cases hlt2 : m < 8
    ·
     have hmi : (m : Int) < 8 := by omega
     have e1 := i64_bit a n (by omega)
     have e2 := i64_bit b m (by omega)
     have hP := rowR_lt a b n _ hlt (HT.out n hn) m hm
     have s1 : rowR a b n (tabR a b n) (m + 1) = if a / 2 ^ n % 2 = 1 ∧ b / 2 ^ m % 2 = 1 then rowR a b n (tabR a b n) m ^^^ 2 ^ (n + m) else rowR a b n (tabR a b n) m := rfl
     have hc : 2 ^ (n + m) < 32768 := by
      have : 2 ^ (n + m) < 2 ^ 15 := Nat.pow_lt_pow_right (by omega) (by omega)
      omega
     have e3 := i64_flip _ (2 ^ (n + m)) hP hc
     rw [show ((2 ^ (n + m) : Nat) : Int) = 2 ^ (n + m) by simp] at e3
     have S1 := Lib.hid s1; clear s1
     have E3 := Lib.hid e3; clear e3
     have fin : ∀ o : Int, o = ((if a / 2 ^ n % 2 = 1 ∧ b / 2 ^ m % 2 = 1 then rowR a b n (tabR a b n) m ^^^ 2 ^ (n + m) else rowR a b n (tabR a b n) m : Nat) : Int) → ∃ m_1 : Nat, m_1 ≤ 8 ∧ Value.int IntKind.i64 (↑m + 1) = Value.int IntKind.i64 ↑m_1 ∧ Value.int IntKind.i64 o = Value.int IntKind.i64 ↑(rowR a b n (tabR a b n) m_1) := by
      rintro o rfl
      exact ⟨m + 1, by omega, by go_num, by rw [S1.out]⟩
     have FIN := Lib.hid fin; clear fin
     have hms : 8 - (intOf (Value.int IntKind.i64 ((m : Int) + 1))).toNat < 8 - (intOf (Value.int IntKind.i64 (m : Int))).toNat := by simp [intOf]; omega
     have HMS := Lib.hid hms; clear hms
     rcases (by omega : a / 2 ^ n % 2 = 0 ∨ a / 2 ^ n % 2 = 1) with h1 | h1 <;> rcases (by omega : b / 2 ^ m % 2 = 0 ∨ b / 2 ^ m % 2 = 1) with h2 | h2 <;> rw [h1] at e1 FIN <;> rw [h2] at e2 FIN <;> clear h1 h2
     ·
      go_wp2
      exact ⟨FIN.out _ (by simp), HMS.out⟩
     ·
      go_wp2
      exact ⟨FIN.out _ (by simp), HMS.out⟩
     ·
      go_wp2
      exact ⟨FIN.out _ (by simp), HMS.out⟩
     ·
      go_wp2
      exact ⟨FIN.out _ (by rw [E3.out]; simp), HMS.out⟩
    ·
     obtain rfl : m = 8 := by omega
     go_wp2
     go_roundw
     case rel => exact ⟨n + 1, by omega, by go_num, rfl⟩
     case measure => simp [intOf]; omega
  ·
   obtain rfl : n = 8 := by omega
   have hT8 := HT.out 8 (Nat.le_refl _)
   have hz : redR (tabR a b 8) 7 % 256 = mulR a b := rfl
   have HZ := Lib.hid hz; clear hz
   have HR := Lib.hid (fun j hj => redR_lt _ hT8 j hj)
   have hs : ∀ j, redR (tabR a b 8) (j + 1) = if redR (tabR a b 8) j / 2 ^ (14 - j) % 2 = 1 then redR (tabR a b 8) j ^^^ (283 * 2 ^ (6 - j)) else redR (tabR a b 8) j := fun j => rfl
   have HS := Lib.hid hs; clear hs
   have h0 : redR (tabR a b 8) 0 = tabR a b 8 := rfl
   have H0 := Lib.hid h0; clear h0
   generalize redR (tabR a b 8) = R at *
   go_wp2
   go_loop [5, 8] (fun p i => ∃ j q : Nat, j ≤ 7 ∧ q + j = 14 ∧ i = .int .i64 q ∧ p = .int .i64 (R j : Nat)) (fun _ i => (intOf i).toNat)
   case atStart => exact ⟨0, 14, by omega, rfl, rfl, by rw [H0.out]⟩
   case round =>
    obtain ⟨j, q, hj, hq, rfl, rfl⟩ := hrel
    by_cases hlt3 : j < 7
    ·
     have hq8 : (8 : Int) ≤ (q : Int) := by omega
     have hq14 : (q : Int) ≤ 14 := by omega
     have hP := HR.out j (by omega)
     have e1 := i64_bit (R j) q hP
     obtain ⟨t, rfl⟩ : ∃ t, q = t + 8 := ⟨q - 8, by omega⟩
     have ht : t + 8 - 8 = t := by omega
     have hc : 283 * 2 ^ t < 32768 := by
      have : 2 ^ t ≤ 2 ^ 6 := Nat.pow_le_pow_right (by omega) (by omega)
      omega
     have e3 := i64_flip _ (283 * 2 ^ t) hP hc
     rw [show ((283 * 2 ^ t : Nat) : Int) = 283 * 2 ^ t by simp] at e3
     have s1 := HS.out j
     rw [show 14 - j = t + 8 by omega, show 6 - j = t by omega] at s1
     have S1 := Lib.hid s1; clear s1
     have E3 := Lib.hid e3; clear e3
     have fin : ∀ o i : Int, i = ((t + 7 : Nat) : Int) → o = ((if R j / 2 ^ (t + 8) % 2 = 1 then R j ^^^ (283 * 2 ^ t) else R j : Nat) : Int) → (∃ j_1 q_1 : Nat, j_1 ≤ 7 ∧ q_1 + j_1 = 14 ∧ Value.int IntKind.i64 i = Value.int IntKind.i64 ↑q_1 ∧ Value.int IntKind.i64 o = Value.int IntKind.i64 ↑(R j_1)) ∧ (intOf (Value.int IntKind.i64 i)).toNat < (intOf (Value.int IntKind.i64 ((t + 8 : Nat) : Int))).toNat := by
      rintro o i rfl rfl
      exact ⟨⟨j + 1, t + 7, by omega, by omega, rfl, by rw [S1.out]⟩, by simp only [intOf]; omega⟩
     have FIN := Lib.hid fin; clear fin
     rcases (by omega : R j / 2 ^ (t + 8) % 2 = 0 ∨ R j / 2 ^ (t + 8) % 2 = 1) with h1 | h1 <;> rw [h1] at e1 FIN <;> clear h1
     ·
      go_wp2
      exact FIN.out _ _ (by omega) (by simp)
     ·
      go_wp2
      exact FIN.out _ _ (by omega) (by first | (rw [E3.out]; simp) | (rw [ht, E3.out]; simp))
    ·
     obtain rfl : j = 7 := by omega
     obtain rfl : q = 7 := by omega
     have hm : (R 7 : Int) % 256 = ((mulR a b : Nat) : Int) := by rw [← HZ.out]; simp
     go_wp2
     go_ret
     exact ⟨rfl, rfl⟩
end Go.Proofs.YthodpjcdmdbnoaaGreatDoor

/- lockboxref01.Affine: its plain function and its contract. -/
namespace Go.Proofs.YthodpjcdmdbnoaaGreatDoor
open Go Go.RowKit Pr

def sumA (b i : Nat) : Nat → Nat
 | 0 => 99 / 2 ^ i
 | m + 1 => sumA b i m ^^^ (b / 2 ^ ((i + (4 + m)) % 8))
def affTo (b : Nat) : Nat → Nat
 | 0 => 0
 | i + 1 => affTo b i ||| (sumA b i 5 % 2) * 2 ^ i
def affR (b : Nat) : Nat := affTo b 8
theorem sumA_lt (b i : Nat) (hb : b < 256) : ∀ m, sumA b i m < 256
 | 0 => by
  unfold sumA
  exact Nat.lt_of_le_of_lt (Nat.div_le_self _ _) (by omega)
 | m + 1 => by
  unfold sumA
  exact Nat.xor_lt_two_pow (n := 8) (sumA_lt b i hb m) (Nat.lt_of_le_of_lt (Nat.div_le_self _ _) hb)
theorem affTo_lt (b : Nat) : ∀ i, i ≤ 8 → affTo b i < 256
 | 0, _ => by unfold affTo; omega
 | i + 1, hi => by
  unfold affTo
  refine Nat.or_lt_two_pow (n := 8) (affTo_lt b i (by omega)) ?_
  have h1 : sumA b i 5 % 2 < 2 := Nat.mod_lt _ (by omega)
  have h2 : 2 ^ i ≤ 2 ^ 7 := Nat.pow_le_pow_right (by omega) (by omega)
  have h3 : sumA b i 5 % 2 * 2 ^ i ≤ 1 * 2 ^ 7 := Nat.mul_le_mul (by omega) h2
  omega
theorem i64_or_nat2 (a b : Nat) (ha : a < 4611686018427387904) (hb : b < 4611686018427387904) : bits .or .i64 (a : Int) (b : Int) = ((a ||| b : Nat) : Int) := by
 have hx : a ||| b < 2 ^ 62 := Nat.or_lt_two_pow (by omega) (by omega)
 show IntKind.i64.wrap ((BitVec.ofInt 64 (a : Int) ||| BitVec.ofInt 64 (b : Int)).toNat : Int) = _
 rw [BitVec.toNat_or, ofInt_u64 a (by omega), ofInt_u64 b (by omega), IntWalk.i64_in _ (by omega)]

set_option maxHeartbeats 2000000 in
theorem affR_any (b : Nat) (hb : b < 256) (w : World) :
    Calls Tryz.prog 121 #[.int .u8 b] w fun e w' => e = .returned (.int .u8 (affR b : Nat)) ∧ w = w' := by
 have HL := Lib.hid (fun i m => sumA_lt b i hb m)
 have HT := Lib.hid (fun i hi => affTo_lt b i hi)
 have hs : ∀ i m, sumA b i (m + 1) = sumA b i m ^^^ (b / 2 ^ ((i + (4 + m)) % 8)) := fun _ _ => rfl
 have ht : ∀ i, affTo b (i + 1) = affTo b i ||| (sumA b i 5 % 2) * 2 ^ i := fun _ => rfl
 have hz : affTo b 8 = affR b := rfl
 have h0 : affTo b 0 = 0 := rfl
 have hs0 : ∀ i, sumA b i 0 = 99 / 2 ^ i := fun _ => rfl
 have HS := Lib.hid hs; clear hs
 have HA := Lib.hid ht; clear ht
 have HZ := Lib.hid hz; clear hz
 have H0 := Lib.hid h0; clear h0
 have HS0 := Lib.hid hs0; clear hs0
 generalize affTo b = T at *
 generalize sumA b = U at *
 go_enter Tryz.func121, Tryz.ntmps121
 go_wp2
 go_loop [4, 5] (fun o i => ∃ n : Nat, n ≤ 8 ∧ i = .int .i64 n ∧ o = .int .i64 (T n : Nat)) (fun _ i => 8 - (intOf i).toNat)
 case atStart => exact ⟨0, by omega, rfl, by rw [H0.out]; rfl⟩
 case round =>
  obtain ⟨n, hn, rfl, rfl⟩ := hrel
  by_cases hlt : n < 8
  ·
   have hni : (n : Int) < 8 := by omega
   go_wp2
   go_loop [6, 7] (fun s k => ∃ m : Nat, m ≤ 5 ∧ k = .int .i64 ((4 + m : Nat) : Int) ∧ s = .int .i64 (U n m : Nat)) (fun _ k => 9 - (intOf k).toNat)
   case atStart => exact ⟨0, by omega, rfl, by rw [HS0.out]; simp⟩
   case round =>
    obtain ⟨m, hm, rfl, rfl⟩ := hrel
    by_cases hlt2 : m < 5
    ·
     have hmi : ((4 + m : Nat) : Int) ≤ 8 := by omega
     have hU := HL.out n m
     have hB : b / 2 ^ ((n + (4 + m)) % 8) < 256 := Nat.lt_of_le_of_lt (Nat.div_le_self _ _) hb
     have e3 := i64_xor_nat (U n m) (b / 2 ^ ((n + (4 + m)) % 8)) (by omega) (by omega)
     rw [show ((b / 2 ^ ((n + (4 + m)) % 8) : Nat) : Int) = (b : Int) / 2 ^ ((n + (4 + m)) % 8) by simp, ← HS.out] at e3
     have E3 := Lib.hid e3; clear e3
     clear hU hB
     go_wp2
     exact ⟨⟨m + 1, by omega, by congr 1, by rw [E3.out]⟩, by simp only [intOf]; omega⟩
    ·
     obtain rfl : m = 5 := by omega
     have hU := HL.out n 5
     have hTn := HT.out n hn
     have e1 := i64_and_nat (U n 5) 1 (by omega) (by omega)
     rw [Nat.and_one_is_mod] at e1
     have h2 : 2 ^ n ≤ 2 ^ 7 := Nat.pow_le_pow_right (by omega) (by omega)
     have h3 : U n 5 % 2 * 2 ^ n ≤ 1 * 2 ^ 7 := Nat.mul_le_mul (by omega) h2
     have e2 : wrap64 (((U n 5 % 2 : Nat) : Int) * 2 ^ n) = ((U n 5 % 2 * 2 ^ n : Nat) : Int) := by
      rw [show ((U n 5 % 2 : Nat) : Int) * 2 ^ n = ((U n 5 % 2 * 2 ^ n : Nat) : Int) by simp]
      unfold wrap64
      omega
     have e3 := i64_or_nat2 (T n) (U n 5 % 2 * 2 ^ n) (by omega) (by omega)
     rw [← HA.out] at e3
     have E1 := Lib.hid e1; clear e1
     have E2 := Lib.hid e2; clear e2
     have E3 := Lib.hid e3; clear e3
     clear hU hTn h2 h3
     go_wp2
     exact ⟨⟨n + 1, by omega, by go_num, by rw [show (1 : Int) = ((1 : Nat) : Int) from rfl, E1.out, E2.out, E3.out]⟩, by simp only [intOf]; omega⟩
  ·
   obtain rfl : n = 8 := by omega
   have hm : (T 8 : Int) % 256 = ((affR b : Nat) : Int) := by have := HT.out 8 (Nat.le_refl _); rw [← HZ.out]; omega
   go_wp2
   go_ret
   exact ⟨rfl, rfl⟩
end Go.Proofs.YthodpjcdmdbnoaaGreatDoor

/- lockboxref02.Boxes: its plain function; it is the box. -/
namespace Go.Proofs.YthodpjcdmdbnoaaGreatDoor
open Go Go.RowKit Pr

def powA : Nat → Nat
 | 0 => 1
 | k + 1 => mulR (powA k) 3
def powT : List Nat := [1, 3, 5, 15, 17, 51, 85, 255, 26, 46, 114, 150, 161, 248, 19, 53, 95, 225, 56, 72, 216, 115, 149, 164, 247, 2, 6, 10, 30, 34, 102, 170, 229, 52, 92, 228, 55, 89, 235, 38, 106, 190, 217, 112, 144, 171, 230, 49, 83, 245, 4, 12, 20, 60, 68, 204, 79, 209, 104, 184, 211, 110, 178, 205, 76, 212, 103, 169, 224, 59, 77, 215, 98, 166, 241, 8, 24, 40, 120, 136, 131, 158, 185, 208, 107, 189, 220, 127, 129, 152, 179, 206, 73, 219, 118, 154, 181, 196, 87, 249, 16, 48, 80, 240, 11, 29, 39, 105, 187, 214, 97, 163, 254, 25, 43, 125, 135, 146, 173, 236, 47, 113, 147, 174, 233, 32, 96, 160, 251, 22, 58, 78, 210, 109, 183, 194, 93, 231, 50, 86, 250, 21, 63, 65, 195, 94, 226, 61, 71, 201, 64, 192, 91, 237, 44, 116, 156, 191, 218, 117, 159, 186, 213, 100, 172, 239, 42, 126, 130, 157, 188, 223, 122, 142, 137, 128, 155, 182, 193, 88, 232, 35, 101, 175, 234, 37, 111, 177, 200, 67, 197, 84, 252, 31, 33, 99, 165, 244, 7, 9, 27, 45, 119, 153, 176, 203, 70, 202, 69, 207, 74, 222, 121, 139, 134, 145, 168, 227, 62, 66, 198, 81, 243, 14, 18, 54, 90, 238, 41, 123, 141, 140, 143, 138, 133, 148, 167, 242, 13, 23, 57, 75, 221, 124, 132, 151, 162, 253, 28, 36, 108, 180, 199, 82, 246]
def boxTo (P : List Nat) : Nat → List Nat
 | 0 => (List.replicate 256 0).set 0 (affR 0)
 | i + 1 => (boxTo P i).set (P.getD i 0) (affR (P.getD ((255 - i) % 255) 0))
set_option maxRecDepth 100000 in
theorem powT_step : ∀ i < 254, mulR (powT.getD i 0) 3 = powT.getD (i + 1) 0 := by decide +kernel
theorem powA_T : ∀ i, i < 255 → powA i = powT.getD i 0
 | 0, _ => rfl
 | i + 1, h => by
  unfold powA
  rw [powA_T i (by omega), powT_step i (by omega)]
set_option maxRecDepth 100000 in
theorem powT_len : powT.length = 255 := by decide +kernel
set_option maxRecDepth 100000 in
theorem powT_lt : ∀ i < 255, powT.getD i 0 < 256 := by decide +kernel
set_option maxRecDepth 100000 in
theorem boxTo_G : boxTo powT 255 = (List.range 256).map boxG := by decide +kernel
theorem boxTo_len (P : List Nat) : ∀ i, (boxTo P i).length = 256
 | 0 => by
  unfold boxTo
  rw [List.length_set, List.length_replicate]
 | i + 1 => by
  unfold boxTo
  rw [List.length_set, boxTo_len P i]
end Go.Proofs.YthodpjcdmdbnoaaGreatDoor

/- lockboxref02.Boxes: the walk. -/
namespace Go.Proofs.YthodpjcdmdbnoaaGreatDoor
open Go Go.RowKit Pr

def eTo : Nat → List Nat
 | 0 => List.replicate 255 0
 | k + 1 => (eTo k).set k (powA k)
theorem eTo_len : ∀ k, (eTo k).length = 255
 | 0 => by
  unfold eTo
  rw [List.length_replicate]
 | k + 1 => by
  unfold eTo
  rw [List.length_set, eTo_len k]
theorem eTo_at : ∀ k i, i < 255 → (eTo k).getD i 0 = if i < k then powA i else 0
 | 0, i, hi => by
  unfold eTo
  rw [if_neg (by omega), List.getD_eq_getElem?_getD, List.getElem?_replicate]
  simp [hi]
 | k + 1, i, hi => by
  unfold eTo
  rw [List.getD_eq_getElem?_getD, List.getElem?_set]
  by_cases h : k = i
  ·
   subst h
   rw [if_pos rfl, eTo_len, if_pos hi, if_pos (by omega)]; rfl
  ·
   rw [if_neg h, ← List.getD_eq_getElem?_getD, eTo_at k i hi]
   by_cases h2 : i < k
   ·
    rw [if_pos h2, if_pos (by omega)]
   ·
    rw [if_neg h2, if_neg (by omega)]
theorem eTo_T : eTo 255 = powT := by
 apply List.ext_getElem
 ·
  rw [eTo_len, powT_len]
 ·
  intro i h1 h2
  rw [eTo_len] at h1
  have := eTo_at 255 i h1
  rw [if_pos h1, powA_T i h1] at this
  rw [← getD_of _ i h2, ← this, getD_of]
theorem powA_lt : ∀ k, powA k < 256
 | 0 => by unfold powA; omega
 | k + 1 => by unfold powA mulR; exact Nat.mod_lt _ (by omega)
section
variable {P : Program} {ops : Array Oper} {rest : List Oper} {op : Oper} {a : Act} {w : World} {Q : Exit → Act → World → Prop}
/-- a new block of zero bytes -/
theorem wpList_alloc_bytes (hgd : op.guard = none) (ty : TypeId) (ho : op.op = .alloc ty) (n : Nat) (hz : (P.info? ty).map (·.zero) = some (some (.agg (byteCells (List.replicate n 0)))))
    (h : ∀ w', Below w.heap.size w w' → Blk w' w.heap.size ty (byteCells (List.replicate n 0)) → w'.heap.size = w.heap.size + 1 → wpList P ops Q rest (a.put op.dst (.pointer (some ⟨w.heap.size, 0, none⟩))) w') : wpList P ops Q (op :: rest) a w := by
 have hB := Blk.new w ty (byteCells (List.replicate n 0))
 have hb : Below w.heap.size w (w.alloc (.cells (byteCells (List.replicate n 0)) ty)) := (Below.refl _ _).alloc (Nat.le_refl _) _
 have hs : (w.alloc (.cells (byteCells (List.replicate n 0)) ty)).heap.size = w.heap.size + 1 := by simp
 refine wpList_plain hgd fun K hK => ?_
 have hr : (zeroValue ty).run P w = .ok (.agg (byteCells (List.replicate n 0))) w := by
  cases hi : P.info? ty with
  | none => rw [hi] at hz; cases hz
  | some i =>
   rw [hi] at hz
   simp only [Option.map_some, Option.some.injEq] at hz
   simp [zeroValue, typeInfo, hi, hz]
 generalize byteCells (List.replicate n 0) = cs at *
 unfold Oper.wp execOp
 simp only [ho, Instr.alloc, Sem.run_bind, hr, Result.andThen_ok, newVar, newRow, Value.cells]
 exact hK _ _ (h _ hb hB hs)
end
theorem info_256u8 : (Tryz.prog.info? 164).map (·.size) = some 256 := by kernel_rfl
theorem zero_256 : (Tryz.prog.info? 164).map (·.zero) = some (some (.agg (byteCells (List.replicate 256 0)))) := by kernel_rfl
theorem zero_255 : (Tryz.prog.info? 199).map (·.zero) = some (some (.agg (byteCells (List.replicate 255 0)))) := by kernel_rfl

set_option maxHeartbeats 4000000 in
set_option maxRecDepth 100000 in
theorem refBoxes_any (w : World) :
    Calls Tryz.prog 90 #[] w fun e w' => e = .returned (.agg (byteCells ((List.range 256).map boxG))) ∧ Below w.heap.size w w' := by
 go_enter Tryz.func90, Tryz.ntmps90
 go_wp2_with (first | (refine wpList_alloc_bytes rfl 164 rfl 256 zero_256 ?_; intro w1 hb1 hB1 hs1; have HB1 := Lib.hid hB1; have HS1 := Lib.hid hs1; clear hB1 hs1) | (refine wpList_alloc_bytes rfl 199 rfl 255 zero_255 ?_; intro w2 hb2 hB2 hs2; have HB2 := Lib.hid hB2; have HS2 := Lib.hid hs2; clear hB2 hs2))
 have hl0 := hb1.size
 have hsz2 : w2.heap.size = w.heap.size + 2 := by rw [HS2.out, HS1.out]
 have HB12 : Blk w2 w.heap.size 164 (byteCells (List.replicate 256 0)) := HB1.out.below hb2 HB1.out.lt
 have HB12 := Lib.hid HB12
 have hbel2 := hb1.trans (hb2.mono hb1.size)
 have hS1 := HS1.out
 have HB2' : Blk w2 (w.heap.size + 1) 199 (byteCells (eTo 0)) := by rw [← hS1]; exact HB2.out
 rw [hS1]
 clear hS1 HB1 HB2 hb2 hb1 HS1 HS2 hl0
 have HSZ2 := Lib.hid hsz2; clear hsz2
 have hps : ∀ k, powA (k + 1) = mulR (powA k) 3 := fun _ => rfl
 have HPS := Lib.hid hps; clear hps
 have HPL := Lib.hid powA_lt
 have hes : ∀ k, eTo (k + 1) = (eTo k).set k (powA k) := fun _ => rfl
 have HES := Lib.hid hes; clear hes
 have HEL := Lib.hid eTo_len
 have hp0 : powA 0 = 1 := rfl
 have HP0 := Lib.hid hp0; clear hp0
 have HET := Lib.hid eTo_T
 generalize powA = pw at *
 generalize eTo = et at *
 go_loopw [2, 3] (fun x i wr => ∃ k : Nat, k ≤ 255 ∧ i = .int .i64 k ∧ x = .int .u8 (pw k : Nat) ∧ Blk wr (w.heap.size + 1) 199 (byteCells (et k)) ∧ Keep (w.heap.size + 1) w2 wr) (fun _ i _ => 255 - (intOf i).toNat)
 case atStart => exact ⟨0, by omega, rfl, by rw [HP0.out]; rfl, HB2', Keep.refl _ _⟩
 case round =>
  obtain ⟨k, hk, rfl, rfl, hB, hK⟩ := hrel
  by_cases hlt : k < 255
  ·
   have hkI : (k : Int) < 255 := by omega
   have hcell : wr.cell? ⟨w.heap.size + 1, k, none⟩ = some (.int .u8 ((et k).getD k 0 : Nat)) := by
    have := hB.cell k
    rw [cellD _ k (by rw [HEL.out]; exact hlt)] at this
    exact this
   have hfr : wr.frozen? ⟨w.heap.size + 1, k, none⟩ = false := hB.frozen k
   have hset := hB.set_ k (.int .u8 ((pw k : Nat) : Int))
   rw [set_byteCells, ← HES.out] at hset
   have hK2 := hK.setCell k (.int .u8 ((pw k : Nat) : Int))
   have HC := Lib.hid (fun W => mulR_any (pw k) 3 (HPL.out k) (by omega) W)
   rw [← HPS.out] at HC
   have HSET := Lib.hid hset; clear hset hB
   have HK2 := Lib.hid hK2; clear hK2 hK
   generalize (et k).getD k 0 = z at *
   have h255 := HPL.out k
   have hpo : (0 : Int) ≤ (pw k : Int) := by omega
   go_wp2_with fail
   refine (HC.out _).mono ?_
   rintro e w3 ⟨rfl, rfl⟩
   go_wp2
   go_roundw
   case rel => exact ⟨k + 1, by omega, by go_num, rfl, HSET.out, HK2.out⟩
   case measure => simp [intOf]; omega
  ·
   obtain rfl : k = 255 := by omega
   rw [HET.out] at hB
   clear HET HES HEL HPS HPL HP0 HB2'
   have hs3 := hK.size
   have hsz2 := HSZ2.out
   have hB0 := HB12.out.keep hK (by omega)
   have hbel3 : Below w.heap.size w wr := hK.below hbel2 (by omega) (by omega)
   have HA0 := Lib.hid (fun W => affR_any 0 (by omega) W)
   have HBE := Lib.hid hB; clear hB
   have HB0 := Lib.hid hB0; clear hB0
   clear hK HB12 HSZ2 hbel2
   clear hsz2 hs3
   obtain ⟨w4, rfl⟩ : ∃ w4, w4 = wr := ⟨_, rfl⟩
   have h0t : boxTo powT 0 = (List.replicate 256 0).set 0 (affR 0) := rfl
   have H0T := Lib.hid h0t; clear h0t
   have hst : ∀ i, boxTo powT (i + 1) = (boxTo powT i).set (powT.getD i 0) (affR (powT.getD ((255 - i) % 255) 0)) := fun _ => rfl
   have HST := Lib.hid hst; clear hst
   have HBL := Lib.hid (boxTo_len powT)
   have HPT := Lib.hid powT_lt
   have HFIN := Lib.hid boxTo_G
   have HTL := Lib.hid powT_len
   generalize boxTo powT = bt at *
   generalize powT = T at *
   go_wp2_with (refine wpList_alloc_bytes rfl 164 rfl 256 zero_256 ?_; intro w5 hb5 hB5 hs5; have HB5 := Lib.hid hB5; have HS5 := Lib.hid hs5; clear hB5 hs5)
   refine (HA0.out _).mono ?_
   rintro e w6 ⟨rfl, rfl⟩
   have hset0 := HB5.out.set_ 0 (.int .u8 ((affR 0 : Nat) : Int))
   rw [set_byteCells, ← H0T.out] at hset0
   have hfr0 : w5.frozen? ⟨w4.heap.size, 0, none⟩ = false := HB5.out.frozen 0
   have hcell0 : w5.cell? ⟨w4.heap.size, 0, none⟩ = some (.int .u8 ((0 : Nat) : Int)) := by
    have := HB5.out.cell 0
    rw [cellD _ 0 (by rw [List.length_replicate]; omega)] at this
    rw [this]; rfl
   have hK5 : Keep w4.heap.size w5 (w5.setCell ⟨w4.heap.size, 0, none⟩ (.int .u8 ((affR 0 : Nat) : Int))) := (Keep.refl _ _).setCell 0 _
   have hlt0 := HBE.out.lt
   have hlt1 := HB0.out.lt
   have hBE5 := HBE.out.below hb5 hlt0
   have hB05 := HB0.out.below hb5 hlt1
   have hbel5 := hbel3.trans (hb5.mono hbel3.size)
   have HBE5 := Lib.hid (hBE5.keep hK5 (by omega))
   have HB05 := Lib.hid (hB05.keep hK5 (by omega))
   have hbel6 := hK5.below hbel5 hbel5.size (by omega)
   have HSET0 := Lib.hid hset0
   clear hBE5 hB05 HBE HB0 hset0 HA0 HB5 hb5 hbel3 hbel5 hK5
   go_wp2
   generalize w5.setCell ⟨w4.heap.size, 0, none⟩ (.int .u8 ((affR 0 : Nat) : Int)) = w7 at *
   have HBEL := Lib.hid hbel6; clear hbel6
   have hsz0 := HBEL.out.size
   go_loopw [5] (fun i wr => ∃ k : Nat, k ≤ 255 ∧ i = .int .i64 k ∧ Blk wr w4.heap.size 164 (byteCells (bt k)) ∧ Keep w4.heap.size w7 wr) (fun i _ => 255 - (intOf i).toNat)
   case atStart => exact ⟨0, by omega, rfl, HSET0.out, Keep.refl _ _⟩
   case round =>
    obtain ⟨k, hk2, rfl, hB, hK⟩ := hrel
    by_cases hlt2 : k < 255
    ·
     have hkI : (k : Int) < 255 := by omega
     obtain ⟨m, hm⟩ : ∃ m, (255 - k) % 255 = m := ⟨_, rfl⟩
     have hm2 : m < 255 := by omega
     have e1 : IntKind.i64.wrap (255 - (k : Int)) = ((255 - k : Nat) : Int) := by rw [IntWalk.i64_in _ (by omega)]; omega
     have e2 : (((255 - k : Nat) : Int)).tmod 255 = (m : Int) := by rw [Int.tmod_eq_emod_of_nonneg (by omega)]; omega
     have hE1 := HBE5.out.keep hK (by omega)
     have hc1 : wr.drew.cell? ⟨w.heap.size + 1, k, none⟩ = some (.int .u8 (T.getD k 0 : Nat)) := by
      have := hE1.cell k
      rw [cellD _ k (by rw [HTL.out]; exact hlt2)] at this
      exact this
     have hc2 : wr.drew.cell? ⟨w.heap.size + 1, m, none⟩ = some (.int .u8 (T.getD m 0 : Nat)) := by
      have := hE1.cell m
      rw [cellD _ m (by rw [HTL.out]; exact hm2)] at this
      exact this
     have ht1 := HPT.out k hlt2
     have ht2 := HPT.out m hm2
     have hst := HST.out k
     rw [hm] at hst
     generalize T.getD k 0 = x at *
     generalize T.getD m 0 = y at *
     have HC := Lib.hid (fun W => affR_any y ht2 W)
     have hset := hB.set_ x (.int .u8 ((affR y : Nat) : Int))
     rw [set_byteCells, ← hst] at hset
     have hfr : wr.drew.frozen? ⟨w4.heap.size, x, none⟩ = false := hB.frozen x
     have hcx : wr.drew.cell? ⟨w4.heap.size, x, none⟩ = some (.int .u8 ((bt k).getD x 0 : Nat)) := by
      have := hB.cell x
      rw [cellD _ x (by rw [HBL.out]; exact ht1)] at this
      exact this
     have hxI : (x : Int) < 256 := by omega
     have hK2 : Keep w4.heap.size w7 (wr.drew.setCell ⟨w4.heap.size, x, none⟩ (.int .u8 ((affR y : Nat) : Int))) := (hK.drewN 1).setCell x _
     have hset2 : Blk (wr.drew.setCell ⟨w4.heap.size, x, none⟩ (.int .u8 ((affR y : Nat) : Int))) w4.heap.size 164 (byteCells (bt (k + 1))) := hset
     generalize affR y = z at *
     have HSET := Lib.hid hset2; clear hset2 hset
     have HK2 := Lib.hid hK2; clear hK2 hK hst hm hE1 hB
     generalize (bt k).getD x 0 = z2 at *
     have hmI : (m : Int) < 255 := by omega
     go_wp2_with fail
     go_still_tail 10, (by kernel_rfl)
     still_call ((HC.out _).mono (fun e w' h => ⟨h.1, h.2.symm⟩))
     repeat still_step
     refine wpStill_nil ?_
     change wpList _ _ _ _ _ wr.drew
     generalize wr.drew = w8 at *
     go_wp2
     go_roundw
     case rel => exact ⟨k + 1, by omega, by go_num, HSET.out, HK2.out⟩
     case measure => simp [intOf]; omega
    ·
     obtain rfl : k = 255 := by omega
     rw [HFIN.out] at hB
     have hbf : Below w.heap.size w wr := hK.below HBEL.out hsz0 (by omega)
     have hB0f := HB05.out.keep hK (by omega)
     obtain ⟨L, hL⟩ : ∃ L, List.map boxG (List.range 256) = L := ⟨_, rfl⟩
     have hLl : L.length = 256 := by rw [← hL]; simp
     rw [hL] at hB
     have HL2 := Lib.hid hL; clear hL
     have hcz := Lib.hid (size_byteCells L)
     have HLL := Lib.hid hLl; clear hLl
     go_wp2_with (first
      | (refine wpList_load_row rfl 164 (.tmp 4) rfl w4.heap.size rfl 164 _ (0,0) _ hB Tryz.underlying164 rfl (by rw [info_256u8, hcz.out, HLL.out]) ?_)
      | (refine wpList_store_all rfl 164 (.tmp 0) (.tmp 31) rfl w.heap.size (byteCells L) rfl rfl 164 _ hB0f (by rw [info_256u8, hcz.out, HLL.out]) (by rw [hcz.out, HLL.out, size_byteCells, List.length_replicate]) (bytes_one _) ?_; intro w9 hB9 hO9))
     refine bodyPost_ret (v := .agg (byteCells L)) (results_cell_row rfl _ _ w.heap.size 164 _ (0,0) _ rfl hB9 Tryz.underlying164 rfl (by rw [info_256u8, hcz.out, HLL.out])) rfl ⟨by rw [HL2.out], ?_⟩
     exact hO9.below hbf (Nat.le_refl _)
end Go.Proofs.YthodpjcdmdbnoaaGreatDoor

/- lockboxref02.Words: plain facts; rows of words of four bytes. -/
namespace Go.Proofs.YthodpjcdmdbnoaaGreatDoor
open Go Go.RowKit Pr

/-- the powers of 2 in the field -/
def powB : Nat → Nat
 | 0 => 1
 | k + 1 => mulG (powB k) 2
theorem powB_lt : ∀ k, powB k < 256
 | 0 => by unfold powB; omega
 | k + 1 => by unfold powB; exact mulG_lt _ _ (powB_lt k)
theorem powB_mul (k : Nat) : mulR (powB k) 2 = powB (k + 1) := by
 rw [(mulR_2 (powB k) (powB_lt k)).2.1]; rfl
theorem wordsP (nk : Nat) (h : nk = 4 ∨ nk = 6 ∨ nk = 8) (key : List Nat) : ∀ n, (wordsTo nk key n).2 = powB ((n + (nk - 1)) / nk)
 | 0 => by rcases h with rfl | rfl | rfl <;> rfl
 | n + 1 => by
  have ih := wordsP nk h key n
  unfold wordsTo
  show (if n % nk = 0 then mulG (wordsTo nk key n).2 2 else (wordsTo nk key n).2) = _
  rw [ih]
  rcases h with rfl | rfl | rfl
  ·
   by_cases h0 : n % 4 = 0
   ·
    rw [if_pos h0, show (n + 1 + (4 - 1)) / 4 = (n + (4 - 1)) / 4 + 1 by omega]; rfl
   ·
    rw [if_neg h0, show (n + 1 + (4 - 1)) / 4 = (n + (4 - 1)) / 4 by omega]
  ·
   by_cases h0 : n % 6 = 0
   ·
    rw [if_pos h0, show (n + 1 + (6 - 1)) / 6 = (n + (6 - 1)) / 6 + 1 by omega]; rfl
   ·
    rw [if_neg h0, show (n + 1 + (6 - 1)) / 6 = (n + (6 - 1)) / 6 by omega]
  ·
   by_cases h0 : n % 8 = 0
   ·
    rw [if_pos h0, show (n + 1 + (8 - 1)) / 8 = (n + (8 - 1)) / 8 + 1 by omega]; rfl
   ·
    rw [if_neg h0, show (n + 1 + (8 - 1)) / 8 = (n + (8 - 1)) / 8 by omega]
/-- the next word, out of t and the word of nk words ago -/
def xorW (nk : Nat) (W t : List Nat) : List Nat := (List.range 4).map fun k => t.getD k 0 ^^^ W.getD (W.length - 4 * nk + k) 0
theorem xorW_len (nk : Nat) (W t : List Nat) : (xorW nk W t).length = 4 := by simp [xorW]
theorem nextW_is (nk : Nat) (hnk : 1 ≤ nk) {W t : List Nat} (hW : 4 * nk ≤ W.length) : nextW nk W t 4 = W ++ xorW nk W t := by
 have key : ∀ k, k ≤ 4 → nextW nk W t k = W ++ (List.range k).map fun k => t.getD k 0 ^^^ W.getD (W.length - 4 * nk + k) 0 := by
  intro k
  induction k with
  | zero => intro _; simp [nextW]
  | succ k ih =>
   intro hk
   have e := ih (by omega)
   unfold nextW
   rw [e, List.range_succ, List.map_append, List.append_assoc]
   congr 2
   simp only [List.map_cons, List.map_nil]
   congr 1
   rw [Nat.xor_comm]
   congr 1
   rw [List.getD_eq_getElem?_getD, List.getElem?_append_left (by omega), ← List.getD_eq_getElem?_getD]
 exact key 4 (Nat.le_refl _)
theorem xorW_at (nk : Nat) (W t : List Nat) (k : Nat) (hk : k < 4) : (xorW nk W t).getD k 0 = t.getD k 0 ^^^ W.getD (W.length - 4 * nk + k) 0 := rangeD _ _ _ hk

/-- v is a slice of n words of four bytes, the bytes l, that lies from block B on -/
def OwnW (w : World) (B : Nat) (v : Value) (n : Nat) (l : List Nat) : Prop := w.ownsRow B 190 4 v n (numCells .u8 l).toList
theorem OwnW.nil (w : World) (B : Nat) : OwnW w B (.slice none 0 0) 0 [] := ⟨rfl, .inl ⟨rfl, rfl⟩⟩
theorem OwnW.len {w : World} {B n : Nat} {v : Value} {l : List Nat} (h : OwnW w B v n l) : l.length = 4 * n := by
 have := h.1
 simp [numCells] at this
 omega
theorem OwnW.form {w : World} {B n : Nat} {v : Value} {l : List Nat} (h : OwnW w B v n l) (hn : 0 < n) : ∃ g cap, v = .slice (some ⟨g, 0, none⟩) n cap ∧ B ≤ g ∧ g < w.heap.size ∧ n ≤ cap ∧ Ns .u8 w g 0 l := by
 rcases h.2 with ⟨hv, h0⟩ | ⟨g, cap, cur, rfl, hg, hb, hc, hm, hs, ht⟩
 ·
  omega
 ·
  refine ⟨g, cap, rfl, hg, (World.ownsRow.lt h g rfl).2, hc, fun j v hv => ?_⟩
  have := World.ownsRow.cells h (g := g) rfl j v hv
  rw [Addr.add_mid] at this
  exact this
theorem OwnW.below {w w' : World} {B C n : Nat} {v : Value} {l : List Nat} (h : OwnW w B v n l) (hb : Below C w w') (hC : w.heap.size ≤ C) : OwnW w' B v n l := by
 rcases h with ⟨h1, h2⟩
 refine ⟨h1, ?_⟩
 rcases h2 with h2 | ⟨g, cap, cur, rfl, hg, hgb, r⟩
 ·
  exact .inl h2
 ·
  refine .inr ⟨g, cap, cur, rfl, hg, (hb.block g ?_).trans hgb, r⟩
  rcases Nat.lt_or_ge g w.heap.size with hlt | hge
  ·
   omega
  ·
   rw [Array.getElem?_eq_none hge] at hgb; cases hgb
theorem OwnW.keep {w w' : World} {B G n : Nat} {v : Value} {l : List Nat} (h : OwnW w B v n l) (hk : Keep G w w') (hne : v.ownBlock ≠ some G) : OwnW w' B v n l := by
 rcases h with ⟨h1, h2⟩
 refine ⟨h1, ?_⟩
 rcases h2 with h2 | ⟨g', cap, cur, rfl, hg, hgb, r⟩
 ·
  exact .inl h2
 ·
  refine .inr ⟨g', cap, cur, rfl, hg, (hk.block g' ?_ (fun e => hne (by rw [e]; rfl))).trans hgb, r⟩
  rcases Nat.lt_or_ge g' w.heap.size with hlt | hge
  ·
   exact hlt
  ·
   rw [Array.getElem?_eq_none hge] at hgb; cases hgb
theorem zero_4u8 : (Tryz.prog.info? 190).map (fun i => (i.zero, i.size, i.bytes)) = some (some (.agg #[.int .u8 0, .int .u8 0, .int .u8 0, .int .u8 0]), 4, 4) := by kernel_rfl
theorem info_parts4 {P : Program} {e : TypeId} {z : Value} {s b : Nat} (h : (P.info? e).map (fun i => (i.zero, i.size, i.bytes)) = some (some z, s, b)) : ∃ i, P.info? e = some i ∧ i.zero = some z ∧ i.size = s ∧ i.bytes = b := by
 cases hi : P.info? e with
 | none => rw [hi] at h; cases h
 | some i =>
  rw [hi] at h
  simp only [Option.map_some, Option.some.injEq, Prod.mk.injEq] at h
  exact ⟨i, rfl, h.1, h.2.1, h.2.2⟩
/-- the operation alone: a word more -/
theorem op_append_word {Q : Exit → Act → World → Prop} {K : Act → World → Prop} {op : Oper} {a : Act} {w : World} (s x : Operand) (ho : op.op = .call { callee := .builtin .append, args := #[s, x], argTypes := #[198, 198] })
    (B : Nat) (w0 : World) (v : Value) (n : Nat) (l : List Nat) (hs : a.eval s = v) (hown : OwnW w B v n l) (hbel : Below B w0 w) (hB : B ≤ w.heap.size)
    (b o c : Nat) (T : List Nat) (hT : T.length = 4) (hx : a.eval x = .slice (some ⟨b, o, none⟩) 1 c) (hA : Ns .u8 w b o T) (hn : n ≤ 1000000)
    (h : ∀ v' w', OwnW w' B v' (n + 1) (l ++ T) → Below B w0 w' → w.heap.size ≤ w'.heap.size → K (a.put op.dst v') w') : op.wp Tryz.prog a w K Q := by
 obtain ⟨i0, hi, hz0, hz1, hz2⟩ := info_parts4 zero_4u8
 have h63' : n + 1 ≤ maxLen := by unfold maxLen; omega
 have hbytes : (n + 1) * 4 ≤ 140737488355328 := by omega
 obtain ⟨v', w', hr, h1, h2, _, _⟩ := run_append_own_at (P := Tryz.prog) w B 198 op.type 190 i0 _ 4 4 Tryz.underlying198 hi hz0 hz1 hz2 rfl (by decide) v n (numCells .u8 l).toList hown ⟨b, o, none⟩ 1 c (numCells .u8 T).toList (by simp [numCells, hT])
  (fun j u hj => by have := hA j u hj; rwa [Addr.add_mid]) (fun u hu => by
   simp only [numCells, List.mem_map] at hu
   obtain ⟨c, _, rfl⟩ := hu
   rfl) h63' hbytes hB
 unfold Oper.wp execOp
 simp only [ho, resolve, invoke, builtin, Sem.run_bind, Sem.run_pure, Result.andThen_ok, List.map_toArray, List.map_cons, List.map_nil, hs, hx, hr]
 refine h v' w' ?_ (hbel.grown h2 hB (fun g hg => (World.ownsRow.lt hown g hg).1)) h2.size
 unfold OwnW
 have e1 : (numCells .u8 (l ++ T)).toList = (numCells .u8 l).toList ++ (numCells .u8 T).toList := by simp [numCells]
 rw [e1]
 exact h1
theorem wpList_append_word {ops : Array Oper} {rest : List Oper} {Q : Exit → Act → World → Prop} {op : Oper} {a : Act} {w : World} (hgd : op.guard = none) (s x : Operand) (ho : op.op = .call { callee := .builtin .append, args := #[s, x], argTypes := #[198, 198] })
    (B : Nat) (w0 : World) (v : Value) (n : Nat) (l : List Nat) (hs : a.eval s = v) (hown : OwnW w B v n l) (hbel : Below B w0 w) (hB : B ≤ w.heap.size)
    (b o c : Nat) (T : List Nat) (hT : T.length = 4) (hx : a.eval x = .slice (some ⟨b, o, none⟩) 1 c) (hA : Ns .u8 w b o T) (hn : n ≤ 1000000)
    (h : ∀ v' w', OwnW w' B v' (n + 1) (l ++ T) → Below B w0 w' → w.heap.size ≤ w'.heap.size → wpList Tryz.prog ops Q rest (a.put op.dst v') w') : wpList Tryz.prog ops Q (op :: rest) a w :=
 wpList_plain hgd fun _ hK => op_append_word s x ho B w0 v n l hs hown hbel hB b o c T hT hx hA hn fun v' w' h1 h2 h3 => hK _ _ (h v' w' h1 h2 h3)
theorem tailG_A (nk : Nat) (W : List Nat) (p n : Nat) (h : n % nk = 0) : tailG nk W n p = [boxG ((lastT W).getD 1 0) ^^^ p, boxG ((lastT W).getD 2 0), boxG ((lastT W).getD 3 0), boxG ((lastT W).getD 0 0)] := by
 unfold tailG
 rw [if_pos h]
theorem tailG_B (W : List Nat) (p n : Nat) (h : ¬ n % 8 = 0) (h2 : n % 8 = 4) : tailG 8 W n p = (lastT W).map boxG := by
 unfold tailG
 rw [if_neg h, if_pos ⟨rfl, h2⟩]
theorem tailG_C (nk : Nat) (W : List Nat) (p n : Nat) (h : ¬ n % nk = 0) (h2 : ¬ (nk = 8 ∧ n % 8 = 4)) : tailG nk W n p = lastT W := by
 unfold tailG
 rw [if_neg h, if_neg h2]
theorem take4 (l : List Nat) (p : Nat) (h : p + 4 ≤ l.length) : l.take (p + 4) = l.take p ++ [l.getD (p + 0) 0, l.getD (p + 1) 0, l.getD (p + 2) 0, l.getD (p + 3) 0] := by
 have e : ∀ k, p + k < l.length → l.take (p + k + 1) = l.take (p + k) ++ [l.getD (p + k) 0] := fun k hk => by
  rw [List.take_succ_eq_append_getElem hk, getD_of _ _ hk]
 have e0 := e 0 (by omega)
 have e1 := e 1 (by omega)
 have e2 := e 2 (by omega)
 have e3 := e 3 (by omega)
 rw [show p + 4 = p + 3 + 1 from rfl, e3, show p + 3 = p + 2 + 1 from rfl, e2, show p + 2 = p + 1 + 1 from rfl, e1, show p + 1 = p + 0 + 1 from rfl, e0]
 simp
theorem Ns.ofBlk {w : World} {g : Nat} {t : TypeId} {l : List Nat} (h : Blk w g t (byteCells l)) : Ns .u8 w g 0 l := Bs.of_blk h (fun j c hj => by rw [Nat.zero_add]; exact hj)
end Go.Proofs.YthodpjcdmdbnoaaGreatDoor
