/- The contracts of gf.Mul, gf.Inv, gf.turn, gf.Box, gf.Unbox. -/
import Derived.Test.YtfkjkkjimdilcaaGreatDoorQBase
import Derived.Test.YtfkjkkjimdilcaaGreatDoorQAesP
set_option maxHeartbeats 8000000
set_option maxRecDepth 100000
namespace Go.Proofs.YtfkjkkjimdilcaaGreatDoor
open Go Go.RowKit Pr

theorem low1 (b : Nat) (h : b < 256) : bits .and .u8 (b : Int) 1 = ((b % 2 : Nat) : Int) := by
 rw [show (1:Int) = ((1:Nat):Int) from rfl, u8_and_nat b 1 h (by omega), Nat.and_one_is_mod]
theorem high_all : ∀ a < 256, a &&& 128 = if 128 ≤ a then 128 else 0 := by decide +kernel
theorem high1 (a : Nat) (h : a < 256) : bits .and .u8 (a : Int) 128 = ((if 128 ≤ a then 128 else 0 : Nat) : Int) := by
 rw [show (128:Int) = ((128:Nat):Int) from rfl, u8_and_nat a 128 h (by omega), high_all a h]

theorem mul_any (a b : Nat) (ha : a < 256) (hb : b < 256) (w : World) :
    Calls Tryz.prog 159 #[.int .u8 a, .int .u8 b] w fun e w' => e = .returned (.int .u8 (mulG a b : Nat)) ∧ w = w' := by
 have HA := Hh (fun k => xtN_lt k a ha); have HM := Hh (fun k => mulTo_lt a b ha k); have HB := Hh hb; clear ha hb
 go_enter Tryz.func159, Tryz.ntmps159
 go_wp2
 go_loop [0, 1, 5, 7] (fun x y o i => ∃ k : Nat, k ≤ 8 ∧ i = .int .i64 k ∧ x = .int .u8 (xtN k a : Nat) ∧ y = .int .u8 (b / 2 ^ k : Nat) ∧ o = .int .u8 (mulTo a b k : Nat)) (fun _ _ _ i => 8 - (intOf i).toNat)
 case atStart => exact ⟨0, by omega, rfl, rfl, by rw [Nat.pow_zero, Nat.div_one], rfl⟩
 case round =>
  obtain ⟨k, hk, rfl, rfl, rfl, rfl⟩ := hrel
  by_cases hlt : k < 8
  ·
   have hx := HA.out k; have hm := HM.out k; have hB : b / 2 ^ k < 256 := Nat.lt_of_le_of_lt (Nat.div_le_self _ _) HB.out; have s1 : mulTo a b (k + 1) = if b / 2 ^ k % 2 = 1 then mulTo a b k ^^^ xtN k a else mulTo a b k := rfl
   have s2 : xtN (k + 1) a = xt (xtN k a) := rfl; have s3 : b / 2 ^ (k + 1) = b / 2 ^ k / 2 := by rw [Nat.pow_succ, Nat.div_div_eq_div_mul]
   generalize mulTo a b k = M at *; generalize xtN k a = X at *; generalize b / 2 ^ k = B at *; have S1 := Hh s1; clear s1; have S2 := Hh s2; clear s2; have S3 := Hh s3; clear s3; have e1 := low1 B hB; have e2 := high1 X hx; have e3 := u8_xor_nat M X hm hx; have hM' : mulTo a b (k + 1) < 256 := HM.out (k + 1); rw [S1.out] at hM'
   have fin : ∀ (x y o : Int), x = (xt X : Nat) → y = (B / 2 : Nat) → o = ((if B % 2 = 1 then M ^^^ X else M : Nat) : Int) → ∃ k_1 : Nat,
       k_1 ≤ 8 ∧ Value.int IntKind.i64 (↑k + 1) = Value.int IntKind.i64 ↑k_1 ∧ Value.int IntKind.u8 x = Value.int IntKind.u8 ↑(xtN k_1 a) ∧ Value.int IntKind.u8 y = Value.int IntKind.u8 ↑(b / 2 ^ k_1) ∧ Value.int IntKind.u8 o = Value.int IntKind.u8 ↑(mulTo a b k_1) := by
    rintro x y o rfl rfl rfl; exact ⟨k + 1, by omega, by go_num, by rw [S2.out], by rw [S3.out], by rw [S1.out]⟩
   have FIN := Hh fin; clear fin
   have x1 : 128 ≤ X → bits .xor .u8 ((X : Int) * 2 % 256) 27 = (xt X : Nat) := fun h => by
    rw [show ((X : Int) * 2 % 256) = ((2 * X - 256 : Nat) : Int) by omega, show (27 : Int) = ((27 : Nat) : Int) from rfl, u8_xor_nat _ _ (by omega) (by omega)]
    unfold xt
    rw [if_pos h]
   have x2 : ¬ 128 ≤ X → (X : Int) * 2 = (xt X : Nat) := fun h => by
    unfold xt
    rw [if_neg h]; omega
   have X1 := Hh x1; clear x1; have X2 := Hh x2; clear x2
   rcases (by omega : B % 2 = 0 ∨ B % 2 = 1) with h1 | h1 <;> rw [h1] at e1 FIN <;> by_cases h2 : 128 ≤ X
   ·
    rw [if_pos h2] at e2; go_wp2
    go_roundw
    case rel => exact FIN.out _ _ _ (X1.out h2) (by omega) (by simp)
    case measure => simp [intOf]; omega
   ·
    rw [if_neg h2] at e2; go_wp2
    go_roundw
    case rel => exact FIN.out _ _ _ (X2.out h2) (by omega) (by simp)
    case measure => simp [intOf]; omega
   ·
    rw [if_pos h2] at e2; go_wp2
    go_roundw
    case rel => exact FIN.out _ _ _ (X1.out h2) (by omega) (by simp)
    case measure => simp [intOf]; omega
   ·
    rw [if_neg h2] at e2; go_wp2
    go_roundw
    case rel => exact FIN.out _ _ _ (X2.out h2) (by omega) (by simp)
    case measure => simp [intOf]; omega
  ·
   obtain rfl : k = 8 := by omega
   go_wp2
   go_ret
   exact ⟨rfl, rfl⟩

theorem inv_any (a : Nat) (ha : a < 256) (w : World) :
    Calls Tryz.prog 160 #[.int .u8 a] w fun e w' => e = .returned (.int .u8 (invG a : Nat)) ∧ w = w' := by
 go_enter Tryz.func160, Tryz.ntmps160
 go_wp2
 go_loop [0, 3, 4] (fun x o i => ∃ k X O : Nat, k ≤ 7 ∧ X < 256 ∧ O < 256 ∧ Hid (invTo (7 - k) X O = invG a) ∧ i = .int .i64 k ∧ x = .int .u8 X ∧ o = .int .u8 O) (fun _ _ i => 7 - (intOf i).toNat)
 case atStart => exact ⟨0, a, 1, by omega, ha, by omega, rfl, rfl, rfl, rfl⟩
 case round =>
  obtain ⟨k, X, O, hk, hX, hO, hI, rfl, rfl, rfl⟩ := hrel
  by_cases hlt : k < 7
  ·
   have hm := mulG_lt X X hX
   have hs : invTo (7 - k) X O = invTo (7 - (k + 1)) (mulG X X) (mulG O (mulG X X)) := by
    rw [show 7 - k = (7 - (k + 1)) + 1 by omega]
    rfl
   rw [hs] at hI; have HM := Hh (fun W => mul_any X X hX hX W); have HO := Hh (fun W => mul_any O (mulG X X) hO hm W); have hmo := mulG_lt O (mulG X X) hO; clear hs; generalize mulG X X = Y at *; generalize mulG O Y = O' at *; go_wp2_with fail
   refine (HM.out _).mono ?_; rintro e w1 ⟨rfl, rfl⟩; go_wp2_with fail
   refine (HO.out _).mono ?_; rintro e w1 ⟨rfl, rfl⟩; go_wp2
   go_round
   case rel => exact ⟨k + 1, Y, O', by omega, hm, hmo, hI, by go_num, rfl, rfl⟩
   case measure => simp [intOf]; omega
  ·
   obtain rfl : k = 7 := by omega
   have hI' : O = invG a := hI.out; go_wp2
   go_ret
   exact ⟨rfl, rfl⟩

theorem rot_eq (a : Nat) (ha : a < 256) (p q : Nat) (P Q : Int) (hP : P = p) (hQ : Q = q) : bits .or .u8 ((a : Int) * P % 256) ((a : Int) / Q) = ((a * p % 256 ||| a / q : Nat) : Int) := by
 subst hP; subst hQ; rw [show ((a : Int) * p % 256) = ((a * p % 256 : Nat) : Int) by simp, show (a : Int) / q = ((a / q : Nat) : Int) by simp, u8_or_nat _ _ (Nat.mod_lt _ (by omega)) (Nat.lt_of_le_of_lt (Nat.div_le_self _ _) ha)]
theorem gfturn_any (a n : Nat) (ha : a < 256) (hn : n = 1 ∨ n = 2 ∨ n = 3 ∨ n = 4 ∨ n = 6) (w : World) :
    Calls Tryz.prog 161 #[.int .u8 a, .int .i64 n] w fun e w' => e = .returned (.int .u8 (rotG a n : Nat)) ∧ ∃ n, w' = w.drewN n := by
 rcases hn with rfl | rfl | rfl | rfl | rfl
 all_goals
  go_enter Tryz.func161, Tryz.ntmps161
  go_wp2
  go_quiet (fail)
  go_wp2
  go_ret
 ·
  exact ⟨retI (rot_eq a ha 2 128 _ _ rfl rfl), _, rfl⟩
 ·
  exact ⟨retI (rot_eq a ha 4 64 _ _ rfl rfl), _, rfl⟩
 ·
  exact ⟨retI (rot_eq a ha 8 32 _ _ rfl rfl), _, rfl⟩
 ·
  exact ⟨retI (rot_eq a ha 16 16 _ _ rfl rfl), _, rfl⟩
 ·
  exact ⟨retI (rot_eq a ha 64 4 _ _ rfl rfl), _, rfl⟩
theorem gfturn_at (a n : Nat) (N : Int) (hN : N = n) (ha : a < 256) (hn : n = 1 ∨ n = 2 ∨ n = 3 ∨ n = 4 ∨ n = 6) (w : World) :
    Calls Tryz.prog 161 #[.int .u8 a, .int .i64 N] w fun e w' => e = .returned (.int .u8 (rotG a n : Nat)) ∧ ∃ n, w' = w.drewN n := by
 subst hN; exact gfturn_any a n ha hn w
theorem rotG_lt (a n : Nat) (ha : a < 256) : rotG a n < 256 := Nat.or_lt_two_pow (n := 8) (Nat.mod_lt _ (by decide)) (Nat.lt_of_le_of_lt (Nat.div_le_self _ _) ha)
theorem invG_lt_all : ∀ a < 256, invG a < 256 := by decide +kernel

theorem gfbox_any (a : Nat) (ha : a < 256) (w : World) :
    Calls Tryz.prog 144 #[.int .u8 a] w fun e w' => e = .returned (.int .u8 (boxG a : Nat)) ∧ ∃ n, w' = w.drewN n := by
 have HI := Hh (fun W => inv_any a ha W); have hb := invG_lt_all a ha; have hB : boxG a = affG (invG a) := rfl; generalize invG a = b at *; have H1 := Hh (fun W => gfturn_at b 1 1 rfl hb (by omega) W); have H2 := Hh (fun W => gfturn_at b 2 2 rfl hb (by omega) W); have H3 := Hh (fun W => gfturn_at b 3 3 rfl hb (by omega) W); have H4 := Hh (fun W => gfturn_at b 4 4 rfl hb (by omega) W); have l1 := rotG_lt b 1 hb; have l2 := rotG_lt b 2 hb; have l3 := rotG_lt b 3 hb; have l4 := rotG_lt b 4 hb; have hA : affG b = b ^^^ rotG b 1 ^^^ rotG b 2 ^^^ rotG b 3 ^^^ rotG b 4 ^^^ 99 := rfl; rw [hA] at hB; generalize rotG b 1 = r1 at *; generalize rotG b 2 = r2 at *; generalize rotG b 3 = r3 at *; generalize rotG b 4 = r4 at *; have e1 := u8_xor_nat b r1 hb l1; have m1 := xor_lt8 hb l1; generalize b ^^^ r1 = x1 at *; have e2 := u8_xor_nat x1 r2 m1 l2; have m2 := xor_lt8 m1 l2; generalize x1 ^^^ r2 = x2 at *; have e3 := u8_xor_nat x2 r3 m2 l3; have m3 := xor_lt8 m2 l3; generalize x2 ^^^ r3 = x3 at *; have e4 := u8_xor_nat x3 r4 m3 l4; have m4 := xor_lt8 m3 l4; generalize x3 ^^^ r4 = x4 at *; have e5 : bits .xor .u8 (x4 : Int) 99 = ((x4 ^^^ 99 : Nat) : Int) := u8_xor_nat x4 99 m4 (by omega); rw [← hB] at e5; generalize boxG a = c at *; clear hB hA ha
 go_enter Tryz.func144, Tryz.ntmps144
 go_wp2_with fail
 refine (HI.out _).mono ?_; rintro e w1 ⟨rfl, rfl⟩; go_wp2_with fail
 refine (H1.out _).mono ?_; rintro e w1 ⟨rfl, n1, rfl⟩; go_wp2_with fail
 refine (H2.out _).mono ?_; rintro e w1 ⟨rfl, n2, rfl⟩; go_wp2_with fail
 refine (H3.out _).mono ?_; rintro e w1 ⟨rfl, n3, rfl⟩; go_wp2_with fail
 refine (H4.out _).mono ?_; rintro e w1 ⟨rfl, n4, rfl⟩; go_wp2
 go_ret
 exact ⟨rfl, _, rfl⟩

theorem gfunbox_any (a : Nat) (ha : a < 256) (w : World) :
    Calls Tryz.prog 143 #[.int .u8 a] w fun e w' => e = .returned (.int .u8 (unboxG a : Nat)) ∧ ∃ n, w' = w.drewN n := by
 have H1 := Hh (fun W => gfturn_at a 1 1 rfl ha (by omega) W); have H2 := Hh (fun W => gfturn_at a 3 3 rfl ha (by omega) W); have H3 := Hh (fun W => gfturn_at a 6 6 rfl ha (by omega) W); have l1 := rotG_lt a 1 ha; have l2 := rotG_lt a 3 ha; have l3 := rotG_lt a 6 ha; have hB : unboxG a = invG (rotG a 1 ^^^ rotG a 3 ^^^ rotG a 6 ^^^ 5) := rfl; generalize rotG a 1 = r1 at *; generalize rotG a 3 = r2 at *; generalize rotG a 6 = r3 at *; have e1 := u8_xor_nat r1 r2 l1 l2; have m1 := xor_lt8 l1 l2; generalize r1 ^^^ r2 = x1 at *; have e2 := u8_xor_nat x1 r3 m1 l3; have m2 := xor_lt8 m1 l3; generalize x1 ^^^ r3 = x2 at *; have e3 : bits .xor .u8 (x2 : Int) 5 = ((x2 ^^^ 5 : Nat) : Int) := u8_xor_nat x2 5 m2 (by omega); have m3 : x2 ^^^ 5 < 256 := xor_lt8 m2 (by omega); generalize x2 ^^^ 5 = x3 at *; have HI := Hh (fun W => inv_any x3 m3 W); rw [← hB] at HI; generalize unboxG a = c at *; clear hB ha
 go_enter Tryz.func143, Tryz.ntmps143
 go_wp2_with fail
 refine (H1.out _).mono ?_; rintro e w1 ⟨rfl, n1, rfl⟩; go_wp2_with fail
 refine (H2.out _).mono ?_; rintro e w1 ⟨rfl, n2, rfl⟩; go_wp2_with fail
 refine (H3.out _).mono ?_; rintro e w1 ⟨rfl, n3, rfl⟩; go_wp2_with fail
 refine (HI.out _).mono ?_; rintro e w1 ⟨rfl, rfl⟩; go_wp2
 go_ret
 exact ⟨rfl, _, rfl⟩
end Go.Proofs.YtfkjkkjimdilcaaGreatDoor
