/- Plain definitions and facts of AES: the field, the box, a block's rounds; no program in sight. The contracts of gf.Mul, gf.Inv, gf.turn, gf.Box, gf.Unbox. -/
import Derived.Test.YthodpjcdmdbnoaaGreatDoorNPureAll
import Derived.Test.YthodpjcdmdbnoaaGreatDoorNBase
/- Plain definitions and facts of AES: the field, the box, a block's rounds; no program in sight. -/
namespace Go.Proofs.YthodpjcdmdbnoaaGreatDoor.Pr

/-- times two in the field -/
def xt (a : Nat) : Nat := if 128 ≤ a then (2 * a - 256) ^^^ 27 else 2 * a
def xtN : Nat → Nat → Nat
 | 0, a => a
 | k + 1, a => xt (xtN k a)
def mulTo (a b : Nat) : Nat → Nat
 | 0 => 0
 | k + 1 => if b / 2 ^ k % 2 = 1 then mulTo a b k ^^^ xtN k a else mulTo a b k
def mulG (a b : Nat) : Nat := mulTo a b 8
/-- after so many rounds: the power, and what was gathered -/
def invTo : Nat → Nat → Nat → Nat
 | 0, _, out => out
 | k + 1, a, out => invTo k (mulG a a) (mulG out (mulG a a))
def invG (a : Nat) : Nat := invTo 7 a 1
def rotG (a n : Nat) : Nat := a * 2 ^ n % 256 ||| a / 2 ^ (8 - n)
def affG (b : Nat) : Nat := b ^^^ rotG b 1 ^^^ rotG b 2 ^^^ rotG b 3 ^^^ rotG b 4 ^^^ 99
def boxG (a : Nat) : Nat := affG (invG a)
def unaffG (a : Nat) : Nat := rotG a 1 ^^^ rotG a 3 ^^^ rotG a 6 ^^^ 5
def unboxG (a : Nat) : Nat := invG (unaffG a)
theorem xt_lt (a : Nat) (h : a < 256) : xt a < 256 := by
 unfold xt
 split
 ·
  exact Nat.xor_lt_two_pow (n := 8) (by omega) (by decide)
 ·
  omega
theorem xtN_lt : ∀ (k a : Nat), a < 256 → xtN k a < 256
 | 0, _, h => h
 | k + 1, a, h => xt_lt _ (xtN_lt k a h)
theorem mulTo_lt (a b : Nat) (h : a < 256) : ∀ k, mulTo a b k < 256
 | 0 => by simp [mulTo]
 | k + 1 => by
  unfold mulTo
  split
  ·
   exact Nat.xor_lt_two_pow (n := 8) (mulTo_lt a b h k) (xtN_lt k a h)
  ·
   exact mulTo_lt a b h k
theorem mulG_lt (a b : Nat) (h : a < 256) : mulG a b < 256 := mulTo_lt a b h 8
set_option maxRecDepth 100000 in
theorem box_lt_all : ∀ c < 256, boxG c < 256 := by decide +kernel
set_option maxRecDepth 100000 in
theorem unbox_lt_all : ∀ c < 256, unboxG c < 256 := by decide +kernel
theorem boxG_lt (c : Nat) (h : c < 256) : boxG c < 256 := box_lt_all c h
theorem unboxG_lt (c : Nat) (h : c < 256) : unboxG c < 256 := unbox_lt_all c h

/-- a block turned by a round's key -/
def withG (l w : List Nat) (r : Nat) : List Nat := (List.range 16).map fun i => l.getD i 0 ^^^ w.getD (16 * r + i) 0
def rowsG (l : List Nat) (t : Nat) : List Nat := (List.range 16).map fun i => l.getD ((i + 4 * (i % 4) * t) % 16) 0
def colTo (l m : List Nat) (i : Nat) : Nat → Nat
 | 0 => 0
 | k + 1 => colTo l m i k ^^^ mulG (m.getD k 0) (l.getD (i / 4 * 4 + (i % 4 + k) % 4) 0)
def columnsG (l m : List Nat) : List Nat := (List.range 16).map fun i => colTo l m i 4
def mE : List Nat := [2, 3, 1, 1]
def mD : List Nat := [14, 11, 13, 9]
def encTo (b w : List Nat) (n : Nat) : Nat → List Nat
 | 0 => withG b w 0
 | r + 1 => withG (if r + 1 < n then columnsG (rowsG ((encTo b w n r).map boxG) 1) mE else rowsG ((encTo b w n r).map boxG) 1) w (r + 1)
def encG (b w : List Nat) (n : Nat) : List Nat := encTo b w n n
def decTo (b w : List Nat) (n : Nat) : Nat → List Nat
 | 0 => b
 | k + 1 => (rowsG (if n - k < n then columnsG (withG (decTo b w n k) w (n - k)) mD else withG (decTo b w n k) w (n - k)) 3).map unboxG
def decG (b w : List Nat) (n : Nat) : List Nat := withG (decTo b w n n) w 0

theorem rangeD (f : Nat → Nat) (n i : Nat) (h : i < n) : ((List.range n).map f).getD i 0 = f i := by
 rw [List.getD_eq_getElem?_getD]; simp [h]
theorem list_ext16 {l m : List Nat} (h1 : l.length = 16) (h2 : m.length = 16) (h : ∀ i, i < 16 → l.getD i 0 = m.getD i 0) : l = m := by
 apply List.ext_getElem
 ·
  omega
 ·
  intro i a b
  have := h i (by omega)
  rw [List.getD_eq_getElem?_getD, List.getD_eq_getElem?_getD, List.getElem?_eq_getElem a, List.getElem?_eq_getElem b] at this
  exact this
theorem withG_len (l w : List Nat) (r : Nat) : (withG l w r).length = 16 := by simp [withG]
theorem rowsG_len (l : List Nat) (t : Nat) : (rowsG l t).length = 16 := by simp [rowsG]
theorem columnsG_len (l m : List Nat) : (columnsG l m).length = 16 := by simp [columnsG]
def Byt (l : List Nat) : Prop := ∀ c ∈ l, c < 256
theorem Byt.at_ {l : List Nat} (h : Byt l) (i : Nat) : l.getD i 0 < 256 := by
 rw [List.getD_eq_getElem?_getD]
 cases hq : l[i]? with
 | none => simp
 | some c => exact h c (List.mem_of_getElem? hq)
theorem byt_range {f : Nat → Nat} {n : Nat} (h : ∀ i, f i < 256) : Byt ((List.range n).map f) := by
 intro c hc
 obtain ⟨i, _, rfl⟩ := List.mem_map.1 hc
 exact h i
theorem xor_lt8 {a b : Nat} (ha : a < 256) (hb : b < 256) : a ^^^ b < 256 := Nat.xor_lt_two_pow (n := 8) ha hb
theorem withG_byt {l w : List Nat} (h : Byt l) (hw : Byt w) (r : Nat) : Byt (withG l w r) := byt_range fun _ => xor_lt8 (h.at_ _) (hw.at_ _)
theorem rowsG_byt {l : List Nat} (h : Byt l) (t : Nat) : Byt (rowsG l t) := byt_range fun _ => h.at_ _
theorem colTo_lt {l m : List Nat} (hm : Byt m) (i : Nat) : ∀ k, colTo l m i k < 256
 | 0 => by simp [colTo]
 | k + 1 => xor_lt8 (colTo_lt hm i k) (mulG_lt _ _ (hm.at_ _))
theorem columnsG_byt {l m : List Nat} (hm : Byt m) : Byt (columnsG l m) := byt_range fun i => colTo_lt hm i 4
theorem box_byt {l : List Nat} (h : Byt l) : Byt (l.map boxG) := by
 intro c hc
 obtain ⟨x, hx, rfl⟩ := List.mem_map.1 hc
 exact boxG_lt x (h x hx)
theorem unbox_byt {l : List Nat} (h : Byt l) : Byt (l.map unboxG) := by
 intro c hc
 obtain ⟨x, hx, rfl⟩ := List.mem_map.1 hc
 exact unboxG_lt x (h x hx)
theorem mE_byt : Byt mE := by unfold Byt mE; decide
theorem mD_byt : Byt mD := by unfold Byt mD; decide

theorem colTo_four (l m : List Nat) (i : Nat) : colTo l m i 4 = (((0 ^^^ mulG (m.getD 0 0) (l.getD (i / 4 * 4 + (i % 4 + 0) % 4) 0)) ^^^ mulG (m.getD 1 0) (l.getD (i / 4 * 4 + (i % 4 + 1) % 4) 0)) ^^^ mulG (m.getD 2 0) (l.getD (i / 4 * 4 + (i % 4 + 2) % 4) 0)) ^^^ mulG (m.getD 3 0) (l.getD (i / 4 * 4 + (i % 4 + 3) % 4) 0) := rfl
theorem encTo_ok {b w : List Nat} (hb : Byt b) (hw : Byt w) (n : Nat) : ∀ r, (encTo b w n r).length = 16 ∧ Byt (encTo b w n r)
 | 0 => ⟨withG_len _ _ _, withG_byt hb hw 0⟩
 | r + 1 => by
  have ih := encTo_ok hb hw n r
  refine ⟨withG_len _ _ _, ?_⟩
  unfold encTo
  refine withG_byt ?_ hw _
  split
  ·
   exact columnsG_byt mE_byt
  ·
   exact rowsG_byt (box_byt ih.2) 1
theorem encG_len (b w : List Nat) (n : Nat) : (encG b w n).length = 16 := by
 unfold encG
 cases n with
 | zero => exact withG_len _ _ _
 | succ n => exact withG_len _ _ _
theorem encG_byt {b w : List Nat} (hb : Byt b) (hw : Byt w) (n : Nat) : Byt (encG b w n) := (encTo_ok hb hw n n).2
theorem decG_len (b w : List Nat) (n : Nat) : (decG b w n).length = 16 := withG_len _ _ _
end Go.Proofs.YthodpjcdmdbnoaaGreatDoor.Pr

/- The contracts of gf.Mul, gf.Inv, gf.turn, gf.Box, gf.Unbox. -/
namespace Go.Proofs.YthodpjcdmdbnoaaGreatDoor
open Go Go.RowKit Pr

theorem low1 (b : Nat) (h : b < 256) : bits .and .u8 (b : Int) 1 = ((b % 2 : Nat) : Int) := by
 rw [show (1:Int) = ((1:Nat):Int) from rfl, u8_and_nat b 1 h (by omega), Nat.and_one_is_mod]
set_option maxRecDepth 100000 in
theorem high_all : ∀ a < 256, a &&& 128 = if 128 ≤ a then 128 else 0 := by decide +kernel
theorem high1 (a : Nat) (h : a < 256) : bits .and .u8 (a : Int) 128 = ((if 128 ≤ a then 128 else 0 : Nat) : Int) := by
 rw [show (128:Int) = ((128:Nat):Int) from rfl, u8_and_nat a 128 h (by omega), high_all a h]

set_option maxHeartbeats 1000000 in
theorem mul_any (a b : Nat) (ha : a < 256) (hb : b < 256) (w : World) :
    Calls Tryz.prog 130 #[.int .u8 a, .int .u8 b] w fun e w' => e = .returned (.int .u8 (mulG a b : Nat)) ∧ w = w' := by
 have HA := Lib.hid (fun k => xtN_lt k a ha)
 have HM := Lib.hid (fun k => mulTo_lt a b ha k)
 have HB := Lib.hid hb
 clear ha hb
 go_enter Tryz.func130, Tryz.ntmps130
 go_wp2
 go_loop [0, 1, 5, 7] (fun x y o i => ∃ k : Nat, k ≤ 8 ∧ i = .int .i64 k ∧ x = .int .u8 (xtN k a : Nat) ∧ y = .int .u8 (b / 2 ^ k : Nat) ∧ o = .int .u8 (mulTo a b k : Nat)) (fun _ _ _ i => 8 - (intOf i).toNat)
 case atStart => exact ⟨0, by omega, rfl, rfl, by rw [Nat.pow_zero, Nat.div_one], rfl⟩
 case round =>
  obtain ⟨k, hk, rfl, rfl, rfl, rfl⟩ := hrel
  by_cases hlt : k < 8
  ·
   have hx := HA.out k
   have hm := HM.out k
   have hB : b / 2 ^ k < 256 := Nat.lt_of_le_of_lt (Nat.div_le_self _ _) HB.out
   have s1 : mulTo a b (k + 1) = if b / 2 ^ k % 2 = 1 then mulTo a b k ^^^ xtN k a else mulTo a b k := rfl
   have s2 : xtN (k + 1) a = xt (xtN k a) := rfl
   have s3 : b / 2 ^ (k + 1) = b / 2 ^ k / 2 := by rw [Nat.pow_succ, Nat.div_div_eq_div_mul]
   generalize mulTo a b k = M at *
   generalize xtN k a = X at *
   generalize b / 2 ^ k = B at *
   have S1 := Lib.hid s1; clear s1
   have S2 := Lib.hid s2; clear s2
   have S3 := Lib.hid s3; clear s3
   have e1 := low1 B hB
   have e2 := high1 X hx
   have e3 := u8_xor_nat M X hm hx
   have hM' : mulTo a b (k + 1) < 256 := HM.out (k + 1)
   rw [S1.out] at hM'
   have fin : ∀ (x y o : Int), x = (xt X : Nat) → y = (B / 2 : Nat) → o = ((if B % 2 = 1 then M ^^^ X else M : Nat) : Int) → ∃ k_1 : Nat,
       k_1 ≤ 8 ∧ Value.int IntKind.i64 (↑k + 1) = Value.int IntKind.i64 ↑k_1 ∧ Value.int IntKind.u8 x = Value.int IntKind.u8 ↑(xtN k_1 a) ∧ Value.int IntKind.u8 y = Value.int IntKind.u8 ↑(b / 2 ^ k_1) ∧ Value.int IntKind.u8 o = Value.int IntKind.u8 ↑(mulTo a b k_1) := by
    rintro x y o rfl rfl rfl
    exact ⟨k + 1, by omega, by go_num, by rw [S2.out], by rw [S3.out], by rw [S1.out]⟩
   have FIN := Lib.hid fin; clear fin
   have x1 : 128 ≤ X → bits .xor .u8 ((X : Int) * 2 % 256) 27 = (xt X : Nat) := fun h => by
    rw [show ((X : Int) * 2 % 256) = ((2 * X - 256 : Nat) : Int) by omega, show (27 : Int) = ((27 : Nat) : Int) from rfl, u8_xor_nat _ _ (by omega) (by omega)]
    unfold xt
    rw [if_pos h]
   have x2 : ¬ 128 ≤ X → (X : Int) * 2 = (xt X : Nat) := fun h => by
    unfold xt
    rw [if_neg h]
    omega
   have X1 := Lib.hid x1; clear x1
   have X2 := Lib.hid x2; clear x2
   rcases (by omega : B % 2 = 0 ∨ B % 2 = 1) with h1 | h1 <;> rw [h1] at e1 FIN <;> by_cases h2 : 128 ≤ X
   ·
    rw [if_pos h2] at e2
    go_wp2
    go_roundw
    case rel => exact FIN.out _ _ _ (X1.out h2) (by omega) (by simp)
    case measure => simp [intOf]; omega
   ·
    rw [if_neg h2] at e2
    go_wp2
    go_roundw
    case rel => exact FIN.out _ _ _ (X2.out h2) (by omega) (by simp)
    case measure => simp [intOf]; omega
   ·
    rw [if_pos h2] at e2
    go_wp2
    go_roundw
    case rel => exact FIN.out _ _ _ (X1.out h2) (by omega) (by simp)
    case measure => simp [intOf]; omega
   ·
    rw [if_neg h2] at e2
    go_wp2
    go_roundw
    case rel => exact FIN.out _ _ _ (X2.out h2) (by omega) (by simp)
    case measure => simp [intOf]; omega
  ·
   obtain rfl : k = 8 := by omega
   go_wp2
   go_ret
   exact ⟨rfl, rfl⟩

set_option maxHeartbeats 1000000 in
theorem inv_any (a : Nat) (ha : a < 256) (w : World) :
    Calls Tryz.prog 131 #[.int .u8 a] w fun e w' => e = .returned (.int .u8 (invG a : Nat)) ∧ w = w' := by
 go_enter Tryz.func131, Tryz.ntmps131
 go_wp2
 go_loop [0, 3, 4] (fun x o i => ∃ k X O : Nat, k ≤ 7 ∧ X < 256 ∧ O < 256 ∧ Hid (invTo (7 - k) X O = invG a) ∧ i = .int .i64 k ∧ x = .int .u8 X ∧ o = .int .u8 O) (fun _ _ i => 7 - (intOf i).toNat)
 case atStart => exact ⟨0, a, 1, by omega, ha, by omega, rfl, rfl, rfl, rfl⟩
 case round =>
  obtain ⟨k, X, O, hk, hX, hO, hI, rfl, rfl, rfl⟩ := hrel
  by_cases hlt : k < 7
  ·
   have hm := mulG_lt X X hX
   have hs : invTo (7 - k) X O = invTo (7 - (k + 1)) (mulG X X) (mulG O (mulG X X)) := by
    rw [show 7 - k = (7 - (k + 1)) + 1 by omega]
    rfl
   rw [hs] at hI
   have HM := Lib.hid (fun W => mul_any X X hX hX W)
   have HO := Lib.hid (fun W => mul_any O (mulG X X) hO hm W)
   have hmo := mulG_lt O (mulG X X) hO
   clear hs
   generalize mulG X X = Y at *
   generalize mulG O Y = O' at *
   go_wp2_with fail
   refine (HM.out _).mono ?_
   rintro e w1 ⟨rfl, rfl⟩
   go_wp2_with fail
   refine (HO.out _).mono ?_
   rintro e w1 ⟨rfl, rfl⟩
   go_wp2
   go_round
   case rel => exact ⟨k + 1, Y, O', by omega, hm, hmo, hI, by go_num, rfl, rfl⟩
   case measure => simp [intOf]; omega
  ·
   obtain rfl : k = 7 := by omega
   have hI' : O = invG a := hI.out
   go_wp2
   go_ret
   exact ⟨rfl, rfl⟩

theorem rot_eq (a : Nat) (ha : a < 256) (p q : Nat) (P Q : Int) (hP : P = p) (hQ : Q = q) : bits .or .u8 ((a : Int) * P % 256) ((a : Int) / Q) = ((a * p % 256 ||| a / q : Nat) : Int) := by
 subst hP
 subst hQ
 rw [show ((a : Int) * p % 256) = ((a * p % 256 : Nat) : Int) by simp, show (a : Int) / q = ((a / q : Nat) : Int) by simp, u8_or_nat _ _ (Nat.mod_lt _ (by omega)) (Nat.lt_of_le_of_lt (Nat.div_le_self _ _) ha)]
theorem gfturn_any (a n : Nat) (ha : a < 256) (hn : n = 1 ∨ n = 2 ∨ n = 3 ∨ n = 4 ∨ n = 6) (w : World) :
    Calls Tryz.prog 132 #[.int .u8 a, .int .i64 n] w fun e w' => e = .returned (.int .u8 (rotG a n : Nat)) ∧ ∃ n, w' = w.drewN n := by
 rcases hn with rfl | rfl | rfl | rfl | rfl
 all_goals
  go_enter Tryz.func132, Tryz.ntmps132
  go_wp2
  go_quiet (fail)
  go_wp2
  go_ret
 ·
  exact ⟨retI (rot_eq a ha 2 128 _ _ rfl rfl), _, rfl⟩
 ·
  exact ⟨retI (rot_eq a ha 4 64 _ _ rfl rfl), _, rfl⟩
 ·
  exact ⟨retI (rot_eq a ha 8 32 _ _ rfl rfl), _, rfl⟩
 ·
  exact ⟨retI (rot_eq a ha 16 16 _ _ rfl rfl), _, rfl⟩
 ·
  exact ⟨retI (rot_eq a ha 64 4 _ _ rfl rfl), _, rfl⟩
theorem gfturn_at (a n : Nat) (N : Int) (hN : N = n) (ha : a < 256) (hn : n = 1 ∨ n = 2 ∨ n = 3 ∨ n = 4 ∨ n = 6) (w : World) :
    Calls Tryz.prog 132 #[.int .u8 a, .int .i64 N] w fun e w' => e = .returned (.int .u8 (rotG a n : Nat)) ∧ ∃ n, w' = w.drewN n := by
 subst hN
 exact gfturn_any a n ha hn w
theorem rotG_lt (a n : Nat) (ha : a < 256) : rotG a n < 256 := Nat.or_lt_two_pow (n := 8) (Nat.mod_lt _ (by decide)) (Nat.lt_of_le_of_lt (Nat.div_le_self _ _) ha)
set_option maxRecDepth 100000 in
theorem invG_lt_all : ∀ a < 256, invG a < 256 := by decide +kernel

set_option maxHeartbeats 1000000 in
theorem gfbox_any (a : Nat) (ha : a < 256) (w : World) :
    Calls Tryz.prog 114 #[.int .u8 a] w fun e w' => e = .returned (.int .u8 (boxG a : Nat)) ∧ ∃ n, w' = w.drewN n := by
 have HI := Lib.hid (fun W => inv_any a ha W)
 have hb := invG_lt_all a ha
 have hB : boxG a = affG (invG a) := rfl
 generalize invG a = b at *
 have H1 := Lib.hid (fun W => gfturn_at b 1 1 rfl hb (by omega) W)
 have H2 := Lib.hid (fun W => gfturn_at b 2 2 rfl hb (by omega) W)
 have H3 := Lib.hid (fun W => gfturn_at b 3 3 rfl hb (by omega) W)
 have H4 := Lib.hid (fun W => gfturn_at b 4 4 rfl hb (by omega) W)
 have l1 := rotG_lt b 1 hb
 have l2 := rotG_lt b 2 hb
 have l3 := rotG_lt b 3 hb
 have l4 := rotG_lt b 4 hb
 have hA : affG b = b ^^^ rotG b 1 ^^^ rotG b 2 ^^^ rotG b 3 ^^^ rotG b 4 ^^^ 99 := rfl
 rw [hA] at hB
 generalize rotG b 1 = r1 at *
 generalize rotG b 2 = r2 at *
 generalize rotG b 3 = r3 at *
 generalize rotG b 4 = r4 at *
 have e1 := u8_xor_nat b r1 hb l1
 have m1 := xor_lt8 hb l1
 generalize b ^^^ r1 = x1 at *
 have e2 := u8_xor_nat x1 r2 m1 l2
 have m2 := xor_lt8 m1 l2
 generalize x1 ^^^ r2 = x2 at *
 have e3 := u8_xor_nat x2 r3 m2 l3
 have m3 := xor_lt8 m2 l3
 generalize x2 ^^^ r3 = x3 at *
 have e4 := u8_xor_nat x3 r4 m3 l4
 have m4 := xor_lt8 m3 l4
 generalize x3 ^^^ r4 = x4 at *
 have e5 : bits .xor .u8 (x4 : Int) 99 = ((x4 ^^^ 99 : Nat) : Int) := u8_xor_nat x4 99 m4 (by omega)
 rw [← hB] at e5
 generalize boxG a = c at *
 clear hB hA ha
 go_enter Tryz.func114, Tryz.ntmps114
 go_wp2_with fail
 refine (HI.out _).mono ?_
 rintro e w1 ⟨rfl, rfl⟩
 go_wp2_with fail
 refine (H1.out _).mono ?_
 rintro e w1 ⟨rfl, n1, rfl⟩
 go_wp2_with fail
 refine (H2.out _).mono ?_
 rintro e w1 ⟨rfl, n2, rfl⟩
 go_wp2_with fail
 refine (H3.out _).mono ?_
 rintro e w1 ⟨rfl, n3, rfl⟩
 go_wp2_with fail
 refine (H4.out _).mono ?_
 rintro e w1 ⟨rfl, n4, rfl⟩
 go_wp2
 go_ret
 exact ⟨rfl, _, rfl⟩

set_option maxHeartbeats 1000000 in
theorem gfunbox_any (a : Nat) (ha : a < 256) (w : World) :
    Calls Tryz.prog 113 #[.int .u8 a] w fun e w' => e = .returned (.int .u8 (unboxG a : Nat)) ∧ ∃ n, w' = w.drewN n := by
 have H1 := Lib.hid (fun W => gfturn_at a 1 1 rfl ha (by omega) W)
 have H2 := Lib.hid (fun W => gfturn_at a 3 3 rfl ha (by omega) W)
 have H3 := Lib.hid (fun W => gfturn_at a 6 6 rfl ha (by omega) W)
 have l1 := rotG_lt a 1 ha
 have l2 := rotG_lt a 3 ha
 have l3 := rotG_lt a 6 ha
 have hB : unboxG a = invG (rotG a 1 ^^^ rotG a 3 ^^^ rotG a 6 ^^^ 5) := rfl
 generalize rotG a 1 = r1 at *
 generalize rotG a 3 = r2 at *
 generalize rotG a 6 = r3 at *
 have e1 := u8_xor_nat r1 r2 l1 l2
 have m1 := xor_lt8 l1 l2
 generalize r1 ^^^ r2 = x1 at *
 have e2 := u8_xor_nat x1 r3 m1 l3
 have m2 := xor_lt8 m1 l3
 generalize x1 ^^^ r3 = x2 at *
 have e3 : bits .xor .u8 (x2 : Int) 5 = ((x2 ^^^ 5 : Nat) : Int) := u8_xor_nat x2 5 m2 (by omega)
 have m3 : x2 ^^^ 5 < 256 := xor_lt8 m2 (by omega)
 generalize x2 ^^^ 5 = x3 at *
 have HI := Lib.hid (fun W => inv_any x3 m3 W)
 rw [← hB] at HI
 generalize unboxG a = c at *
 clear hB ha
 go_enter Tryz.func113, Tryz.ntmps113
 go_wp2_with fail
 refine (H1.out _).mono ?_
 rintro e w1 ⟨rfl, n1, rfl⟩
 go_wp2_with fail
 refine (H2.out _).mono ?_
 rintro e w1 ⟨rfl, n2, rfl⟩
 go_wp2_with fail
 refine (H3.out _).mono ?_
 rintro e w1 ⟨rfl, n3, rfl⟩
 go_wp2_with fail
 refine (HI.out _).mono ?_
 rintro e w1 ⟨rfl, rfl⟩
 go_wp2
 go_ret
 exact ⟨rfl, _, rfl⟩
end Go.Proofs.YthodpjcdmdbnoaaGreatDoor
