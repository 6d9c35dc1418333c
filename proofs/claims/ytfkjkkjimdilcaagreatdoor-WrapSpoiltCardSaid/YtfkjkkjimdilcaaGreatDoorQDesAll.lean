/- The contract of des.permute. The contracts of des.turn, des.unpermute, des.number. The contracts of des.box, des.mix. The contracts of des.number, des.bytes. The contract of des.Rounds. The contract of des.Block. -/
import Derived.Test.YtfkjkkjimdilcaaGreatDoorQBase
import Derived.Laws.CopyOwn
set_option maxHeartbeats 8000000
set_option maxRecDepth 100000
/- The contract of des.permute. -/
namespace Go.Proofs.YtfkjkkjimdilcaaGreatDoor
open Go Go.RowKit Pr

theorem permute_any (x size : Nat) (tab : ByteArray) (ps : List Nat) (w : World) (hx : x < 18446744073709551616) (hsz : size ≤ 64) (ht : Tab tab size ps) :
    Calls Tryz.prog 127 #[.int .u64 x, .int .i64 size, .string tab] w fun e w' => e = .returned (.int .u64 (permN x size ps : Nat)) ∧ ∃ n, w' = w.drewN n := by
 have HT := Hh ht; have HX := Hh hx; clear hx; have hsh : tab.size ≤ 128 := by have := ht.len; have := ht.short; omega
 clear ht
 go_enter Tryz.func127, Tryz.ntmps127
 go_wp2
 go_loopw [7, 8] (fun x' i wr => ∃ j k : Nat, Hid (k = 2 * j) ∧ k ≤ tab.size ∧ i = .int .i64 k ∧ x' = .int .u64 (permN x size (ps.take j) : Nat) ∧ ∃ m, wr = w.drewN m) (fun _ i _ => tab.size - (intOf i).toNat)
 case atStart => exact ⟨0, 0, rfl, by omega, rfl, rfl, 0, rfl⟩
 case round =>
  obtain ⟨j, k, hk, hkl, rfl, rfl, m, rfl⟩ := hrel
  by_cases hlt : k < tab.size
  ·
   obtain ⟨hj, hlt2, h1, h2, h3, h4⟩ := HT.out.at_ hk.out hlt; have i1 := index_str (P := Tryz.prog) 9 Tryz.underlying9 tab k hlt k rfl _ h1; have i2 := index_str (P := Tryz.prog) 9 Tryz.underlying9 tab (k+1) hlt2 ((k : Int) + 1) (by omega) _ h2; have hn : permN x size (ps.take j) < 2 ^ j := Nat.lt_of_lt_of_le (permN_lt _ _ _) (Nat.pow_le_pow_right (by omega) (by simp; omega)); generalize hP : permN x size (ps.take j) = P at *; generalize hp : ps[j] = p at *; have HP := Hh hP; clear hP; have Hp := Hh hp; clear hp; have ha : ∃ a, 48 + p / 10 = a := ⟨_, rfl⟩; have hb : ∃ b, 48 + p % 10 = b := ⟨_, rfl⟩; obtain ⟨a, ha⟩ := ha; obtain ⟨b, hb⟩ := hb; rw [ha] at i1; rw [hb] at i2; have : 48 ≤ a := by omega
   have : a ≤ 54 := by omega
   have : 48 ≤ b := by omega
   have : b ≤ 57 := by omega
   have hpp : (a - 48 : Int) * 10 + (b - 48) = p := by omega
   have e1 : IntKind.i64.wrap ((k:Int) + 1) = k + 1 := IntWalk.i64_in _ (by omega); clear h1 h2; have Ha := Hh ha; clear ha; have Hb := Hh hb; clear hb; have Hpp := Hh hpp; clear hpp; go_wp2
   go_quiet (fail)
   rw [Hpp.out]; go_wp2
   all_goals go_roundw
   case rel => exact ⟨j + 1, k + 2, by have := hk.out; exact (by omega : k + 2 = 2 * (j + 1)), by omega, by go_num, by
    have := hn; have h62 : 2 ^ j ≤ 2 ^ 63 := Nat.pow_le_pow_right (by omega) (by have := HT.out.short; omega)
    rw [or_step P x _ (by omega) HX.out, List.take_succ_eq_append_getElem hj, permN_snoc, HP.out, Hp.out], _, rfl⟩
   case measure => simp [intOf]; omega
  ·
   have hfin : ps.take j = ps := by rw [List.take_of_length_le]; have := HT.out.len; have := hk.out; omega
   have Hfin := Hh hfin; clear hfin; go_wp2
   go_ret
   exact ⟨by rw [Hfin.out]; rfl, _, rfl⟩
theorem permute_at (x : Int) (X : Nat) (hX : x = X) (sz : Int) (size : Nat) (hS : sz = size) (tab : ByteArray) (ps : List Nat) (w : World) (hx : X < 18446744073709551616) (hsz : size ≤ 64) (ht : Tab tab size ps) :
    Calls Tryz.prog 127 #[.int .u64 x, .int .i64 sz, .string tab] w fun e w' => e = .returned (.int .u64 (permN X size ps : Nat)) ∧ ∃ n, w' = w.drewN n := by
 subst hX; subst hS; exact permute_any X size tab ps w hx hsz ht

theorem turn_any (x n : Nat) (w : World) (hx : x < 268435456) (hn : n ≤ 28) :
    Calls Tryz.prog 155 #[.int .u64 x, .int .i64 n] w fun e w' => e = .returned (.int .u64 (turnN x n : Nat)) ∧ ∃ n, w' = w.drewN n := by
 have e1 : IntKind.i64.wrap (28 - (n:Int)) = 28 - n := IntWalk.i64_in _ (by omega)
 go_enter Tryz.func155, Tryz.ntmps155
 go_wp2
 go_quiet (fail)
 go_wp2
 go_ret
 exact ⟨retI (turn_eq x n hx hn), _, rfl⟩

theorem turn_at (x : Int) (X : Nat) (hX : x = X) (m : Int) (n : Nat) (hm : m = n) (w : World) (hx : X < 268435456) (hn : n ≤ 28) :
    Calls Tryz.prog 155 #[.int .u64 x, .int .i64 m] w fun e w' => e = .returned (.int .u64 (turnN X n : Nat)) ∧ ∃ n, w' = w.drewN n := by
 subst hX; subst hm; exact turn_any X n w hx hn

theorem unpermute_any (x : Nat) (tab : ByteArray) (ps : List Nat) (w : World) (hx : x < 18446744073709551616) (ht : Tab tab 64 ps) :
    Calls Tryz.prog 131 #[.int .u64 x, .string tab] w fun e w' => e = .returned (.int .u64 (unpN x ps ps.length : Nat)) ∧ ∃ n, w' = w.drewN n := by
 have HT := Hh ht; have HX := Hh hx; clear hx; have hsh : tab.size ≤ 128 := by have := ht.len; have := ht.short; omega
 clear ht
 go_enter Tryz.func131, Tryz.ntmps131
 go_wp2
 go_loopw [5, 6] (fun x' i wr => ∃ j k : Nat, Hid (k = 2 * j) ∧ k ≤ tab.size ∧ i = .int .i64 k ∧ x' = .int .u64 (unpN x ps j : Nat) ∧ ∃ m, wr = w.drewN m) (fun _ i _ => tab.size - (intOf i).toNat)
 case atStart => exact ⟨0, 0, rfl, by omega, rfl, rfl, 0, rfl⟩
 case round =>
  obtain ⟨j, k, hk, hkl, rfl, rfl, m, rfl⟩ := hrel
  by_cases hlt : k < tab.size
  ·
   obtain ⟨hj, hlt2, h1, h2, h3, h4⟩ := HT.out.at_ hk.out hlt; have i1 := index_str (P := Tryz.prog) 9 Tryz.underlying9 tab k hlt k rfl _ h1; have i2 := index_str (P := Tryz.prog) 9 Tryz.underlying9 tab (k+1) hlt2 ((k : Int) + 1) (by omega) _ h2; generalize hP : unpN x ps j = P at *; generalize hp : ps[j] = p at *; have HP := Hh hP; clear hP; have Hp := Hh hp; clear hp; obtain ⟨a, ha⟩ : ∃ a, 48 + p / 10 = a := ⟨_, rfl⟩; obtain ⟨b, hb⟩ : ∃ b, 48 + p % 10 = b := ⟨_, rfl⟩; rw [ha] at i1; rw [hb] at i2; have : 48 ≤ a := by omega
   have : a ≤ 54 := by omega
   have : 48 ≤ b := by omega
   have : b ≤ 57 := by omega
   have hpp : (a - 48 : Int) * 10 + (b - 48) = p := by omega
   have e1 : IntKind.i64.wrap ((k:Int) + 1) = k + 1 := IntWalk.i64_in _ (by omega); clear h1 h2; have Ha := Hh ha; clear ha; have Hb := Hh hb; clear hb; have Hpp := Hh hpp; clear hpp; go_wp2
   go_quiet (fail)
   rw [Hpp.out]; go_wp2
   all_goals go_roundw
   case rel => exact ⟨j + 1, k + 2, by have := hk.out; exact (by omega : k + 2 = 2 * (j + 1)), by omega, by go_num, by
    have hb64 : P < 18446744073709551616 := by rw [← HP.out]; exact unpN_lt x ps HT.out.pos j (by omega)
    rw [unp_step P x _ _ hb64 HX.out (by omega), unpN, HP.out, getD_of _ _ hj, Hp.out, hk.out, show 2 * j / 2 = j by omega], _, rfl⟩
   case measure => simp [intOf]; omega
  ·
   have hfin : j = ps.length := by have := HT.out.len; have := hk.out; omega
   have Hfin := Hh hfin; clear hfin; go_wp2
   go_ret
   exact ⟨by rw [Hfin.out]; rfl, _, rfl⟩

theorem info_str : (Tryz.prog.info? 9).map (·.size) = some 1 := by kernel_rfl

theorem boxes_at (i : Nat) (hi : i < 8) (W : World) : (Instr.index 237 (.agg #[Value.string { data := #[101, 52, 100, 49, 50, 102, 98, 56, 51, 97, 54, 99, 53, 57, 48, 55, 48, 102, 55, 52, 101, 50, 100, 49, 97, 54, 99, 98, 57, 53, 51, 56, 52, 49, 101, 56, 100, 54, 50, 98, 102, 99, 57, 55, 51, 97, 53, 48, 102, 99, 56, 50, 52, 57, 49, 55, 53, 98, 51, 101, 97, 48, 54, 100] }, Value.string { data := #[102, 49, 56, 101, 54, 98, 51, 52, 57, 55, 50, 100, 99, 48, 53, 97, 51, 100, 52, 55, 102, 50, 56, 101, 99, 48, 49, 97, 54, 57, 98, 53, 48, 101, 55, 98, 97, 52, 100, 49, 53, 56, 99, 54, 57, 51, 50, 102, 100, 56, 97, 49, 51, 102, 52, 50, 98, 54, 55, 99, 48, 53, 101, 57] }, Value.string { data := #[97, 48, 57, 101, 54, 51, 102, 53, 49, 100, 99, 55, 98, 52, 50, 56, 100, 55, 48, 57, 51, 52, 54, 97, 50, 56, 53, 101, 99, 98, 102, 49, 100, 54, 52, 57, 56, 102, 51, 48, 98, 49, 50, 99, 53, 97, 101, 55, 49, 97, 100, 48, 54, 57, 56, 55, 52, 102, 101, 51, 98, 53, 50, 99] }, Value.string { data := #[55, 100, 101, 51, 48, 54, 57, 97, 49, 50, 56, 53, 98, 99, 52, 102, 100, 56, 98, 53, 54, 102, 48, 51, 52, 55, 50, 99, 49, 97, 101, 57, 97, 54, 57, 48, 99, 98, 55, 100, 102, 49, 51, 101, 53, 50, 56, 52, 51, 102, 48, 54, 97, 49, 100, 56, 57, 52, 53, 98, 99, 55, 50, 101] }, Value.string { data := #[50, 99, 52, 49, 55, 97, 98, 54, 56, 53, 51, 102, 100, 48, 101, 57, 101, 98, 50, 99, 52, 55, 100, 49, 53, 48, 102, 97, 51, 57, 56, 54, 52, 50, 49, 98, 97, 100, 55, 56, 102, 57, 99, 53, 54, 51, 48, 101, 98, 56, 99, 55, 49, 101, 50, 100, 54, 102, 48, 57, 97, 52, 53, 51] }, Value.string { data := #[99, 49, 97, 102, 57, 50, 54, 56, 48, 100, 51, 52, 101, 55, 53, 98, 97, 102, 52, 50, 55, 99, 57, 53, 54, 49, 100, 101, 48, 98, 51, 56, 57, 101, 102, 53, 50, 56, 99, 51, 55, 48, 52, 97, 49, 100, 98, 54, 52, 51, 50, 99, 57, 53, 102, 97, 98, 101, 49, 55, 54, 48, 56, 100] }, Value.string { data := #[52, 98, 50, 101, 102, 48, 56, 100, 51, 99, 57, 55, 53, 97, 54, 49, 100, 48, 98, 55, 52, 57, 49, 97, 101, 51, 53, 99, 50, 102, 56, 54, 49, 52, 98, 100, 99, 51, 55, 101, 97, 102, 54, 56, 48, 53, 57, 50, 54, 98, 100, 56, 49, 52, 97, 55, 57, 53, 48, 102, 101, 50, 51, 99] }, Value.string { data := #[100, 50, 56, 52, 54, 102, 98, 49, 97, 57, 51, 101, 53, 48, 99, 55, 49, 102, 100, 56, 97, 51, 55, 52, 99, 53, 54, 98, 48, 101, 57, 50, 55, 98, 52, 49, 57, 99, 101, 50, 48, 54, 97, 100, 102, 51, 53, 56, 50, 49, 101, 55, 52, 97, 56, 100, 102, 99, 57, 48, 51, 53, 54, 98] }]) (.int .i64 i)).run Tryz.prog W = .ok (.string (boxS i)) W := by
 refine index_agg _ 9 8 _ Tryz.underlying237 info_str (by kernel_rfl) (by kernel_rfl) i hi .i64 i rfl _ ?_ W
 rcases (by omega : i = 0 ∨ i = 1 ∨ i = 2 ∨ i = 3 ∨ i = 4 ∨ i = 5 ∨ i = 6 ∨ i = 7) with rfl | rfl | rfl | rfl | rfl | rfl | rfl | rfl <;> rfl

theorem box_any (i six : Nat) (w : World) (hi : i < 8) (hs : six < 64) :
    Calls Tryz.prog 156 #[.int .i64 i, .int .u64 six] w fun e w' => e = .returned (.int .u64 (boxN i six : Nat)) ∧ w = w' := by
 have hix := boxes_at i hi; have hsz := boxS_size i hi; obtain ⟨a1, h1⟩ : ∃ a, six / 16 &&& 2 = a := ⟨_, rfl⟩; obtain ⟨a2, h2⟩ : ∃ a, six &&& 1 = a := ⟨_, rfl⟩; obtain ⟨a3, h3⟩ : ∃ a, a1 ||| a2 = a := ⟨_, rfl⟩
 obtain ⟨a4, h4⟩ : ∃ a, six / 2 &&& 15 = a := ⟨_, rfl⟩; have b1 : a1 ≤ 2 := by rw [← h1]; exact Nat.and_le_right
 have b2 : a2 ≤ 1 := by rw [← h2]; exact Nat.and_le_right
 have b3 : a3 < 2 ^ 2 := by rw [← h3]; exact Nat.or_lt_two_pow (by omega) (by omega)
 have b4 : a4 ≤ 15 := by rw [← h4]; exact Nat.and_le_right
 have e1 : bits .and .u64 ((six : Int) / 16) 2 = a1 := by rw [← h1]; exact and_c (six / 16) 2 (by omega) (by omega)
 have e2 : bits .and .u64 (six : Int) 1 = a2 := by rw [← h2]; exact and_c six 1 (by omega) (by omega)
 have e3 : bits .or .u64 (a1 : Int) a2 = a3 := by rw [← h3]; exact u64_or_nat a1 a2 (by omega) (by omega)
 have e4 : bits .and .u64 ((six : Int) / 2) 15 = a4 := by rw [← h4]; exact and_c (six / 2) 15 (by omega) (by omega)
 have hlt : a3 * 16 + a4 < (boxS i).size := by omega
 have hd := boxS_dig i hi (a3 * 16 + a4) (by omega); rw [tb_of hlt] at hd
 have hbox : boxN i six = (boxes.getD i []).getD (a3 * 16 + a4) 0 := by
  unfold boxN
  rw [h1, h2, h3, ← h4, show (15 : Nat) = 2 ^ 4 - 1 from rfl, Nat.and_two_pow_sub_one_eq_mod]
 rw [hbox]; generalize (boxes.getD i []).getD (a3 * 16 + a4) 0 = d at *; obtain ⟨c, hc⟩ : ∃ c, (if d < 10 then 48 + d else 87 + d) = c := ⟨_, rfl⟩; have i2 := index_str (P := Tryz.prog) 9 Tryz.underlying9 (boxS i) (a3 * 16 + a4) hlt ((a3 : Int) * 16 + a4) (by omega) c (by rw [hd.1, hc]) (kd := .u64); have hd2 := hd.2; have : c ≤ 102 := by rw [← hc]; split <;> omega
 have : 48 ≤ c := by rw [← hc]; split <;> omega
 have Hc := Hh hc; clear hc hd hbox; clear h1 h2 h3 h4 hsz hlt; generalize boxS i = s at *
 by_cases hc97 : 97 ≤ c
 ·
  have hx := Hc.out
  split at hx
  ·
   omega
  ·
   have hy : (c : Int) - 97 + 10 = d := by omega
   clear hx; have Hy := Hh hy; clear hy
   go_enter Tryz.func156, Tryz.ntmps156
   go_wp2
   go_ret
   exact ⟨retI Hy.out, rfl⟩
 ·
  have hx := Hc.out
  split at hx
  ·
   have hy : (c : Int) - 48 = d := by omega
   clear hx; have Hy := Hh hy; clear hy
   go_enter Tryz.func156, Tryz.ntmps156
   go_wp2
   go_ret
   exact ⟨retI Hy.out, rfl⟩
  ·
   omega

theorem and_63 (x n : Nat) (hx : x < 18446744073709551616) : bits .and .u64 ((x : Int) / 2 ^ n) 63 = ((x / 2 ^ n % 64 : Nat) : Int) := by
 have hX : x / 2 ^ n < 18446744073709551616 := Nat.lt_of_le_of_lt (Nat.div_le_self _ _) hx; rw [show ((x : Int) / 2 ^ n) = ((x / 2 ^ n : Nat) : Int) by simp, show (63 : Int) = ((63 : Nat) : Int) from rfl, u64_and_nat _ _ hX (by omega)]; rw [show (63 : Nat) = 2 ^ 6 - 1 from rfl, Nat.and_two_pow_sub_one_eq_mod]

theorem six_eq (W key k : Nat) (hW : W < 18446744073709551616) (hk : key < 18446744073709551616) :
    bits .xor .u64 (bits .and .u64 ((W : Int) / 2 ^ (28 - 4 * k)) 63) (bits .and .u64 ((key : Int) / 2 ^ (42 - 6 * k)) 63) = (((W / 2 ^ (28 - 4 * k) % 64) ^^^ (key / 2 ^ (42 - 6 * k) % 64) : Nat) : Int) := by
 rw [and_63 _ _ hW, and_63 _ _ hk, u64_xor_nat _ _ (by omega) (by omega)]

theorem or_16 (P b : Nat) (hP : P < 268435456) (hb : b < 16) : bits .or .u64 ((P : Int) * 16) (b : Int) = ((P * 16 + b : Nat) : Int) := by
 rw [show ((P : Int) * 16) = ((P * 16 : Nat) : Int) by simp, u64_or_nat _ _ (by omega) (by omega), show P * 16 ||| b = P * 16 + b by
  rw [show P * 16 = 2 ^ 4 * P by omega, ← Nat.two_pow_add_eq_or_of_lt (by omega)]]

theorem wide_eq (half : Nat) (h : half < 4294967296) : half % 2 * 8589934592 ||| half * 2 ||| half / 2147483648 = wideN half := by
 unfold wideN
 have h1 : half / 2147483648 < 2 ^ 1 := by omega
 have h2 : half * 2 + half / 2147483648 < 2 ^ 33 := by omega
 rw [Nat.or_assoc, show half * 2 ||| half / 2147483648 = half * 2 + half / 2147483648 by
  rw [show half * 2 = 2 ^ 1 * half by omega, ← Nat.two_pow_add_eq_or_of_lt h1]]
 rw [show half % 2 * 8589934592 = 2 ^ 33 * (half % 2) by omega, ← Nat.two_pow_add_eq_or_of_lt h2]; omega

theorem mix_any (half key : Nat) (w : World) (hh : half < 4294967296) (hk : key < 18446744073709551616) :
    Calls Tryz.prog 129 #[.int .u64 half, .int .u64 key] w fun e w' => e = .returned (.int .u64 (mixN half key : Nat)) ∧ ∃ n, w' = w.drewN n := by
 obtain ⟨a1, h1⟩ : ∃ a, half % 2 = a := ⟨_, rfl⟩; obtain ⟨a2, h2⟩ : ∃ a, a1 * 8589934592 ||| half * 2 = a := ⟨_, rfl⟩
 obtain ⟨W, hW⟩ : ∃ a, a2 ||| half / 2147483648 = a := ⟨_, rfl⟩
 have b1 : a1 ≤ 1 := by omega
 have b2 : a2 < 2 ^ 34 := by rw [← h2]; exact Nat.or_lt_two_pow (by omega) (by omega)
 have b3 : W < 2 ^ 34 := by rw [← hW]; exact Nat.or_lt_two_pow (by omega) (by omega)
 have e1 : bits .and .u64 (half : Int) 1 = a1 := by rw [← h1, ← Nat.and_one_is_mod]; exact and_c half 1 (by omega) (by omega)
 have e2 : bits .or .u64 ((a1 : Int) * 8589934592) ((half : Int) * 2) = a2 := by rw [← h2]; exact u64_or_nat (a1 * 8589934592) (half * 2) (by omega) (by omega)
 have e3 : bits .or .u64 (a2 : Int) ((half : Int) / 2147483648) = W := by rw [← hW]; exact u64_or_nat a2 (half / 2147483648) (by omega) (by omega)
 have hWw : W = wideN half := by rw [← wide_eq half hh, h1, h2, hW]
 have HW := Hh hWw; clear hWw; clear h1 h2 hW
 go_enter Tryz.func129, Tryz.ntmps129
 go_wp2
 clear e1 e2 e3
 go_loopw [5, 18] (fun x i wr => ∃ k : Nat, k ≤ 8 ∧ i = .int .i64 k ∧ x = .int .u64 (mixB half key k : Nat) ∧ ∃ m, wr = w.drewN m) (fun _ i _ => 8 - (intOf i).toNat)
 case atStart => exact ⟨0, by omega, rfl, rfl, 0, rfl⟩
 case round =>
  obtain ⟨k, hk8, rfl, rfl, m, rfl⟩ := hrel; have hlt := mixB_lt half key k hk8; have hlt7 : k < 8 → mixB half key k < 268435456 := fun h => Nat.lt_of_lt_of_le hlt (Nat.le_trans (Nat.pow_le_pow_right (by omega) (show k ≤ 7 by omega)) (by decide)); have hlt8 : mixB half key k < 4294967296 := Nat.lt_of_lt_of_le hlt (Nat.le_trans (Nat.pow_le_pow_right (by omega) hk8) (by decide)); clear hlt
  by_cases hlt : k < 8
  ·
   have hb := hlt7 hlt; clear hlt7 hlt8; generalize hP : mixB half key k = P at *; have HP := Hh hP; clear hP; go_wp2
   go_quiet (fail)
   rw [six_eq W key k (by omega) hk]; obtain ⟨s, hs⟩ : ∃ s, (W / 2 ^ (28 - 4 * k) % 64) ^^^ (key / 2 ^ (42 - 6 * k) % 64) = s := ⟨_, rfl⟩; have hs64 : s < 64 := by rw [← hs]; exact Nat.xor_lt_two_pow (n := 6) (Nat.mod_lt _ (by omega)) (Nat.mod_lt _ (by omega))
   rw [hs]; have HS : Hid (s = sixN half key k) := by rw [← hs, HW.out]; rfl
   clear hs; have hb16 := boxN_lt k s hlt hs64; go_wp2_with (go_at_call 156; refine (box_any _ _ _ hlt hs64).mono ?_; rintro e w' ⟨rfl, rfl⟩)
   go_roundw
   case rel => exact ⟨k + 1, by omega, by go_num, by rw [or_16 _ _ hb hb16, mixB, HP.out, HS.out], _, rfl⟩
   case measure => simp [intOf]; omega
  ·
   have e8 : k = 8 := by omega
   clear hlt7; subst e8; generalize hP : mixB half key 8 = P at *; have HP := Hh hP; clear hP; go_wp2_with fail
   refine (permute_at P P rfl 32 32 rfl _ psP _ (by omega) (by omega) ?ht).mono ?k
   case ht => exact tab_of (by kernel_rfl)
   case k =>
    rintro e w' ⟨rfl, n, rfl⟩; go_wp2
    go_ret
    exact ⟨by rw [mixN, HP.out]; rfl, _, rfl⟩

theorem or_256 (n c : Nat) (hn : n < 72057594037927936) (hc : c < 256) : bits .or .u64 ((n : Int) * 256) (c : Int) = ((n * 256 + c : Nat) : Int) := by
 rw [show ((n : Int) * 256) = ((n * 256 : Nat) : Int) by simp, u64_or_nat _ _ (by omega) (by omega), show n * 256 ||| c = n * 256 + c by
  rw [show n * 256 = 2 ^ 8 * n by omega, ← Nat.two_pow_add_eq_or_of_lt (by omega)]]

theorem number_any (l : List Nat) (hl : l.length = 8) (hb : ∀ c ∈ l, c < 256) (w : World) :
    Calls Tryz.prog 128 #[.agg (byteCells l)] w fun e w' => e = .returned (.int .u64 (be8 l : Nat)) ∧ w.alloc (.cells (byteCells l) 141) = w' := by
 have hsz := Hh (size_byteCells l); have hget := Hh (get_byteCells l); generalize byteCells l = cs at *; have HL := Hh hl; clear hl; have HB := Hh hb; clear hb
 go_enter Tryz.func128, Tryz.ntmps128
 go_wp2_with (refine wpList_load_row rfl 141 (.tmp 1) rfl w.heap.size rfl 141 cs (0,0) _ (heap_alloc_new _ _) Tryz.underlying141 rfl (by rw [info_8u8, hsz.out, HL.out]) ?_)
 go_loop [3, 7] (fun x i => ∃ k : Nat, k ≤ 8 ∧ i = .int .i64 k ∧ x = .int .u64 (be8 (l.take k) : Nat)) (fun _ i => 8 - (intOf i).toNat)
 case atStart => exact ⟨0, by omega, rfl, rfl⟩
 case round =>
  obtain ⟨k, hk, rfl, rfl⟩ := hrel
  by_cases hlt : k < 8
  ·
   have hkl : k < l.length := by rw [HL.out]; exact hlt
   have hc := HB.out l[k] (List.getElem_mem _); have hg := hget.out k hkl; have hbe := be8_lt (l.take k) (fun c hc => HB.out c (List.mem_of_mem_take hc)); have hbe2 : be8 (l.take k) < 72057594037927936 := Nat.lt_of_lt_of_le hbe (Nat.le_trans (Nat.pow_le_pow_right (by omega) (by rw [List.length_take]; omega : (l.take k).length ≤ 7)) (by decide)); clear hbe; have hsn : be8 (l.take (k + 1)) = be8 (l.take k) * 256 + l[k] := by rw [List.take_succ_eq_append_getElem hkl, be8_snoc]
   generalize l[k] = c at *; have HS := Hh hsn; clear hsn; have hix := index_8u8 cs k hlt k rfl _ hg; clear hg; generalize hP : be8 (l.take k) = P at *; have HP := Hh hP; clear hP; go_wp2
   go_round
   case rel => exact ⟨k + 1, by omega, by go_num, by rw [or_256 _ _ hbe2 hc, HS.out]⟩
   case measure => simp [intOf]; omega
  ·
   have e8 : l.take k = l := List.take_of_length_le (by rw [HL.out]; omega); have E8 := Hh e8; clear e8; go_wp2
   go_ret
   exact ⟨by rw [E8.out]; rfl, rfl⟩

/-- the first k bytes, the rest still 0 -/
def fill8 (x k : Nat) : List Nat := (bytes8 x).take k ++ List.replicate (8 - k) 0
theorem fill8_len (x k : Nat) (h : k ≤ 8) : (fill8 x k).length = 8 := by simp [fill8, bytes8]; omega
theorem fill8_set (x k : Nat) (h : k < 8) : (fill8 x k).set k (x / 2 ^ (56 - 8 * k) % 256) = fill8 x (k + 1) := by
 apply List.ext_getElem?
 intro i
 unfold fill8
 have hl : ((bytes8 x).take k).length = k := by simp [bytes8]; omega
 have hb : ∀ i < 8, (bytes8 x)[i]? = some (x / 2 ^ (56 - 8 * i) % 256) := by intro i hi; simp [bytes8, hi]
 have h8 : (bytes8 x).length = 8 := by simp [bytes8]
 rw [List.getElem?_set]; have hlen : (List.take k (bytes8 x) ++ List.replicate (8 - k) 0).length = 8 := by simp [h8]; omega
 have hl' : ((bytes8 x).take (k+1)).length = k+1 := by simp [bytes8]; omega
 by_cases hik : k = i
 ·
  subst hik; rw [if_pos rfl, if_pos (by omega), List.getElem?_append_left (by omega), List.getElem?_take_of_lt (by omega), hb _ h]
 ·
  rw [if_neg hik]
  by_cases hlt : i < k
  ·
   rw [List.getElem?_append_left (by omega), List.getElem?_append_left (by omega), List.getElem?_take_of_lt (by omega), List.getElem?_take_of_lt (by omega)]
  ·
   rw [List.getElem?_append_right (by omega), List.getElem?_append_right (by omega), hl, hl', List.getElem?_replicate, List.getElem?_replicate]
   by_cases h3 : i < 8
   ·
    rw [if_pos (by omega), if_pos (by omega)]
   ·
    rw [if_neg (by omega), if_neg (by omega)]

theorem set_byteCells (l : List Nat) (k c : Nat) : (byteCells l).setIfInBounds k (.int .u8 (c : Int)) = byteCells (l.set k c) := by
 simp [byteCells, List.map_set]

theorem fill_step {cs : Array Value} {x k : Nat} (h : cs = byteCells (fill8 x k)) (hk : k < 8) : cs.setIfInBounds k (.int .u8 ((x : Int) / 2 ^ (56 - 8 * k) % 256)) = byteCells (fill8 x (k + 1)) := by
 rw [h, show ((x : Int) / 2 ^ (56 - 8 * k) % 256) = ((x / 2 ^ (56 - 8 * k) % 256 : Nat) : Int) by simp, set_byteCells, fill8_set x k hk]
theorem fill_end (x : Nat) : fill8 x 8 = bytes8 x := by
 unfold fill8
 rw [List.take_of_length_le (by simp [bytes8])]; simp
theorem bytes_one (l : List Nat) : (byteCells l).all (·.oneCell') = true := by simp [byteCells, Value.oneCell']

theorem bytes_any (x : Nat) (hx : x < 18446744073709551616) (w : World) :
    Calls Tryz.prog 130 #[.int .u64 x] w fun e w' => e = .returned (.agg (byteCells (bytes8 x))) ∧ Below w.heap.size w w' := by
 have HX := Hh hx; clear hx
 go_enter Tryz.func130, Tryz.ntmps130
 go_wp2
 obtain ⟨z, hz, hzs⟩ : ∃ z : Array Value, z = #[Value.int .u8 0, Value.int .u8 0, Value.int .u8 0, Value.int .u8 0, Value.int .u8 0, Value.int .u8 0, Value.int .u8 0, Value.int .u8 0] ∧ z.size = 8 := ⟨_, rfl, rfl⟩; rw [← hz]; obtain ⟨w1, hw1⟩ : ∃ w1, w1 = w.alloc (Obj.cells z 141) := ⟨_, rfl⟩; rw [← hw1]
 go_loopw [5] (fun i wr => ∃ k : Nat, k ≤ 8 ∧ i = .int .i64 k ∧ ∃ cs, Hid (cs = byteCells (fill8 x k)) ∧ wr = w1.alloc (.cells cs 141)) (fun i _ => 8 - (intOf i).toNat)
 case atStart => exact ⟨0, by omega, rfl, z, hz, rfl⟩
 case round =>
  obtain ⟨k, hk, rfl, cs, hcs, rfl⟩ := hrel; have hs : w1.heap.size = w.heap.size + 1 := by rw [hw1]; simp
  have hb1 : (w1.alloc (.cells cs 141)).heap[w.heap.size + 1]? = some (.cells cs 141) := by rw [← hs]; exact heap_alloc_new _ _
  have hb0 : (w1.alloc (.cells cs 141)).heap[w.heap.size]? = some (.cells z 141) := by rw [show (w1.alloc _).heap[w.heap.size]? = w1.heap[w.heap.size]? from heap_alloc_old _ _ (by omega), hw1]; exact heap_alloc_new _ _
  have hcz : cs.size = 8 := by rw [hcs.out, size_byteCells, fill8_len _ _ hk]
  have hc1 : cs.all (·.oneCell') = true := by rw [hcs.out]; exact bytes_one _
  have HB1 := Hh hb1; have HB0 := Hh hb0; have HCZ := Hh hcz; have HC1 := Hh hc1; have HW1 := Hh hw1; have HZS := Hh hzs; clear hw1 hb1 hb0 hcz hc1 hz hzs
  by_cases hlt : k < 8
  ·
   have hg : cs[k]? = some (.int .u8 ((fill8 x k)[k]'(by rw [fill8_len _ _ hk]; exact hlt) : Nat)) := by rw [hcs.out]; exact get_byteCells _ _ _
   generalize (fill8 x k)[k]'(by rw [fill8_len _ _ hk]; exact hlt) = c at *; go_wp2
   go_roundw
   case rel => exact ⟨k + 1, by omega, by go_num, _, fill_step hcs.out hlt, rfl⟩
   case measure => simp [intOf]; omega
  ·
   have e8 : k = 8 := by omega
   subst e8
   go_wp2_with (first
    | (refine wpList_load_row rfl 141 (.tmp 3) rfl (w.heap.size + 1) rfl 141 cs (0,0) _ HB1.out Tryz.underlying141 rfl (by rw [info_8u8, HCZ.out]) ?_)
    | (refine wpList_store_row rfl 141 (.tmp 2) (.tmp 17) rfl w.heap.size cs rfl rfl 141 z HB0.out (by rw [info_8u8, HCZ.out]) (by rw [HCZ.out, HZS.out]) HC1.out ?_))
   refine bodyPost_ret (v := .agg cs) (results_cell_row rfl _ _ w.heap.size 141 cs (0,0) _ rfl (setRow_heap _ _ _ _ _ _ HB0.out) Tryz.underlying141 rfl (by rw [info_8u8, HCZ.out])) rfl ⟨by rw [hcs.out, fill_end], ?_⟩; refine below_setRow ?_ lr _; rw [HW1.out]; exact ((Below.refl _ _).alloc lr _).alloc (by simp) _

theorem info_16u64 : (Tryz.prog.info? 192).map (·.size) = some 16 := by kernel_rfl

theorem or_28 (c d : Nat) (hc : c < 268435456) (hd : d < 268435456) : bits .or .u64 ((c : Int) * 268435456) (d : Int) = ((c * 268435456 + d : Nat) : Int) := by
 rw [show ((c : Int) * 268435456) = ((c * 268435456 : Nat) : Int) by simp, u64_or_nat _ _ (by omega) (by omega), show c * 268435456 ||| d = c * 268435456 + d by
  rw [show c * 268435456 = 2 ^ 28 * c by omega, ← Nat.two_pow_add_eq_or_of_lt (by omega)]]

theorem key_step {cs : Array Value} {l : List Nat} {k : Nat} (h : cs = numCells .u64 (fillN (roundsN l) 16 k)) (hk : k < 16) : cs.setIfInBounds k (.int .u64 (keyN l k : Nat)) = numCells .u64 (fillN (roundsN l) 16 (k + 1)) := by
 rw [h, set_numCells, ← fillN_set _ 16 k hk (by simp [roundsN])]
 simp [roundsN]

theorem key_of {l : List Nat} {c0 d0 k C1 D1 : Nat} (h : ∀ r, keyN l r = permN (spun c0 (r + 1) * 268435456 + spun d0 (r + 1)) 56 psPC2) (hc : spun c0 (k + 1) = C1) (hd : spun d0 (k + 1) = D1) : permN (C1 * 268435456 + D1) 56 psPC2 = keyN l k := by
 rw [h k, hc, hd]

theorem spun_step {c0 k C n C1 : Nat} (h : spun c0 k = C) (hr : rotN k = n) (h1 : turnN C n = C1) : spun c0 (k + 1) = C1 := by
 rw [← h1, ← h, ← hr]; rfl

theorem key_step' {cs : Array Value} {l : List Nat} {k K : Nat} (h : cs = numCells .u64 (fillN (roundsN l) 16 k)) (hk : k < 16) (hK : K = keyN l k) : cs.setIfInBounds k (.int .u64 (K : Int)) = numCells .u64 (fillN (roundsN l) 16 (k + 1)) := by
 rw [hK]; exact key_step h hk

theorem rounds_any (l : List Nat) (hl : l.length = 8) (hb : ∀ c ∈ l, c < 256) (w : World) :
    Calls Tryz.prog 126 #[.agg (byteCells l)] w fun e w' => e = .returned (.agg (numCells .u64 (roundsN l))) ∧ Below w.heap.size w w' := by
 have hsz := Hh (size_byteCells l); have HL := Hh hl; clear hl; have HB := Hh hb; clear hb; obtain ⟨cl, hcl⟩ : ∃ cl, byteCells l = cl := ⟨_, rfl⟩; have hnum := fun W => number_any l HL.out HB.out W; rw [hcl]; rw [hcl] at hsz; simp only [hcl] at hnum; have HNUM := Hh hnum; clear hnum; clear hcl
 go_enter Tryz.func126, Tryz.ntmps126
 go_wp2_with (first
  | (refine wpList_load_row rfl 141 (.tmp 1) rfl w.heap.size rfl 141 cl (0,0) _ (((Blk.new w 141 cl).alloc _).alloc _) Tryz.underlying141 rfl (by rw [info_8u8, hsz.out, HL.out]) ?_)
  | (go_at_call 128; refine (HNUM.out _).mono ?_; rintro e w' ⟨rfl, rfl⟩)
  )
 refine (permute_at (be8 l) (be8 l) rfl 64 64 rfl _ psPC1 _ (be8_lt8 HL.out HB.out) (by omega) (tab_of (by kernel_rfl))).mono ?_; rintro e w' ⟨rfl, n0, rfl⟩; obtain ⟨x, hx⟩ : ∃ x, permN (be8 l) 64 psPC1 = x := ⟨_, rfl⟩; have hx56 : x < 2 ^ 56 := by rw [← hx]; exact pc1_lt l
 rw [hx]; obtain ⟨c0, hc0⟩ : ∃ c0, x / 268435456 = c0 := ⟨_, rfl⟩; obtain ⟨d0, hd0⟩ : ∃ d0, x % 268435456 = d0 := ⟨_, rfl⟩; have hc0l : c0 < 268435456 := by omega
 have hd0l : d0 < 268435456 := by omega
 have e1 : (x : Int) / 268435456 = c0 := by omega
 have e2 : bits .and .u64 (x : Int) 268435455 = d0 := by
  rw [← hd0, show (268435455 : Int) = ((268435455 : Nat) : Int) from rfl, u64_and_nat _ _ (by omega) (by omega), show (268435455 : Nat) = 2 ^ 28 - 1 from rfl, Nat.and_two_pow_sub_one_eq_mod]
 have HK : Hid (∀ r, keyN l r = permN (spun c0 (r + 1) * 268435456 + spun d0 (r + 1)) 56 psPC2) := by intro r; rw [← hc0, ← hd0, ← hx]; rfl
 clear hx hc0 hd0; go_wp2
 clear e1 e2
 go_loopw [5, 6, 16] (fun c d i wr => ∃ k : Nat, k ≤ 16 ∧ i = .int .i64 k ∧ c = .int .u64 (spun c0 k : Nat) ∧ d = .int .u64 (spun d0 k : Nat) ∧ ∃ cs, Hid (cs = numCells .u64 (fillN (roundsN l) 16 k)) ∧ Blk wr (w.heap.size + 1 + 1) 192 cs ∧ ∃ z, Hid (z.size = 16) ∧ Blk wr (w.heap.size + 1) 192 z ∧ Below w.heap.size w wr) (fun _ _ i _ => 16 - (intOf i).toNat)
 case atStart =>
  refine ⟨0, by omega, rfl, rfl, rfl, #[Value.int .u64 0, Value.int .u64 0, Value.int .u64 0, Value.int .u64 0, Value.int .u64 0, Value.int .u64 0, Value.int .u64 0, Value.int .u64 0, Value.int .u64 0, Value.int .u64 0, Value.int .u64 0, Value.int .u64 0, Value.int .u64 0, Value.int .u64 0, Value.int .u64 0, Value.int .u64 0], rfl, ?_, #[Value.int .u64 0, Value.int .u64 0, Value.int .u64 0, Value.int .u64 0, Value.int .u64 0, Value.int .u64 0, Value.int .u64 0, Value.int .u64 0, Value.int .u64 0, Value.int .u64 0, Value.int .u64 0, Value.int .u64 0, Value.int .u64 0, Value.int .u64 0, Value.int .u64 0, Value.int .u64 0], rfl, ?_, ?_⟩
  ·
   exact (by simpa using (((Blk.new ((w.alloc _).alloc _) 192 #[Value.int .u64 0, Value.int .u64 0, Value.int .u64 0, Value.int .u64 0, Value.int .u64 0, Value.int .u64 0, Value.int .u64 0, Value.int .u64 0, Value.int .u64 0, Value.int .u64 0, Value.int .u64 0, Value.int .u64 0, Value.int .u64 0, Value.int .u64 0, Value.int .u64 0, Value.int .u64 0]).alloc _).drewN n0))
  ·
   exact (by simpa using ((((Blk.new (w.alloc _) 192 #[Value.int .u64 0, Value.int .u64 0, Value.int .u64 0, Value.int .u64 0, Value.int .u64 0, Value.int .u64 0, Value.int .u64 0, Value.int .u64 0, Value.int .u64 0, Value.int .u64 0, Value.int .u64 0, Value.int .u64 0, Value.int .u64 0, Value.int .u64 0, Value.int .u64 0, Value.int .u64 0]).alloc _).alloc _).drewN n0))
  ·
   exact below_drewN (((((Below.refl _ _).alloc lr _).alloc (by simp) _).alloc (by simp; omega) _).alloc (by simp; omega) _) _
 case round =>
  obtain ⟨k, hk, rfl, rfl, rfl, cs, hcs, hB3, z, hz, hB2, hbel⟩ := hrel; have hcl := spun_lt c0 hc0l k; have hdl := spun_lt d0 hd0l k; have HB3 := Hh hB3; have HB2 := Hh hB2; clear hB2; have HBel := Hh hbel; clear hbel
  by_cases hlt : k < 16
  ·
   have hcell : ∃ v, wr.cell? ⟨w.heap.size + 1 + 1, k, none⟩ = some v := by
    rw [hB3.cell, hcs.out, get_numCells _ _ k (by rw [fillN_len _ _ _ hk (by simp [roundsN])]; exact hlt)]; exact ⟨_, rfl⟩
   obtain ⟨v0, hcell⟩ := hcell; have hfr := hB3.frozen k; have hsz3 := hB3.lt; clear hB3; obtain ⟨C, hC⟩ : ∃ C, spun c0 k = C := ⟨_, rfl⟩; obtain ⟨D, hD⟩ : ∃ D, spun d0 k = D := ⟨_, rfl⟩; rw [hC] at hcl ⊢; rw [hD] at hdl ⊢; have HC := Hh hC; clear hC; have HD := Hh hD; clear hD
   rcases (by omega : k = 0 ∨ k = 1 ∨ k = 8 ∨ k = 15 ∨ (k ≠ 0 ∧ k ≠ 1 ∧ k ≠ 8 ∧ k ≠ 15)) with hr | hr | hr | hr | hr
   ·
    have f0 : ((k : Int) == 0) = true := beq_iff_eq.2 (by omega); have hr2 : rotN k = 1 := by unfold rotN; rw [if_pos (by omega)]
    have HR := Hh hr2; clear hr2 hr; have t1 := turnN_lt C 1; have t2 := turnN_lt D 1; go_wp2_with fail
    refine (turn_at C C rfl 1 1 rfl _ hcl (by omega)).mono ?_; rintro e w' ⟨rfl, n1, rfl⟩; go_wp2_with fail
    refine (turn_at D D rfl 1 1 rfl _ hdl (by omega)).mono ?_; rintro e w' ⟨rfl, n2, rfl⟩; obtain ⟨C1, hC1⟩ : ∃ C1, turnN C 1 = C1 := ⟨_, rfl⟩; obtain ⟨D1, hD1⟩ : ∃ D1, turnN D 1 = D1 := ⟨_, rfl⟩; rw [hC1] at t1 ⊢; rw [hD1] at t2 ⊢; have HC1 : Hid (spun c0 (k + 1) = C1) := spun_step HC.out HR.out hC1; have HD1 : Hid (spun d0 (k + 1) = D1) := spun_step HD.out HR.out hD1; clear hC1 hD1; go_wp2_with fail
    refine (permute_at _ (C1 * 268435456 + D1) (or_28 C1 D1 t1 t2) 56 56 rfl _ psPC2 _ (by omega) (by omega) (tab_of (by kernel_rfl))).mono ?_; rintro e w' ⟨rfl, n3, rfl⟩; have HKK : Hid (permN (C1 * 268435456 + D1) 56 psPC2 = keyN l k) := key_of HK.out HC1.out HD1.out; obtain ⟨K1, hK1⟩ : ∃ K1, permN (C1 * 268435456 + D1) 56 psPC2 = K1 := ⟨_, rfl⟩; rw [hK1] at HKK ⊢; clear hK1; go_wp2
    go_roundw
    case rel => exact ⟨k + 1, by omega, by go_num, by rw [HC1.out], by rw [HD1.out], _, key_step' hcs.out hlt HKK.out, ((HB3.out.drewN _).set_ k _), z, hz, ((HB2.out.drewN _).far (by simp) _), (below_drewN HBel.out _).setCell (by simp; omega) _⟩
    case measure => simp [intOf]; omega
   ·
    have f0 : ((k : Int) == 0) = false := beq_eq_false_iff_ne.2 (by omega); have f1 : ((k : Int) == 1) = true := beq_iff_eq.2 (by omega); have hr2 : rotN k = 1 := by unfold rotN; rw [if_pos (by omega)]
    have HR := Hh hr2; clear hr2 hr; have t1 := turnN_lt C 1; have t2 := turnN_lt D 1; go_wp2_with fail
    refine (turn_at C C rfl 1 1 rfl _ hcl (by omega)).mono ?_; rintro e w' ⟨rfl, n1, rfl⟩; go_wp2_with fail
    refine (turn_at D D rfl 1 1 rfl _ hdl (by omega)).mono ?_; rintro e w' ⟨rfl, n2, rfl⟩; obtain ⟨C1, hC1⟩ : ∃ C1, turnN C 1 = C1 := ⟨_, rfl⟩; obtain ⟨D1, hD1⟩ : ∃ D1, turnN D 1 = D1 := ⟨_, rfl⟩; rw [hC1] at t1 ⊢; rw [hD1] at t2 ⊢; have HC1 : Hid (spun c0 (k + 1) = C1) := spun_step HC.out HR.out hC1; have HD1 : Hid (spun d0 (k + 1) = D1) := spun_step HD.out HR.out hD1; clear hC1 hD1; go_wp2_with fail
    refine (permute_at _ (C1 * 268435456 + D1) (or_28 C1 D1 t1 t2) 56 56 rfl _ psPC2 _ (by omega) (by omega) (tab_of (by kernel_rfl))).mono ?_; rintro e w' ⟨rfl, n3, rfl⟩; have HKK : Hid (permN (C1 * 268435456 + D1) 56 psPC2 = keyN l k) := key_of HK.out HC1.out HD1.out; obtain ⟨K1, hK1⟩ : ∃ K1, permN (C1 * 268435456 + D1) 56 psPC2 = K1 := ⟨_, rfl⟩; rw [hK1] at HKK ⊢; clear hK1; go_wp2
    go_roundw
    case rel => exact ⟨k + 1, by omega, by go_num, by rw [HC1.out], by rw [HD1.out], _, key_step' hcs.out hlt HKK.out, ((HB3.out.drewN _).set_ k _), z, hz, ((HB2.out.drewN _).far (by simp) _), (below_drewN HBel.out _).setCell (by simp; omega) _⟩
    case measure => simp [intOf]; omega
   ·
    have f0 : ((k : Int) == 0) = false := beq_eq_false_iff_ne.2 (by omega); have f1 : ((k : Int) == 1) = false := beq_eq_false_iff_ne.2 (by omega); have f8 : ((k : Int) == 8) = true := beq_iff_eq.2 (by omega); have hr2 : rotN k = 1 := by unfold rotN; rw [if_pos (by omega)]
    have HR := Hh hr2; clear hr2 hr; have t1 := turnN_lt C 1; have t2 := turnN_lt D 1; go_wp2_with fail
    refine (turn_at C C rfl 1 1 rfl _ hcl (by omega)).mono ?_; rintro e w' ⟨rfl, n1, rfl⟩; go_wp2_with fail
    refine (turn_at D D rfl 1 1 rfl _ hdl (by omega)).mono ?_; rintro e w' ⟨rfl, n2, rfl⟩; obtain ⟨C1, hC1⟩ : ∃ C1, turnN C 1 = C1 := ⟨_, rfl⟩; obtain ⟨D1, hD1⟩ : ∃ D1, turnN D 1 = D1 := ⟨_, rfl⟩; rw [hC1] at t1 ⊢; rw [hD1] at t2 ⊢; have HC1 : Hid (spun c0 (k + 1) = C1) := spun_step HC.out HR.out hC1; have HD1 : Hid (spun d0 (k + 1) = D1) := spun_step HD.out HR.out hD1; clear hC1 hD1; go_wp2_with fail
    refine (permute_at _ (C1 * 268435456 + D1) (or_28 C1 D1 t1 t2) 56 56 rfl _ psPC2 _ (by omega) (by omega) (tab_of (by kernel_rfl))).mono ?_; rintro e w' ⟨rfl, n3, rfl⟩; have HKK : Hid (permN (C1 * 268435456 + D1) 56 psPC2 = keyN l k) := key_of HK.out HC1.out HD1.out; obtain ⟨K1, hK1⟩ : ∃ K1, permN (C1 * 268435456 + D1) 56 psPC2 = K1 := ⟨_, rfl⟩; rw [hK1] at HKK ⊢; clear hK1; go_wp2
    go_roundw
    case rel => exact ⟨k + 1, by omega, by go_num, by rw [HC1.out], by rw [HD1.out], _, key_step' hcs.out hlt HKK.out, ((HB3.out.drewN _).set_ k _), z, hz, ((HB2.out.drewN _).far (by simp) _), (below_drewN HBel.out _).setCell (by simp; omega) _⟩
    case measure => simp [intOf]; omega
   ·
    have f0 : ((k : Int) == 0) = false := beq_eq_false_iff_ne.2 (by omega); have f1 : ((k : Int) == 1) = false := beq_eq_false_iff_ne.2 (by omega); have f8 : ((k : Int) == 8) = false := beq_eq_false_iff_ne.2 (by omega); have f15 : ((k : Int) == 15) = true := beq_iff_eq.2 (by omega); have hr2 : rotN k = 1 := by unfold rotN; rw [if_pos (by omega)]
    have HR := Hh hr2; clear hr2 hr; have t1 := turnN_lt C 1; have t2 := turnN_lt D 1; go_wp2_with fail
    refine (turn_at C C rfl 1 1 rfl _ hcl (by omega)).mono ?_; rintro e w' ⟨rfl, n1, rfl⟩; go_wp2_with fail
    refine (turn_at D D rfl 1 1 rfl _ hdl (by omega)).mono ?_; rintro e w' ⟨rfl, n2, rfl⟩; obtain ⟨C1, hC1⟩ : ∃ C1, turnN C 1 = C1 := ⟨_, rfl⟩; obtain ⟨D1, hD1⟩ : ∃ D1, turnN D 1 = D1 := ⟨_, rfl⟩; rw [hC1] at t1 ⊢; rw [hD1] at t2 ⊢; have HC1 : Hid (spun c0 (k + 1) = C1) := spun_step HC.out HR.out hC1; have HD1 : Hid (spun d0 (k + 1) = D1) := spun_step HD.out HR.out hD1; clear hC1 hD1; go_wp2_with fail
    refine (permute_at _ (C1 * 268435456 + D1) (or_28 C1 D1 t1 t2) 56 56 rfl _ psPC2 _ (by omega) (by omega) (tab_of (by kernel_rfl))).mono ?_; rintro e w' ⟨rfl, n3, rfl⟩; have HKK : Hid (permN (C1 * 268435456 + D1) 56 psPC2 = keyN l k) := key_of HK.out HC1.out HD1.out; obtain ⟨K1, hK1⟩ : ∃ K1, permN (C1 * 268435456 + D1) 56 psPC2 = K1 := ⟨_, rfl⟩; rw [hK1] at HKK ⊢; clear hK1; go_wp2
    go_roundw
    case rel => exact ⟨k + 1, by omega, by go_num, by rw [HC1.out], by rw [HD1.out], _, key_step' hcs.out hlt HKK.out, ((HB3.out.drewN _).set_ k _), z, hz, ((HB2.out.drewN _).far (by simp) _), (below_drewN HBel.out _).setCell (by simp; omega) _⟩
    case measure => simp [intOf]; omega
   ·
    have f0 : ((k : Int) == 0) = false := beq_eq_false_iff_ne.2 (by omega); have f1 : ((k : Int) == 1) = false := beq_eq_false_iff_ne.2 (by omega); have f8 : ((k : Int) == 8) = false := beq_eq_false_iff_ne.2 (by omega); have f15 : ((k : Int) == 15) = false := beq_eq_false_iff_ne.2 (by omega); have hr2 : rotN k = 2 := by unfold rotN; rw [if_neg (by omega)]
    have HR := Hh hr2; clear hr2 hr; have t1 := turnN_lt C 2; have t2 := turnN_lt D 2; go_wp2_with fail
    refine (turn_at C C rfl 2 2 rfl _ hcl (by omega)).mono ?_; rintro e w' ⟨rfl, n1, rfl⟩; go_wp2_with fail
    refine (turn_at D D rfl 2 2 rfl _ hdl (by omega)).mono ?_; rintro e w' ⟨rfl, n2, rfl⟩; obtain ⟨C1, hC1⟩ : ∃ C1, turnN C 2 = C1 := ⟨_, rfl⟩; obtain ⟨D1, hD1⟩ : ∃ D1, turnN D 2 = D1 := ⟨_, rfl⟩; rw [hC1] at t1 ⊢; rw [hD1] at t2 ⊢; have HC1 : Hid (spun c0 (k + 1) = C1) := spun_step HC.out HR.out hC1; have HD1 : Hid (spun d0 (k + 1) = D1) := spun_step HD.out HR.out hD1; clear hC1 hD1; go_wp2_with fail
    refine (permute_at _ (C1 * 268435456 + D1) (or_28 C1 D1 t1 t2) 56 56 rfl _ psPC2 _ (by omega) (by omega) (tab_of (by kernel_rfl))).mono ?_; rintro e w' ⟨rfl, n3, rfl⟩; have HKK : Hid (permN (C1 * 268435456 + D1) 56 psPC2 = keyN l k) := key_of HK.out HC1.out HD1.out; obtain ⟨K1, hK1⟩ : ∃ K1, permN (C1 * 268435456 + D1) 56 psPC2 = K1 := ⟨_, rfl⟩; rw [hK1] at HKK ⊢; clear hK1; go_wp2
    go_roundw
    case rel => exact ⟨k + 1, by omega, by go_num, by rw [HC1.out], by rw [HD1.out], _, key_step' hcs.out hlt HKK.out, ((HB3.out.drewN _).set_ k _), z, hz, ((HB2.out.drewN _).far (by simp) _), (below_drewN HBel.out _).setCell (by simp; omega) _⟩
    case measure => simp [intOf]; omega
  ·
   have e16 : k = 16 := by omega
   subst e16; have hcz : cs.size = 16 := by rw [hcs.out, size_numCells, fillN_len _ _ _ hk (by simp [roundsN])]
   have hc1 : cs.all (·.oneCell') = true := by rw [hcs.out]; exact numCells_one _ _
   have HCZ := Hh hcz; clear hcz; have HC1 := Hh hc1; clear hc1 hB3
   go_wp2_with (first
    | (refine wpList_load_row rfl 192 (.tmp 3) rfl (w.heap.size + 1 + 1) rfl 192 cs (0,0) _ HB3.out Tryz.underlying192 rfl (by rw [info_16u64, HCZ.out]) ?_)
    | (refine wpList_store_row rfl 192 (.tmp 2) (.tmp 39) rfl (w.heap.size + 1) cs rfl rfl 192 z HB2.out (by rw [info_16u64, HCZ.out]) (by rw [HCZ.out, hz.out]) HC1.out ?_))
   refine bodyPost_ret (v := .agg cs) (results_cell_row rfl _ _ (w.heap.size + 1) 192 cs (0,0) _ rfl (setRow_heap _ _ _ _ _ _ HB2.out) Tryz.underlying192 rfl (by rw [info_16u64, HCZ.out])) rfl ⟨by rw [hcs.out, fillN_end _ _ (by simp [roundsN])], ?_⟩; exact below_setRow HBel.out (by omega) _

theorem or_32 (c d : Nat) (hc : c < 4294967296) (hd : d < 4294967296) : bits .or .u64 ((c : Int) * 4294967296) (d : Int) = ((c * 4294967296 + d : Nat) : Int) := by
 rw [show ((c : Int) * 4294967296) = ((c * 4294967296 : Nat) : Int) by simp, u64_or_nat _ _ (by omega) (by omega), show c * 4294967296 ||| d = c * 4294967296 + d by
  rw [show c * 4294967296 = 2 ^ 32 * c by omega, ← Nat.two_pow_add_eq_or_of_lt (by omega)]]

theorem unpermute_at (x : Int) (X : Nat) (hX : x = X) (tab : ByteArray) (ps : List Nat) (w : World) (hx : X < 18446744073709551616) (ht : Tab tab 64 ps) :
    Calls Tryz.prog 131 #[.int .u64 x, .string tab] w fun e w' => e = .returned (.int .u64 (unpN X ps ps.length : Nat)) ∧ ∃ n, w' = w.drewN n := by
 subst hX; exact unpermute_any X tab ps w hx ht

section
variable {ks : List Nat} {back : Bool} {x k L R K M i : Nat}
theorem lad1 (_h1 : (ladderN ks back x k).1 = L) (h2 : (ladderN ks back x k).2 = R) (_hk : ks.getD (if back then 15 - k else k) 0 = K) (_hM : mixN R K = M) : (ladderN ks back x (k + 1)).1 = R := by
 rw [ladderN]; exact h2
theorem lad2 (h1 : (ladderN ks back x k).1 = L) (h2 : (ladderN ks back x k).2 = R) (hk : ks.getD (if back then 15 - k else k) 0 = K) (hM : mixN R K = M) : (ladderN ks back x (k + 1)).2 = L ^^^ M := by
 rw [ladderN]; simp only [h1, h2, hk, hM]
end

theorem block_any (key b : List Nat) (back : Bool) (hkl : key.length = 8) (hkb : ∀ c ∈ key, c < 256) (hbl : b.length = 8) (hbb : ∀ c ∈ b, c < 256) (w : World) :
    Calls Tryz.prog 111 #[.agg (byteCells key), .agg (byteCells b), .bool back] w fun e w' => e = .returned (.agg (byteCells (blockN key b back))) ∧ Below w.heap.size w w' := by
 have hszk := Hh (size_byteCells key); have hszb := Hh (size_byteCells b); have hrounds := Hh (fun W => rounds_any key hkl hkb W); have hnum := Hh (fun W => number_any b hbl hbb W); have hx64 := be8_lt8 hbl hbb; have HKL := Hh hkl; clear hkl; have HBL := Hh hbl; clear hbl; clear hkb hbb; obtain ⟨ck, hck⟩ : ∃ c, byteCells key = c := ⟨_, rfl⟩; obtain ⟨cb, hcb⟩ : ∃ c, byteCells b = c := ⟨_, rfl⟩; rw [hck] at hszk hrounds ⊢; rw [hcb] at hszb hnum ⊢; clear hck hcb
 go_enter Tryz.func111, Tryz.ntmps111
 go_wp2_with (refine wpList_load_row rfl 141 (.tmp 3) rfl w.heap.size rfl 141 ck (0,0) _ (((Blk.new w 141 ck).alloc _).alloc _) Tryz.underlying141 rfl (by rw [info_8u8, hszk.out, HKL.out]) ?_)
 refine (hrounds.out _).mono ?_; rintro e w1 ⟨rfl, hb1⟩; have hBb : Blk w1 (w.heap.size + 1) 141 cb := Blk.below (by simpa using ((Blk.new (w.alloc _) 141 cb).alloc _)) hb1 (by simp); obtain ⟨z, hz, hBz⟩ : ∃ z : Array Value, Hid (z.size = 8) ∧ Blk w1 (w.heap.size + 1 + 1) 141 z := ⟨#[Value.int .u8 0, Value.int .u8 0, Value.int .u8 0, Value.int .u8 0, Value.int .u8 0, Value.int .u8 0, Value.int .u8 0, Value.int .u8 0], rfl, Blk.below (by simpa using (Blk.new ((w.alloc _).alloc _) 141 _)) hb1 (by simp)⟩; have hbel : Below w.heap.size w w1 := ((((Below.refl _ _).alloc lr _).alloc (by simp) _).alloc (by simp; omega) _).trans (hb1.mono (by simp; omega)); have hBb := Hh hBb; have hBz := Hh hBz; have hbel := Hh hbel; clear hb1; obtain ⟨g, hg⟩ : ∃ g, w1.heap.size = g := ⟨_, rfl⟩; have hgl : w.heap.size + 1 + 1 < g := by rw [← hg]; exact hBz.out.lt
 obtain ⟨w2, hw2⟩ : ∃ w2, (w1.alloc (Obj.cells #[Value.int .u64 0, Value.int .u64 0, Value.int .u64 0, Value.int .u64 0, Value.int .u64 0, Value.int .u64 0, Value.int .u64 0, Value.int .u64 0, Value.int .u64 0, Value.int .u64 0, Value.int .u64 0, Value.int .u64 0, Value.int .u64 0, Value.int .u64 0, Value.int .u64 0, Value.int .u64 0] 192)).setRow g (numCells .u64 (roundsN key)) = w2 := ⟨_, rfl⟩; have hBk : Blk w2 g 192 (numCells .u64 (roundsN key)) := by rw [← hw2, ← hg]; exact (Blk.new w1 192 _).row _
 have hBb2 : Blk w2 (w.heap.size + 1) 141 cb := by rw [← hw2]; exact (hBb.out.alloc _).rowFar (by omega) _
 have hBz2 : Blk w2 (w.heap.size + 1 + 1) 141 z := by rw [← hw2]; exact (hBz.out.alloc _).rowFar (by omega) _
 have hbel2 : Below w.heap.size w w2 := by rw [← hw2]; exact below_setRow (hbel.out.alloc (by omega) _) (by omega) _
 have hs2 : g < w2.heap.size := hBk.lt; clear hBb hBz hbel; have hw2 := Hh hw2; have hBk := Hh hBk; have hBb := Hh hBb2; clear hBb2; have hBz := Hh hBz2; clear hBz2; have hbel := Hh hbel2; clear hbel2; have hN : Hid ((w1.alloc (Obj.cells #[Value.int .u64 0, Value.int .u64 0, Value.int .u64 0, Value.int .u64 0, Value.int .u64 0, Value.int .u64 0, Value.int .u64 0, Value.int .u64 0, Value.int .u64 0, Value.int .u64 0, Value.int .u64 0, Value.int .u64 0, Value.int .u64 0, Value.int .u64 0, Value.int .u64 0, Value.int .u64 0] 192)).heap[g]? = some (.cells #[Value.int .u64 0, Value.int .u64 0, Value.int .u64 0, Value.int .u64 0, Value.int .u64 0, Value.int .u64 0, Value.int .u64 0, Value.int .u64 0, Value.int .u64 0, Value.int .u64 0, Value.int .u64 0, Value.int .u64 0, Value.int .u64 0, Value.int .u64 0, Value.int .u64 0, Value.int .u64 0] 192)) := by rw [← hg]; exact heap_alloc_new _ _
 go_wp2_with (first
  | (refine wpList_store_row rfl 192 (.tmp 7) (.tmp 13) rfl g (numCells .u64 (roundsN key)) rfl rfl 192 #[Value.int .u64 0, Value.int .u64 0, Value.int .u64 0, Value.int .u64 0, Value.int .u64 0, Value.int .u64 0, Value.int .u64 0, Value.int .u64 0, Value.int .u64 0, Value.int .u64 0, Value.int .u64 0, Value.int .u64 0, Value.int .u64 0, Value.int .u64 0, Value.int .u64 0, Value.int .u64 0] hN.out (by rw [info_16u64, size_numCells, roundsN_len]) (by rw [size_numCells, roundsN_len]; rfl) (numCells_one _ _) ?_; rw [hw2.out])
  | (refine wpList_load_row rfl 141 (.tmp 4) rfl (w.heap.size + 1) rfl 141 cb (0,0) _ hBb.out Tryz.underlying141 rfl (by rw [info_8u8, hszb.out, HBL.out]) ?_))
 clear hg; refine (hnum.out _).mono ?_; rintro e w' ⟨rfl, rfl⟩; go_wp2_with fail
 refine (permute_at (be8 b) (be8 b) rfl 64 64 rfl _ psIP _ hx64 (by omega) (tab_of (by kernel_rfl))).mono ?_; rintro e w' ⟨rfl, n0, rfl⟩; obtain ⟨x, hx⟩ : ∃ x, permN (be8 b) 64 psIP = x := ⟨_, rfl⟩; have hx64' : x < 18446744073709551616 := by rw [← hx]; exact permN_lt _ _ psIP
 rw [hx]; have HBN : Hid (blockN key b back = bytes8 (unpN ((ladderN (roundsN key) back x 16).2 * 4294967296 + (ladderN (roundsN key) back x 16).1) psIP 64)) := by rw [← hx]; rfl
 clear hx hx64
 have e2 : bits .and .u64 (x : Int) 4294967295 = (x % 4294967296 : Nat) := by
  rw [show (4294967295 : Int) = ((4294967295 : Nat) : Int) from rfl, u64_and_nat _ _ (by omega) (by omega), show (4294967295 : Nat) = 2 ^ 32 - 1 from rfl, Nat.and_two_pow_sub_one_eq_mod]
 have e1 : (x : Int) / 4294967296 = (x / 4294967296 : Nat) := by omega
 have hl0 := ladderN_lt (roundsN key) back x hx64'; obtain ⟨l0, hl0'⟩ : ∃ l0, x / 4294967296 = l0 := ⟨_, rfl⟩; obtain ⟨r0, hr0'⟩ : ∃ r0, x % 4294967296 = r0 := ⟨_, rfl⟩; rw [hl0'] at e1; rw [hr0'] at e2; have HL0 : Hid ((ladderN (roundsN key) back x 0).1 = l0) := hl0'; have HR0 : Hid ((ladderN (roundsN key) back x 0).2 = r0) := hr0'; clear hl0' hr0'; have HLT := Hh hl0; clear hl0; go_wp2
 clear e1 e2
 go_loopw [9, 10, 21] (fun l r i wr => ∃ k : Nat, k ≤ 16 ∧ i = .int .i64 k ∧ l = .int .u64 ((ladderN (roundsN key) back x k).1 : Nat) ∧ r = .int .u64 ((ladderN (roundsN key) back x k).2 : Nat) ∧ Blk wr g 192 (numCells .u64 (roundsN key)) ∧ ∃ z, Hid (z.size = 8) ∧ Blk wr (w.heap.size + 1 + 1) 141 z ∧ Below w.heap.size w wr) (fun _ _ i _ => 16 - (intOf i).toNat)
 case atStart => exact ⟨0, by omega, rfl, by rw [HL0.out], by rw [HR0.out], (hBk.out.alloc _).drewN _, z, hz, (hBz.out.alloc _).drewN _, below_drewN (hbel.out.alloc (by omega) _) _⟩
 case round =>
  obtain ⟨k, hk, rfl, rfl, rfl, hBk, z, hz, hBz, hbel⟩ := hrel; have hl := HLT.out k; have hBk := Hh hBk; have hBz := Hh hBz; have hbel := Hh hbel
  by_cases hlt : k < 16
  ·
   obtain ⟨L, hL⟩ : ∃ L, (ladderN (roundsN key) back x k).1 = L := ⟨_, rfl⟩; obtain ⟨R, hR⟩ : ∃ R, (ladderN (roundsN key) back x k).2 = R := ⟨_, rfl⟩; rw [hL, hR] at hl; rw [hL, hR]; have HP1 := Hh hL; clear hL; have HP2 := Hh hR; clear hR
   cases back with
   | false =>
    have hix : (k) < 16 := by omega
    have hkl : (k) < (roundsN key).length := by rw [roundsN_len]; exact hix
    have hcell : wr.cell? ⟨g, k, none⟩ = some (.int .u64 (((roundsN key)[k] : Nat) : Int)) := by rw [hBk.out.cell]; exact get_numCells _ _ _ hkl
    have hKl := roundsN_lt key _ (List.getElem_mem hkl); have hKd : (roundsN key).getD (k) 0 = (roundsN key)[k] := getD_of _ _ hkl; generalize (roundsN key)[k] = K at *; have HKD := Hh hKd; clear hKd; go_wp2_with fail
    refine (mix_any R K _ hl.2 hKl).mono ?_; rintro e w' ⟨rfl, n1, rfl⟩; have hm := mixN_lt R K; have hx := u64_xor_nat L (mixN R K) (by omega) (by omega); generalize hM : mixN R K = M at *; have HM := Hh hM; clear hM; have HX := Hh hx; clear hx; go_wp2
    go_roundw
    case rel => exact ⟨k + 1, by omega, by go_num, by rw [lad1 HP1.out HP2.out HKD.out HM.out], by rw [HX.out, lad2 HP1.out HP2.out HKD.out HM.out], hBk.out.drewN _, z, hz, hBz.out.drewN _, below_drewN hbel.out _⟩
    case measure => simp [intOf]; omega
   | true =>
    have hix : (15 - k) < 16 := by omega
    have hkl : (15 - k) < (roundsN key).length := by rw [roundsN_len]; exact hix
    have hcell : wr.cell? ⟨g, 15 - k, none⟩ = some (.int .u64 (((roundsN key)[15 - k] : Nat) : Int)) := by rw [hBk.out.cell]; exact get_numCells _ _ _ hkl
    have hKl := roundsN_lt key _ (List.getElem_mem hkl); have hKd : (roundsN key).getD (15 - k) 0 = (roundsN key)[15 - k] := getD_of _ _ hkl; generalize (roundsN key)[15 - k] = K at *; have HKD := Hh hKd; clear hKd; have e15 : (15 - (k : Int)).toNat = 15 - k := by omega
    go_wp2_with fail
    refine (mix_any R K _ hl.2 hKl).mono ?_; rintro e w' ⟨rfl, n1, rfl⟩; have hm := mixN_lt R K; have hx := u64_xor_nat L (mixN R K) (by omega) (by omega); generalize hM : mixN R K = M at *; have HM := Hh hM; clear hM; have HX := Hh hx; clear hx; go_wp2
    go_roundw
    case rel => exact ⟨k + 1, by omega, by go_num, by rw [lad1 HP1.out HP2.out HKD.out HM.out], by rw [HX.out, lad2 HP1.out HP2.out HKD.out HM.out], hBk.out.drewN _, z, hz, hBz.out.drewN _, below_drewN hbel.out _⟩
    case measure => simp [intOf]; omega
  ·
   have e16 : k = 16 := by omega
   subst e16; obtain ⟨L, hL⟩ : ∃ L, (ladderN (roundsN key) back x 16).1 = L := ⟨_, rfl⟩; obtain ⟨R, hR⟩ : ∃ R, (ladderN (roundsN key) back x 16).2 = R := ⟨_, rfl⟩; rw [hL, hR] at hl; have hbn := HBN.out; rw [hL, hR] at hbn; rw [hL, hR]; clear hL hR; have hbn := Hh hbn; go_wp2_with fail
   refine (unpermute_at _ (R * 4294967296 + L) (or_32 R L hl.2 hl.1) _ psIP _ (by omega) (tab_of (by kernel_rfl))).mono ?_; rintro e w' ⟨rfl, n1, rfl⟩; go_wp2_with fail
   refine (bytes_any _ (unpN_lt _ _ (tab_ip) _ lr) _).mono ?_; rintro e w3 ⟨rfl, hb3⟩; have hBz3 : Blk w3 (w.heap.size + 1 + 1) 141 z := (hBz.out.drewN n1).below hb3 hBz.out.lt; have hbel3 : Below w.heap.size w w3 := (below_drewN hbel.out n1).trans (hb3.mono (by have := hBz.out.lt; simp; omega)); go_wp2_with (refine wpList_store_row rfl 141 (.tmp 6) (.tmp 41) rfl (w.heap.size + 1 + 1) (byteCells (bytes8 (unpN (R * 4294967296 + L) psIP psIP.length))) rfl rfl 141 z hBz3 (by rw [info_8u8, size_byteCells, bytes8_len]) (by rw [size_byteCells, bytes8_len]; exact hz.out) (bytes_one _) ?_)
   refine bodyPost_ret (v := .agg (byteCells (bytes8 (unpN (R * 4294967296 + L) psIP psIP.length)))) (results_cell_row rfl _ _ (w.heap.size + 1 + 1) 141 _ (0,0) _ rfl (setRow_heap _ _ _ _ _ _ hBz3) Tryz.underlying141 rfl (by rw [info_8u8, size_byteCells, bytes8_len])) rfl ⟨by rw [hbn.out]; rfl, ?_⟩; exact below_setRow hbel3 (by omega) _
end Go.Proofs.YtfkjkkjimdilcaaGreatDoor
