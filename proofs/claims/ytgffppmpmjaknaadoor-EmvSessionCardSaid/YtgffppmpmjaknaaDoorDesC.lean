/- The contracts of des.box, des.mix. -/
import Derived.Test.YtgffppmpmjaknaaDoorDesA
namespace Go.Proofs.YtgffppmpmjaknaaDoor
open Go Go.RowKit Pr

theorem info_str : (Tryd.prog.info? 9).map (·.size) = some 1 := by kernel_rfl

theorem boxes_at (i : Nat) (hi : i < 8) (W : World) : (Instr.index 156 (.agg #[Value.string { data := #[101, 52, 100, 49, 50, 102, 98, 56, 51, 97, 54, 99, 53, 57, 48, 55, 48, 102, 55, 52, 101, 50, 100, 49, 97, 54, 99, 98, 57, 53, 51, 56, 52, 49, 101, 56, 100, 54, 50, 98, 102, 99, 57, 55, 51, 97, 53, 48, 102, 99, 56, 50, 52, 57, 49, 55, 53, 98, 51, 101, 97, 48, 54, 100] }, Value.string { data := #[102, 49, 56, 101, 54, 98, 51, 52, 57, 55, 50, 100, 99, 48, 53, 97, 51, 100, 52, 55, 102, 50, 56, 101, 99, 48, 49, 97, 54, 57, 98, 53, 48, 101, 55, 98, 97, 52, 100, 49, 53, 56, 99, 54, 57, 51, 50, 102, 100, 56, 97, 49, 51, 102, 52, 50, 98, 54, 55, 99, 48, 53, 101, 57] }, Value.string { data := #[97, 48, 57, 101, 54, 51, 102, 53, 49, 100, 99, 55, 98, 52, 50, 56, 100, 55, 48, 57, 51, 52, 54, 97, 50, 56, 53, 101, 99, 98, 102, 49, 100, 54, 52, 57, 56, 102, 51, 48, 98, 49, 50, 99, 53, 97, 101, 55, 49, 97, 100, 48, 54, 57, 56, 55, 52, 102, 101, 51, 98, 53, 50, 99] }, Value.string { data := #[55, 100, 101, 51, 48, 54, 57, 97, 49, 50, 56, 53, 98, 99, 52, 102, 100, 56, 98, 53, 54, 102, 48, 51, 52, 55, 50, 99, 49, 97, 101, 57, 97, 54, 57, 48, 99, 98, 55, 100, 102, 49, 51, 101, 53, 50, 56, 52, 51, 102, 48, 54, 97, 49, 100, 56, 57, 52, 53, 98, 99, 55, 50, 101] }, Value.string { data := #[50, 99, 52, 49, 55, 97, 98, 54, 56, 53, 51, 102, 100, 48, 101, 57, 101, 98, 50, 99, 52, 55, 100, 49, 53, 48, 102, 97, 51, 57, 56, 54, 52, 50, 49, 98, 97, 100, 55, 56, 102, 57, 99, 53, 54, 51, 48, 101, 98, 56, 99, 55, 49, 101, 50, 100, 54, 102, 48, 57, 97, 52, 53, 51] }, Value.string { data := #[99, 49, 97, 102, 57, 50, 54, 56, 48, 100, 51, 52, 101, 55, 53, 98, 97, 102, 52, 50, 55, 99, 57, 53, 54, 49, 100, 101, 48, 98, 51, 56, 57, 101, 102, 53, 50, 56, 99, 51, 55, 48, 52, 97, 49, 100, 98, 54, 52, 51, 50, 99, 57, 53, 102, 97, 98, 101, 49, 55, 54, 48, 56, 100] }, Value.string { data := #[52, 98, 50, 101, 102, 48, 56, 100, 51, 99, 57, 55, 53, 97, 54, 49, 100, 48, 98, 55, 52, 57, 49, 97, 101, 51, 53, 99, 50, 102, 56, 54, 49, 52, 98, 100, 99, 51, 55, 101, 97, 102, 54, 56, 48, 53, 57, 50, 54, 98, 100, 56, 49, 52, 97, 55, 57, 53, 48, 102, 101, 50, 51, 99] }, Value.string { data := #[100, 50, 56, 52, 54, 102, 98, 49, 97, 57, 51, 101, 53, 48, 99, 55, 49, 102, 100, 56, 97, 51, 55, 52, 99, 53, 54, 98, 48, 101, 57, 50, 55, 98, 52, 49, 57, 99, 101, 50, 48, 54, 97, 100, 102, 51, 53, 56, 50, 49, 101, 55, 52, 97, 56, 100, 102, 99, 57, 48, 51, 53, 54, 98] }]) (.int .i64 i)).run Tryd.prog W = .ok (.string (boxS i)) W := by
  refine index_agg _ 9 8 _ Tryd.underlying156 info_str (by kernel_rfl) (by kernel_rfl) i hi .i64 i rfl _ ?_ W
  rcases (by omega : i = 0 ∨ i = 1 ∨ i = 2 ∨ i = 3 ∨ i = 4 ∨ i = 5 ∨ i = 6 ∨ i = 7) with rfl | rfl | rfl | rfl | rfl | rfl | rfl | rfl <;> rfl

set_option maxHeartbeats 1000000 in
theorem box_any (i six : Nat) (w : World) (hi : i < 8) (hs : six < 64) :
    Calls Tryd.prog 93 #[.int .i64 i, .int .u64 six] w fun e w' => e = .returned (.int .u64 (boxN i six : Nat)) ∧ w = w' := by
  have hix := boxes_at i hi
  have hsz := boxS_size i hi
  obtain ⟨a1, h1⟩ : ∃ a, six / 16 &&& 2 = a := ⟨_, rfl⟩
  obtain ⟨a2, h2⟩ : ∃ a, six &&& 1 = a := ⟨_, rfl⟩
  obtain ⟨a3, h3⟩ : ∃ a, a1 ||| a2 = a := ⟨_, rfl⟩
  obtain ⟨a4, h4⟩ : ∃ a, six / 2 &&& 15 = a := ⟨_, rfl⟩
  have b1 : a1 ≤ 2 := by rw [← h1]; exact Nat.and_le_right
  have b2 : a2 ≤ 1 := by rw [← h2]; exact Nat.and_le_right
  have b3 : a3 < 2 ^ 2 := by rw [← h3]; exact Nat.or_lt_two_pow (by omega) (by omega)
  have b4 : a4 ≤ 15 := by rw [← h4]; exact Nat.and_le_right
  have e1 : bits .and .u64 ((six : Int) / 16) 2 = a1 := by rw [← h1]; exact and_c (six / 16) 2 (by omega) (by omega)
  have e2 : bits .and .u64 (six : Int) 1 = a2 := by rw [← h2]; exact and_c six 1 (by omega) (by omega)
  have e3 : bits .or .u64 (a1 : Int) a2 = a3 := by rw [← h3]; exact u64_or_nat a1 a2 (by omega) (by omega)
  have e4 : bits .and .u64 ((six : Int) / 2) 15 = a4 := by rw [← h4]; exact and_c (six / 2) 15 (by omega) (by omega)
  have hlt : a3 * 16 + a4 < (boxS i).size := by omega
  have hd := boxS_dig i hi (a3 * 16 + a4) (by omega)
  rw [tb_of hlt] at hd
  have hbox : boxN i six = (boxes.getD i []).getD (a3 * 16 + a4) 0 := by
    unfold boxN
    rw [h1, h2, h3, ← h4, show (15 : Nat) = 2 ^ 4 - 1 from rfl, Nat.and_two_pow_sub_one_eq_mod]
  rw [hbox]
  generalize (boxes.getD i []).getD (a3 * 16 + a4) 0 = d at *
  obtain ⟨c, hc⟩ : ∃ c, (if d < 10 then 48 + d else 87 + d) = c := ⟨_, rfl⟩
  have i2 := index_str (P := Tryd.prog) 9 Tryd.underlying9 (boxS i) (a3 * 16 + a4) hlt ((a3 : Int) * 16 + a4) (by omega) c (by rw [hd.1, hc]) (kd := .u64)
  have hd2 := hd.2
  have : c ≤ 102 := by rw [← hc]; split <;> omega
  have : 48 ≤ c := by rw [← hc]; split <;> omega
  have Hc := Lib.hid hc; clear hc hd hbox
  clear h1 h2 h3 h4 hsz hlt
  generalize boxS i = s at *
  by_cases hc97 : 97 ≤ c
  · have hx := Hc.out
    split at hx
    · omega
    · have hy : (c : Int) - 97 + 10 = d := by omega
      clear hx
      have Hy := Lib.hid hy; clear hy
      go_enter Tryd.func93, Tryd.ntmps93
      go_wp2
      go_ret
      exact ⟨retI Hy.out, rfl⟩
  · have hx := Hc.out
    split at hx
    · have hy : (c : Int) - 48 = d := by omega
      clear hx
      have Hy := Lib.hid hy; clear hy
      go_enter Tryd.func93, Tryd.ntmps93
      go_wp2
      go_ret
      exact ⟨retI Hy.out, rfl⟩
    · omega

theorem and_63 (x n : Nat) (hx : x < 18446744073709551616) : bits .and .u64 ((x : Int) / 2 ^ n) 63 = ((x / 2 ^ n % 64 : Nat) : Int) := by
  have hX : x / 2 ^ n < 18446744073709551616 := Nat.lt_of_le_of_lt (Nat.div_le_self _ _) hx
  rw [show ((x : Int) / 2 ^ n) = ((x / 2 ^ n : Nat) : Int) by simp, show (63 : Int) = ((63 : Nat) : Int) from rfl, u64_and_nat _ _ hX (by omega)]
  rw [show (63 : Nat) = 2 ^ 6 - 1 from rfl, Nat.and_two_pow_sub_one_eq_mod]

theorem six_eq (W key k : Nat) (hW : W < 18446744073709551616) (hk : key < 18446744073709551616) :
    bits .xor .u64 (bits .and .u64 ((W : Int) / 2 ^ (28 - 4 * k)) 63) (bits .and .u64 ((key : Int) / 2 ^ (42 - 6 * k)) 63) = (((W / 2 ^ (28 - 4 * k) % 64) ^^^ (key / 2 ^ (42 - 6 * k) % 64) : Nat) : Int) := by
  rw [and_63 _ _ hW, and_63 _ _ hk, u64_xor_nat _ _ (by omega) (by omega)]

theorem or_16 (P b : Nat) (hP : P < 268435456) (hb : b < 16) : bits .or .u64 ((P : Int) * 16) (b : Int) = ((P * 16 + b : Nat) : Int) := by
  rw [show ((P : Int) * 16) = ((P * 16 : Nat) : Int) by simp, u64_or_nat _ _ (by omega) (by omega), show P * 16 ||| b = P * 16 + b by
    rw [show P * 16 = 2 ^ 4 * P by omega, ← Nat.two_pow_add_eq_or_of_lt (by omega)]]

theorem wide_eq (half : Nat) (h : half < 4294967296) : half % 2 * 8589934592 ||| half * 2 ||| half / 2147483648 = wideN half := by
  unfold wideN
  have h1 : half / 2147483648 < 2 ^ 1 := by omega
  have h2 : half * 2 + half / 2147483648 < 2 ^ 33 := by omega
  rw [Nat.or_assoc, show half * 2 ||| half / 2147483648 = half * 2 + half / 2147483648 by
    rw [show half * 2 = 2 ^ 1 * half by omega, ← Nat.two_pow_add_eq_or_of_lt h1]]
  rw [show half % 2 * 8589934592 = 2 ^ 33 * (half % 2) by omega, ← Nat.two_pow_add_eq_or_of_lt h2]
  omega

set_option maxHeartbeats 1000000 in
theorem mix_any (half key : Nat) (w : World) (hh : half < 4294967296) (hk : key < 18446744073709551616) :
    Calls Tryd.prog 71 #[.int .u64 half, .int .u64 key] w fun e w' => e = .returned (.int .u64 (mixN half key : Nat)) ∧ ∃ n, w' = w.drewN n := by
  obtain ⟨a1, h1⟩ : ∃ a, half % 2 = a := ⟨_, rfl⟩
  obtain ⟨a2, h2⟩ : ∃ a, a1 * 8589934592 ||| half * 2 = a := ⟨_, rfl⟩
  obtain ⟨W, hW⟩ : ∃ a, a2 ||| half / 2147483648 = a := ⟨_, rfl⟩
  have b1 : a1 ≤ 1 := by omega
  have b2 : a2 < 2 ^ 34 := by rw [← h2]; exact Nat.or_lt_two_pow (by omega) (by omega)
  have b3 : W < 2 ^ 34 := by rw [← hW]; exact Nat.or_lt_two_pow (by omega) (by omega)
  have e1 : bits .and .u64 (half : Int) 1 = a1 := by rw [← h1, ← Nat.and_one_is_mod]; exact and_c half 1 (by omega) (by omega)
  have e2 : bits .or .u64 ((a1 : Int) * 8589934592) ((half : Int) * 2) = a2 := by rw [← h2]; exact u64_or_nat (a1 * 8589934592) (half * 2) (by omega) (by omega)
  have e3 : bits .or .u64 (a2 : Int) ((half : Int) / 2147483648) = W := by rw [← hW]; exact u64_or_nat a2 (half / 2147483648) (by omega) (by omega)
  have hWw : W = wideN half := by rw [← wide_eq half hh, h1, h2, hW]
  have HW := Lib.hid hWw; clear hWw
  clear h1 h2 hW
  go_enter Tryd.func71, Tryd.ntmps71
  go_wp2
  clear e1 e2 e3
  go_loopw [5, 18] (fun x i wr => ∃ k : Nat, k ≤ 8 ∧ i = .int .i64 k ∧ x = .int .u64 (mixB half key k : Nat) ∧ ∃ m, wr = w.drewN m) (fun _ i _ => 8 - (intOf i).toNat)
  case atStart => exact ⟨0, by omega, rfl, rfl, 0, rfl⟩
  case round =>
    obtain ⟨k, hk8, rfl, rfl, m, rfl⟩ := hrel
    have hlt := mixB_lt half key k hk8
    have hlt7 : k < 8 → mixB half key k < 268435456 := fun h => Nat.lt_of_lt_of_le hlt (Nat.le_trans (Nat.pow_le_pow_right (by omega) (show k ≤ 7 by omega)) (by decide))
    have hlt8 : mixB half key k < 4294967296 := Nat.lt_of_lt_of_le hlt (Nat.le_trans (Nat.pow_le_pow_right (by omega) hk8) (by decide))
    clear hlt
    by_cases hlt : k < 8
    · have hb := hlt7 hlt
      clear hlt7 hlt8
      generalize hP : mixB half key k = P at *
      have HP := Lib.hid hP; clear hP
      go_wp2
      go_quiet (fail)
      rw [six_eq W key k (by omega) hk]
      obtain ⟨s, hs⟩ : ∃ s, (W / 2 ^ (28 - 4 * k) % 64) ^^^ (key / 2 ^ (42 - 6 * k) % 64) = s := ⟨_, rfl⟩
      have hs64 : s < 64 := by rw [← hs]; exact Nat.xor_lt_two_pow (n := 6) (Nat.mod_lt _ (by omega)) (Nat.mod_lt _ (by omega))
      rw [hs]
      have HS : Hid (s = sixN half key k) := by rw [← hs, HW.out]; rfl
      clear hs
      have hb16 := boxN_lt k s hlt hs64
      go_wp2_with (go_at_call 93; refine (box_any _ _ _ hlt hs64).mono ?_; rintro e w' ⟨rfl, rfl⟩)
      go_roundw
      case rel => exact ⟨k + 1, by omega, by go_num, by rw [or_16 _ _ hb hb16, mixB, HP.out, HS.out], _, rfl⟩
      case measure => simp [intOf]; omega
    · have e8 : k = 8 := by omega
      clear hlt7
      subst e8
      generalize hP : mixB half key 8 = P at *
      have HP := Lib.hid hP; clear hP
      go_wp2_with fail
      refine (permute_at P P rfl 32 32 rfl _ psP _ (by omega) (by omega) ?ht).mono ?k
      case ht => exact tab_of (by kernel_rfl)
      case k =>
        rintro e w' ⟨rfl, n, rfl⟩
        go_wp2
        go_ret
        exact ⟨by rw [mixN, HP.out]; rfl, _, rfl⟩
end Go.Proofs.YtgffppmpmjaknaaDoor
