/- The contracts of des.turn, des.unpermute, des.number. -/
import Derived.Test.YtgffppmpmjaknaaDoorBase
namespace Go.Proofs.YtgffppmpmjaknaaDoor
open Go Go.RowKit Pr

set_option maxHeartbeats 400000 in
theorem turn_any (x n : Nat) (w : World) (hx : x < 268435456) (hn : n ≤ 28) :
    Calls Tryd.prog 92 #[.int .u64 x, .int .i64 n] w fun e w' => e = .returned (.int .u64 (turnN x n : Nat)) ∧ ∃ n, w' = w.drewN n := by
  have e1 : IntKind.i64.wrap (28 - (n:Int)) = 28 - n := IntWalk.i64_in _ (by omega)
  go_enter Tryd.func92, Tryd.ntmps92
  go_wp2
  go_quiet (fail)
  go_wp2
  go_ret
  exact ⟨retI (turn_eq x n hx hn), _, rfl⟩

theorem turn_at (x : Int) (X : Nat) (hX : x = X) (m : Int) (n : Nat) (hm : m = n) (w : World) (hx : X < 268435456) (hn : n ≤ 28) :
    Calls Tryd.prog 92 #[.int .u64 x, .int .i64 m] w fun e w' => e = .returned (.int .u64 (turnN X n : Nat)) ∧ ∃ n, w' = w.drewN n := by
  subst hX; subst hm
  exact turn_any X n w hx hn

set_option maxHeartbeats 400000 in
theorem unpermute_any (x : Nat) (tab : ByteArray) (ps : List Nat) (w : World) (hx : x < 18446744073709551616) (ht : Tab tab 64 ps) :
    Calls Tryd.prog 73 #[.int .u64 x, .string tab] w fun e w' => e = .returned (.int .u64 (unpN x ps ps.length : Nat)) ∧ ∃ n, w' = w.drewN n := by
  have HT := Lib.hid ht
  have HX := Lib.hid hx; clear hx
  have hsh : tab.size ≤ 128 := by have := ht.len; have := ht.short; omega
  clear ht
  go_enter Tryd.func73, Tryd.ntmps73
  go_wp2
  go_loopw [5, 6] (fun x' i wr => ∃ j k : Nat, Hid (k = 2 * j) ∧ k ≤ tab.size ∧ i = .int .i64 k ∧ x' = .int .u64 (unpN x ps j : Nat) ∧ ∃ m, wr = w.drewN m) (fun _ i _ => tab.size - (intOf i).toNat)
  case atStart => exact ⟨0, 0, rfl, by omega, rfl, rfl, 0, rfl⟩
  case round =>
    obtain ⟨j, k, hk, hkl, rfl, rfl, m, rfl⟩ := hrel
    by_cases hlt : k < tab.size
    · obtain ⟨hj, hlt2, h1, h2, h3, h4⟩ := HT.out.at_ hk.out hlt
      have i1 := index_str (P := Tryd.prog) 9 Tryd.underlying9 tab k hlt k rfl _ h1
      have i2 := index_str (P := Tryd.prog) 9 Tryd.underlying9 tab (k+1) hlt2 ((k : Int) + 1) (by omega) _ h2
      generalize hP : unpN x ps j = P at *
      generalize hp : ps[j] = p at *
      have HP := Lib.hid hP; clear hP
      have Hp := Lib.hid hp; clear hp
      obtain ⟨a, ha⟩ : ∃ a, 48 + p / 10 = a := ⟨_, rfl⟩
      obtain ⟨b, hb⟩ : ∃ b, 48 + p % 10 = b := ⟨_, rfl⟩
      rw [ha] at i1; rw [hb] at i2
      have : 48 ≤ a := by omega
      have : a ≤ 54 := by omega
      have : 48 ≤ b := by omega
      have : b ≤ 57 := by omega
      have hpp : (a - 48 : Int) * 10 + (b - 48) = p := by omega
      have e1 : IntKind.i64.wrap ((k:Int) + 1) = k + 1 := IntWalk.i64_in _ (by omega)
      clear h1 h2
      have Ha := Lib.hid ha; clear ha
      have Hb := Lib.hid hb; clear hb
      have Hpp := Lib.hid hpp; clear hpp
      go_wp2
      go_quiet (fail)
      rw [Hpp.out]
      go_wp2
      all_goals go_roundw
      case rel => exact ⟨j + 1, k + 2, by have := hk.out; exact (by omega : k + 2 = 2 * (j + 1)), by omega, by go_num, by
        have hb64 : P < 18446744073709551616 := by rw [← HP.out]; exact unpN_lt x ps HT.out.pos j (by omega)
        rw [unp_step P x _ _ hb64 HX.out (by omega), unpN, HP.out, getD_of _ _ hj, Hp.out, hk.out, show 2 * j / 2 = j by omega], _, rfl⟩
      case measure => simp [intOf]; omega
    · have hfin : j = ps.length := by have := HT.out.len; have := hk.out; omega
      have Hfin := Lib.hid hfin; clear hfin
      go_wp2
      go_ret
      exact ⟨by rw [Hfin.out]; rfl, _, rfl⟩
end Go.Proofs.YtgffppmpmjaknaaDoor
