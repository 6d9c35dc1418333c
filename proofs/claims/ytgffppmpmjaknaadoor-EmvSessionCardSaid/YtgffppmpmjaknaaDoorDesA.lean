/- The contract of des.permute. -/
import Derived.Test.YtgffppmpmjaknaaDoorBase
namespace Go.Proofs.YtgffppmpmjaknaaDoor
open Go Go.RowKit Pr

set_option maxHeartbeats 400000 in
theorem permute_any (x size : Nat) (tab : ByteArray) (ps : List Nat) (w : World) (hx : x < 18446744073709551616) (hsz : size ≤ 64) (ht : Tab tab size ps) :
    Calls Tryd.prog 69 #[.int .u64 x, .int .i64 size, .string tab] w fun e w' => e = .returned (.int .u64 (permN x size ps : Nat)) ∧ ∃ n, w' = w.drewN n := by
  have HT := Lib.hid ht
  have HX := Lib.hid hx; clear hx
  have hsh : tab.size ≤ 128 := by have := ht.len; have := ht.short; omega
  clear ht
  go_enter Tryd.func69, Tryd.ntmps69
  go_wp2
  go_loopw [7, 8] (fun x' i wr => ∃ j k : Nat, Hid (k = 2 * j) ∧ k ≤ tab.size ∧ i = .int .i64 k ∧ x' = .int .u64 (permN x size (ps.take j) : Nat) ∧ ∃ m, wr = w.drewN m) (fun _ i _ => tab.size - (intOf i).toNat)
  case atStart => exact ⟨0, 0, rfl, by omega, rfl, rfl, 0, rfl⟩
  case round =>
    obtain ⟨j, k, hk, hkl, rfl, rfl, m, rfl⟩ := hrel
    by_cases hlt : k < tab.size
    · obtain ⟨hj, hlt2, h1, h2, h3, h4⟩ := HT.out.at_ hk.out hlt
      have i1 := index_str (P := Tryd.prog) 9 Tryd.underlying9 tab k hlt k rfl _ h1
      have i2 := index_str (P := Tryd.prog) 9 Tryd.underlying9 tab (k+1) hlt2 ((k : Int) + 1) (by omega) _ h2
      have hn : permN x size (ps.take j) < 2 ^ j := Nat.lt_of_lt_of_le (permN_lt _ _ _) (Nat.pow_le_pow_right (by omega) (by simp; omega))
      generalize hP : permN x size (ps.take j) = P at *
      generalize hp : ps[j] = p at *
      have HP := Lib.hid hP; clear hP
      have Hp := Lib.hid hp; clear hp
      have ha : ∃ a, 48 + p / 10 = a := ⟨_, rfl⟩
      have hb : ∃ b, 48 + p % 10 = b := ⟨_, rfl⟩
      obtain ⟨a, ha⟩ := ha
      obtain ⟨b, hb⟩ := hb
      rw [ha] at i1; rw [hb] at i2
      have : 48 ≤ a := by omega
      have : a ≤ 54 := by omega
      have : 48 ≤ b := by omega
      have : b ≤ 57 := by omega
      have hpp : (a - 48 : Int) * 10 + (b - 48) = p := by omega
      have e1 : IntKind.i64.wrap ((k:Int) + 1) = k + 1 := IntWalk.i64_in _ (by omega)
      clear h1 h2 
      have Ha := Lib.hid ha; clear ha
      have Hb := Lib.hid hb; clear hb
      have Hpp := Lib.hid hpp; clear hpp
      go_wp2
      go_quiet (fail)
      rw [Hpp.out]
      go_wp2
      all_goals go_roundw
      case rel => exact ⟨j + 1, k + 2, by have := hk.out; exact (by omega : k + 2 = 2 * (j + 1)), by omega, by go_num, by
        have := hn
        have h62 : 2 ^ j ≤ 2 ^ 63 := Nat.pow_le_pow_right (by omega) (by have := HT.out.short; omega)
        rw [or_step P x _ (by omega) HX.out, List.take_succ_eq_append_getElem hj, permN_snoc, HP.out, Hp.out], _, rfl⟩
      case measure => simp [intOf]; omega
    · have hfin : ps.take j = ps := by rw [List.take_of_length_le]; have := HT.out.len; have := hk.out; omega
      have Hfin := Lib.hid hfin; clear hfin
      go_wp2
      go_ret
      exact ⟨by rw [Hfin.out]; rfl, _, rfl⟩
theorem permute_at (x : Int) (X : Nat) (hX : x = X) (sz : Int) (size : Nat) (hS : sz = size) (tab : ByteArray) (ps : List Nat) (w : World) (hx : X < 18446744073709551616) (hsz : size ≤ 64) (ht : Tab tab size ps) :
    Calls Tryd.prog 69 #[.int .u64 x, .int .i64 sz, .string tab] w fun e w' => e = .returned (.int .u64 (permN X size ps : Nat)) ∧ ∃ n, w' = w.drewN n := by
  subst hX; subst hS
  exact permute_any X size tab ps w hx hsz ht
end Go.Proofs.YtgffppmpmjaknaaDoor
