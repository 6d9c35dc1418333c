/- The contracts of wrap.ciphers, wrap.Wrap where something is wrong. -/
import Derived.Test.YtfkjkkjimdilcaaGreatDoorQRQG
namespace Go.Proofs.YtfkjkkjimdilcaaGreatDoor
open Go Go.RowKit Pr

set_option maxHeartbeats 2000000 in
theorem ciphers_bad (v n : Nat) (er : Er) (he : keysEr v n = er) (hne : er ≠ .ok) (hno : ∃ k, er = .no k) (A : Option Addr) (c : Nat) (w : World) :
    Calls Tryz.prog 32 #[.int .u8 v, .slice A n c] w fun e w' =>
     (∃ u, e = .returned (.tuple #[.pointer none, .pointer none, u]) ∧ ErIs w' w.heap.size u er) ∧ Below w.heap.size w w' := by
 have HK := Hh (fun W => keys_bad v n er he hne A c W); obtain ⟨k, rfl⟩ := hno
 go_enter Tryz.func32, Tryz.ntmps32
 go_wp2_with fail
 refine (HK.out _).mono ?_; rintro e w1 ⟨⟨u, rfl, hu⟩, hb1⟩; obtain rfl : u = .iface 64 (.int .i64 (k : Int)) := hu; go_wp2
 go_ret3
 exact ⟨⟨_, rfl, rfl⟩, hb1⟩
theorem keysEr_no {v n : Nat} {er : Er} (he : keysEr v n = er) (hne : er ≠ .ok) : ∃ k : Nat, er = .no k ∧ (k = 1 ∨ k = 2) := by
 unfold keysEr at he
 split at he
 ·
  exact ⟨1, he.symm, .inl rfl⟩
 ·
  split at he
  ·
   exact ⟨2, he.symm, .inr rfl⟩
  ·
   exact absurd he.symm hne

end Go.Proofs.YtfkjkkjimdilcaaGreatDoor
