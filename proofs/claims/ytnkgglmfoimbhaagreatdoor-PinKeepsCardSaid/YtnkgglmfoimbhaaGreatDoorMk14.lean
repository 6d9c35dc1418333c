/- What pin.Make answers: lengths, bytes. -/
import Derived.Test.YtnkgglmfoimbhaaGreatDoorLaw14
namespace Go.Proofs.YtnkgglmfoimbhaaGreatDoor
open Go Go.RowKit Pr

theorem eq_z8 (W : World) : (Op.equalIn 10000 38 (.agg #[.int .u8 0, .int .u8 0, .int .u8 0, .int .u8 0, .int .u8 0, .int .u8 0, .int .u8 0, .int .u8 0]) (.agg #[.int .u8 0, .int .u8 0, .int .u8 0, .int .u8 0, .int .u8 0, .int .u8 0, .int .u8 0, .int .u8 0])).run Tryz.prog W = .ok true W := by
  have := eqBytes (P := Tryz.prog) W 38 5 8 Tryz.underlying38 Tryz.underlying5 (fun w => size_u8 info_u8 w) z8 z8 rfl rfl (by decide) (by decide)
  rw [show decide (z8 = z8) = true from decide_eq_true rfl] at this
  exact this
theorem makeVal_len (f : Int) (p a : List UInt8) (fill : List Nat) : (makeVal f p a fill).length = 8 := by
  unfold makeVal
  split
  · exact makeD_len _ _ _ _
  · rfl
theorem decEr_dec {s : List UInt8} {lo hi : Nat} (h : decEr s lo hi = .ok) : lo ≤ s.length ∧ s.length ≤ hi ∧ ∀ c ∈ s, isDec c = true := by
  unfold decEr at h
  split at h
  · cases h
  · rename_i h1
    split at h
    · cases h
    · rename_i h2
      exact ⟨by omega, by omega, all_of_badAt h2⟩
theorem bothEr_dec {p a : List UInt8} (h : bothEr p a = .ok) : (4 ≤ p.length ∧ p.length ≤ 12 ∧ ∀ c ∈ p, isDec c = true) ∧ (13 ≤ a.length ∧ a.length ≤ 19 ∧ ∀ c ∈ a, isDec c = true) := by
  unfold bothEr at h
  split at h
  · rename_i hp
    exact ⟨decEr_dec hp, decEr_dec h⟩
  · rename_i hp
    exact absurd h hp
theorem makeVal_lt (f : Int) (p a : List UInt8) (fill : List Nat) (hfb : ∀ c ∈ fill, c < 256) : ∀ c ∈ makeVal f p a fill, c < 256 := by
  unfold makeVal
  split
  · rename_i h
    unfold makeEr at h
    split at h
    · rename_i hf
      obtain ⟨⟨_, h12, hp⟩, ⟨_, _, ha⟩⟩ := bothEr_dec h
      unfold makeD
      exact packN_lt _ (turnD_lt _ _ _ ha (rawD_lt _ _ _ (by omega) (by omega) hp hfb))
    · cases h
  · decide
theorem bothEr_code {p a : List UInt8} (h : bothEr p a ≠ .ok) : (erCode (bothEr p a) != 0) = true := by
  have hd : ∀ (s : List UInt8) lo hi, decEr s lo hi ≠ .ok → (erCode (decEr s lo hi) != 0) = true := fun s lo hi hn => by
    rcases decEr_cases s lo hi with e | ⟨k, e⟩ | e
    · rw [e]; rfl
    · rw [e]; rfl
    · exact absurd e hn
  unfold bothEr at *
  split at h
  · rename_i hp
    exact hd _ _ _ h
  · rename_i hp
    exact hd p 4 12 hp

end Go.Proofs.YtnkgglmfoimbhaaGreatDoor
