/- lockboxlaw17.CvvKeeps: for every key, account, date and service code the law returns true, and what is handed in reads as it did; no condition. -/
import Derived.Test.YtgffppmpmjaknaaRow
import Derived.Test.YtgffppmpmjaknaaKeeps17
namespace Go.Proofs.Ytgffppmpmjaknaa
open Go Go.ChangeShapes Go.WideShapes Go.ChangeAt Go.RowKit Pr

theorem k17cells : Try.prog.cellsOf 22 = 16 := by kernel_rfl
theorem k17cell : Try.prog.cellsOf 5 = 1 := by kernel_rfl
theorem k17laid : laidOutB Try.prog = true := by kernel_rfl

set_option maxRecDepth 100000 in
theorem k17lifted (os : Os) (started : os.Started) (H : Type) (enc : TypeId × Value → H) :
    ReturnsInHanded {} Try.checked os 3 .any (Rows.cvvKeepsSpec.pre6 enc Try.prog Try.f3 Rows.cvvKeepsRow.domain false) (Rows.cvvKeepsSpec.post enc Try.prog Try.f3 false true false false) := by
  refine returnsInHanded_of_change_shaped (C := Try.checked) own started (by kernel_rfl) Try.func3
    (ChangeSpec.witness6 (enc := enc) (C := Try.checked) false ⟨#[], #[.agg #[.int .u8 0, .int .u8 0, .int .u8 0, .int .u8 0, .int .u8 0, .int .u8 0, .int .u8 0, .int .u8 0, .int .u8 0, .int .u8 0, .int .u8 0, .int .u8 0, .int .u8 0, .int .u8 0, .int .u8 0, .int .u8 0], .string ⟨#[]⟩, .string ⟨#[]⟩, .string ⟨#[]⟩], []⟩ 8 (by kernel_rfl) (by kernel_rfl) (by kernel_rfl) (by kernel_rfl)) ?_
  intro W base args ds gs before hval0 hW hcnd hsz _ _
  have hval : ∀ (j : Nat) t v, Try.f3.params[j]? = some t → args[j]? = some v → Value.okWide Try.prog W .any base t v := hval0
  have hW' := hW
  obtain ⟨p, q, hA0, hV, rfl, hfz, hnd⟩ := hW
  have hA : DataW.TrodAll enc Try.prog W 0 (fun _ => true) true Try.f3.params.toList args.toList ds p := hA0
  rw [Try.params3] at hA hval
  obtain ⟨v0, v1, v2, v3, d0, d1, d2, d3, p0, p1, p2, p3, rfl, rfl, rfl, h0, h1, h2, h3⟩ := trodAll_four hA
  obtain ⟨l, hl, hlb, rfl, rfl, rfl⟩ := open_bytesA Try.underlying22 Try.underlying5 k17cell k17cells (hval 0 _ v0 rfl rfl) h0
  obtain ⟨s1, rfl, rfl, rfl, w1⟩ := Go.ChangeMaps.open_string Try.underlying9 (hval 1 _ v1 rfl rfl) h1
  obtain ⟨s2, rfl, rfl, rfl, w2⟩ := Go.ChangeMaps.open_string Try.underlying9 (hval 2 _ v2 rfl rfl) h2
  obtain ⟨s3, rfl, rfl, rfl, w3⟩ := Go.ChangeMaps.open_string Try.underlying9 (hval 3 _ v3 rfl rfl) h3
  refine (keeps17 l hl hlb s1 s2 s3 (str_le hsz 1 rfl rfl) (str_le hsz 2 rfl rfl) (str_le hsz 3 rfl rfl) W).mono fun e W' ⟨he, hb⟩ => ?_
  subst he
  exact ⟨_, rfl, post_law k17laid (by kernel_rfl) rfl (by kernel_rfl) Try.underlying4 hW' hb (fun h => by subst h; rfl)⟩

theorem k17_holds : Rows.CvvKeepsSaid :=
  OpenClaim.holds_of_wide 3 Try.f3 rfl rfl rfl rfl rfl rfl rfl ⟨rfl, rfl, rfl, rfl, rfl⟩ rfl rfl rfl rfl rfl (by kernel_rfl) Try.func3 (by kernel_rfl)
    (of_decide_eq_true (by kernel_rfl)) (by unfold Func.isWrapper; first | (rw [if_pos (by decide +kernel)]; kernel_rfl) | (rw [if_neg (by decide +kernel)]; exact ⟨rfl, rfl⟩))
    (fun os started H enc _ => k17lifted os started H enc)
#print axioms k17_holds
end Go.Proofs.Ytgffppmpmjaknaa
