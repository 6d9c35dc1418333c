/- lockboxlaw11.WrapSpoilt: for every input the law returns true, and what is handed in reads as it did; the variable errors.errorType is tied to the program's text; no other condition. -/
import Derived.Test.YtfkjkkjimdilcaaGreatDoorQDoor
import Derived.Test.YtfkjkkjimdilcaaGreatDoorQFIN
import Derived.Test.YtfkjkkjimdilcaaGreatDoorQOpen
namespace Go.Proofs.YtfkjkkjimdilcaaGreatDoor
open Go Go.ChangeShapes Go.WideShapes Go.ChangeAt Go.RowKit Pr

set_option maxRecDepth 100000 in
theorem spoilt11r_lifted (os : Os) (started : os.Started) (H : Type) (enc : TypeId × Value → H) :
    ReturnsInHanded {} Tryz.checked os 9 .any (fun w args => (Rows.wrapSpoiltSpec.pre enc Tryz.prog Tryz.f9 [] false w args ∧ laidMetH Tryz.prog Rows.wrapSpoiltRow.laid w) ∧ sizedMet enc Tryz.prog Tryz.f9 (OpenSpec.ofChange Rows.wrapSpoiltSpec) false w args)
     (Rows.wrapSpoiltSpec.post enc Tryz.prog Tryz.f9 false true false false) := by
 refine returnsInHanded_of_change_and (C := Tryz.checked) (X := fun w _ => laidMetH Tryz.prog Rows.wrapSpoiltRow.laid w) (fun _ _ _ hh h => h.of_heap hh) own started (by kernel_rfl) Tryz.func9
  (ChangeSpec.witness_at (enc := enc) (C := Tryz.checked) (os := os) (X := fun w _ => laidMetH Tryz.prog Rows.wrapSpoiltRow.laid w) false (laidWorld os) #[.slice none 0 0, .agg #[.int .u8 0, .string ⟨#[]⟩, .int .u8 0, .int .u8 0, .string ⟨#[]⟩, .int .u8 0], .slice none 0 0, .int .u8 0, .int .u8 0] 8 rfl (by kernel_rfl) (by kernel_rfl) (by kernel_rfl) (by kernel_rfl) (by kernel_rfl) (laidWorld_met os _)) ?_
 intro W base args ds gs before hval0 hW _ hsz hL _; have hval : ∀ (j : Nat) t v, Tryz.f9.params[j]? = some t → args[j]? = some v → Value.okWide Tryz.prog W .any base t v := hval0; have hW' := hW; obtain ⟨p, q, hA0, hV, rfl, hfz, hnd⟩ := hW; have hA : DataW.TrodAll enc Tryz.prog W 0 (fun _ => true) true Tryz.f9.params.toList args.toList ds p := hA0; rw [Tryz.params9] at hA hval; obtain ⟨v0, vs0, d0, ds0, p0, q0, hargs, rfl, rfl, h0, r0⟩ := trodAll_cons hA; obtain ⟨v1, vs1, d1, ds1, p1, q1, rfl, rfl, rfl, h1, r1⟩ := trodAll_cons r0; obtain ⟨v2, vs2, d2, ds2, p2, q2, rfl, rfl, rfl, h2, r2⟩ := trodAll_cons r1; obtain ⟨v3, vs3, d3, ds3, p3, q3, rfl, rfl, rfl, h3, r3⟩ := trodAll_cons r2; obtain ⟨v4, vs4, d4, ds4, p4, q4, rfl, rfl, rfl, h4, r4⟩ := trodAll_cons r3; obtain ⟨rfl, rfl, rfl⟩ := trodAll_nil r4; obtain rfl : args = #[v0, v1, v2, v3, v4] := by cases args; simp_all
 obtain ⟨l0, A0, c0, rfl, hb0, hc0, hat0, hn0⟩ := open_bytesS Tryz.underlying22 Tryz.underlying5 (by kernel_rfl) (hval 0 _ v0 rfl rfl) h0; obtain ⟨s1, rfl, rfl, rfl⟩ := open_headP Tryz.underlying24 Tryz.underlying5 Tryz.underlying9 cells_head cells_byte cells_string ⟨rfl, rfl⟩ ⟨rfl, rfl⟩ ⟨rfl, rfl⟩ ⟨rfl, rfl⟩ ⟨rfl, rfl⟩ ⟨rfl, rfl⟩ (hval 1 _ v1 rfl rfl) h1; obtain ⟨l2, A2, c2, rfl, hb2, hc2, hat2, hn2⟩ := open_bytesS Tryz.underlying22 Tryz.underlying5 (by kernel_rfl) (hval 2 _ v2 rfl rfl) h2; obtain ⟨m3, rfl, rfl, rfl, w3⟩ := open_int Tryz.underlying5 (hval 3 _ v3 rfl rfl) h3; obtain ⟨n3, rfl, hn3⟩ := wf_u8 w3; obtain ⟨m4, rfl, rfl, rfl, w4⟩ := open_int Tryz.underlying5 (hval 4 _ v4 rfl rfl) h4; obtain ⟨n4, rfl, hn4⟩ := wf_u8 w4; refine (spoilt11 W l0 hb0 A0 c0 hc0 (slice_le hsz 0 rfl rfl Tryz.underlying22 (by kernel_rfl) hn0) hat0 s1 (head_le hsz 1 rfl rfl).1 (head_le hsz 1 rfl rfl).2 l2 hb2 A2 c2 hc2 (slice_le hsz 2 rfl rfl Tryz.underlying22 (by kernel_rfl) hn2) hat2 n3 hn3 n4 hn4 (et_of_laid hL) (tab_of_laid hL)).mono fun e W' ⟨he, hb⟩ => ?_; subst he; exact ⟨_, rfl, post_law laidOut (by kernel_rfl) rfl (by kernel_rfl) Tryz.underlying4 hW' hb (fun h => by subst h; rfl)⟩

theorem spoilt11r_said : Rows.WrapSpoiltSaid :=
 OpenClaim.holds_of_wide 9 Tryz.f9 rfl rfl rfl rfl rfl rfl rfl ⟨rfl, rfl, rfl, rfl, rfl⟩ rfl rfl rfl rfl rfl (by kernel_rfl) Tryz.func9 (by kernel_rfl)
  (of_decide_eq_true (by kernel_rfl)) (by unfold Func.isWrapper; first | (rw [if_pos (by decide +kernel)]; kernel_rfl) | (rw [if_neg (by decide +kernel)]; exact ⟨rfl, rfl⟩))
  (fun os started H enc _ => spoilt11r_lifted os started H enc)

theorem spoilt11r_plain (f : FuncId) (fn : Func) (hf : Tryz.pinned.checked.prog.funcNamed "lockbox/lockboxlaw11.WrapSpoilt" = some f) (hfn : Tryz.pinned.checked.prog.funcs[f]? = some fn) :
    true = Tryz.pinned.checked.prog.looks [] ∧ ∀ (j : Nat) t, fn.params[j]? = some t → Tryz.pinned.checked.prog.wantsStandIn t = false := by
 obtain rfl : f = 9 := Option.some.inj ((show Tryz.prog.funcNamed "lockbox/lockboxlaw11.WrapSpoilt" = some 9 by kernel_rfl).symm.trans hf) |>.symm
 obtain rfl : fn = Tryz.f9 := (Option.some.inj (Tryz.func9.symm.trans hfn)).symm; refine ⟨by kernel_rfl, fun j t ht => ?_⟩; rw [Tryz.params9] at ht; have h := Array.mem_of_getElem? ht; have h2 : t = 22 ∨ t = 24 ∨ t = 5 := by simp at h; rcases h with rfl | rfl | rfl | rfl <;> simp
 rcases h2 with rfl | rfl | rfl
 ·
  exact (show Tryz.prog.wantsStandIn 22 = false by kernel_rfl)
 ·
  exact (show Tryz.prog.wantsStandIn 24 = false by kernel_rfl)
 ·
  exact (show Tryz.prog.wantsStandIn 5 = false by kernel_rfl)

/-- THE CARD -/
theorem spoilt11r_card : Rows.WrapSpoiltCardSaid :=
 Claim7.holds_tied_plain_at .later [] _ _ _ _ spoilt11r_said (fun _ h => by cases h) (by kernel_rfl) (fun _ h => by cases h) wrapSpoilt_row_tie rfl ⟨rfl, rfl⟩ (by kernel_rfl) rfl spoilt11r_plain (by kernel_rfl)
#print axioms spoilt11r_card
end Go.Proofs.YtfkjkkjimdilcaaGreatDoor
