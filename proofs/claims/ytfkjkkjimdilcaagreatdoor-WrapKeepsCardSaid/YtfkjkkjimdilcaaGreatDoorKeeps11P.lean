/- lockboxlaw11.WrapKeeps: for every input the law returns true, and what is handed in reads as it did; the variable errors.errorType is tied to the program's text; no other condition. -/
import Derived.Test.YtfkjkkjimdilcaaGreatDoorDoor
import Derived.Test.YtfkjkkjimdilcaaGreatDoorKeeps11
import Derived.Test.YtfkjkkjimdilcaaGreatDoorOpen
namespace Go.Proofs.YtfkjkkjimdilcaaGreatDoor
open Go Go.ChangeShapes Go.WideShapes Go.ChangeAt Go.RowKit Pr

set_option maxRecDepth 100000 in
theorem keeps11r_lifted (os : Os) (started : os.Started) (H : Type) (enc : TypeId × Value → H) :
    ReturnsInHanded {} Tryz.checked os 4 .any (fun w args => (Rows.wrapKeepsSpec.pre enc Tryz.prog Tryz.f4 [] false w args ∧ laidMetH Tryz.prog Rows.wrapKeepsRow.laid w) ∧ sizedMet enc Tryz.prog Tryz.f4 (OpenSpec.ofChange Rows.wrapKeepsSpec) false w args)
      (Rows.wrapKeepsSpec.post enc Tryz.prog Tryz.f4 false true false false) := by
  refine returnsInHanded_of_change_and (C := Tryz.checked) (X := fun w _ => laidMetH Tryz.prog Rows.wrapKeepsRow.laid w) (fun _ _ _ hh h => h.of_heap hh) own started (by kernel_rfl) Tryz.func4
    (ChangeSpec.witness_at (enc := enc) (C := Tryz.checked) (os := os) (X := fun w _ => laidMetH Tryz.prog Rows.wrapKeepsRow.laid w) false (laidWorld os) #[.slice none 0 0, .slice none 0 0] 8 rfl (by kernel_rfl) (by kernel_rfl) (by kernel_rfl) (by kernel_rfl) (by kernel_rfl) (laidWorld_met os _)) ?_
  intro W base args ds gs before hval0 hW _ hsz hL _
  have hval : ∀ (j : Nat) t v, Tryz.f4.params[j]? = some t → args[j]? = some v → Value.okWide Tryz.prog W .any base t v := hval0
  have hW' := hW
  obtain ⟨p, q, hA0, hV, rfl, hfz, hnd⟩ := hW
  have hA : DataW.TrodAll enc Tryz.prog W 0 (fun _ => true) true Tryz.f4.params.toList args.toList ds p := hA0
  rw [Tryz.params4] at hA hval
  obtain ⟨v0, vs0, d0, ds0, p0, q0, hargs, rfl, rfl, h0, r0⟩ := trodAll_cons hA
  obtain ⟨v1, vs1, d1, ds1, p1, q1, rfl, rfl, rfl, h1, r1⟩ := trodAll_cons r0
  obtain ⟨rfl, rfl, rfl⟩ := trodAll_nil r1
  obtain rfl : args = #[v0, v1] := by cases args; simp_all
  obtain ⟨l0, A0, c0, rfl, hb0, hc0, hat0, hn0⟩ := open_bytesS Tryz.underlying22 Tryz.underlying5 (by kernel_rfl) (hval 0 _ v0 rfl rfl) h0
  obtain ⟨l1, A1, c1, rfl, hb1, hc1, hat1, hn1⟩ := open_bytesS Tryz.underlying22 Tryz.underlying5 (by kernel_rfl) (hval 1 _ v1 rfl rfl) h1
  refine (keeps11 W l0 hb0 A0 c0 hc0 (slice_le hsz 0 rfl rfl Tryz.underlying22 (by kernel_rfl) hn0) hat0 l1 hb1 A1 c1 hc1 (slice_le hsz 1 rfl rfl Tryz.underlying22 (by kernel_rfl) hn1) hat1 (et_of_laid hL) (tab_of_laid hL)).mono fun e W' ⟨he, hb⟩ => ?_
  subst he
  exact ⟨_, rfl, post_law laidOut (by kernel_rfl) rfl (by kernel_rfl) Tryz.underlying4 hW' hb (fun h => by subst h; rfl)⟩

theorem keeps11r_said : Rows.WrapKeepsSaid :=
  OpenClaim.holds_of_wide 4 Tryz.f4 rfl rfl rfl rfl rfl rfl rfl ⟨rfl, rfl, rfl, rfl, rfl⟩ rfl rfl rfl rfl rfl (by kernel_rfl) Tryz.func4 (by kernel_rfl)
    (of_decide_eq_true (by kernel_rfl)) (by unfold Func.isWrapper; first | (rw [if_pos (by decide +kernel)]; kernel_rfl) | (rw [if_neg (by decide +kernel)]; exact ⟨rfl, rfl⟩))
    (fun os started H enc _ => keeps11r_lifted os started H enc)

theorem keeps11r_plain (f : FuncId) (fn : Func) (hf : Tryz.pinned.checked.prog.funcNamed "lockbox/lockboxlaw11.WrapKeeps" = some f) (hfn : Tryz.pinned.checked.prog.funcs[f]? = some fn) :
    true = Tryz.pinned.checked.prog.looks [] ∧ ∀ (j : Nat) t, fn.params[j]? = some t → Tryz.pinned.checked.prog.wantsStandIn t = false := by
  obtain rfl : f = 4 := Option.some.inj ((show Tryz.prog.funcNamed "lockbox/lockboxlaw11.WrapKeeps" = some 4 by kernel_rfl).symm.trans hf) |>.symm
  obtain rfl : fn = Tryz.f4 := (Option.some.inj (Tryz.func4.symm.trans hfn)).symm
  refine ⟨by kernel_rfl, fun j t ht => ?_⟩
  rw [Tryz.params4] at ht
  have h := Array.mem_of_getElem? ht
  have h2 : t = 22 := by simpa using h
  subst h2
  exact (show Tryz.prog.wantsStandIn 22 = false by kernel_rfl)

/-- THE CARD -/
theorem keeps11r_card : Rows.WrapKeepsCardSaid :=
  Claim7.holds_tied_plain_at .later [] _ _ _ _ keeps11r_said (fun _ h => by cases h) (by kernel_rfl) (fun _ h => by cases h) wrapKeeps_row_tie rfl ⟨rfl, rfl⟩ (by kernel_rfl) rfl keeps11r_plain (by kernel_rfl)
#print axioms keeps11r_card
end Go.Proofs.YtfkjkkjimdilcaaGreatDoor
