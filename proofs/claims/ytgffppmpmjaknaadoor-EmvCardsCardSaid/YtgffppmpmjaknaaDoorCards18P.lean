/- lockboxlaw18.EmvCards: for every input the law returns true, and what is handed in reads as it did; the variable errors.errorType is tied to the program's text; no other condition. -/
import Derived.Test.YtgffppmpmjaknaaDoorDoor
import Derived.Test.YtgffppmpmjaknaaDoorCards18
import Derived.Test.YtgffppmpmjaknaaDoorOpen
namespace Go.Proofs.YtgffppmpmjaknaaDoor
open Go Go.ChangeShapes Go.WideShapes Go.ChangeAt Go.RowKit Pr

set_option maxRecDepth 100000 in
theorem cards18r_lifted (os : Os) (started : os.Started) (H : Type) (enc : TypeId × Value → H) :
    ReturnsInHanded {} Tryd.checked os 8 .any (fun w args => (Rows.emvCardsSpec.pre enc Tryd.prog Tryd.f8 [] false w args ∧ laidMetH Tryd.prog Rows.emvCardsRow.laid w) ∧ sizedMet enc Tryd.prog Tryd.f8 (OpenSpec.ofChange Rows.emvCardsSpec) false w args)
      (Rows.emvCardsSpec.post enc Tryd.prog Tryd.f8 false true false false) := by
  refine returnsInHanded_of_change_and (C := Tryd.checked) (X := fun w _ => laidMetH Tryd.prog Rows.emvCardsRow.laid w) (fun _ _ _ hh h => h.of_heap hh) own started (by kernel_rfl) Tryd.func8
    (ChangeSpec.witness_at (enc := enc) (C := Tryd.checked) (os := os) (X := fun w _ => laidMetH Tryd.prog Rows.emvCardsRow.laid w) false (laidWorld os) #[.slice none 0 0, .string ⟨#[]⟩, .string ⟨#[]⟩] 8 rfl (by kernel_rfl) (by kernel_rfl) (by kernel_rfl) (by kernel_rfl) (by kernel_rfl) (laidWorld_met os _)) ?_
  intro W base args ds gs before hval0 hW _ hsz hL _
  have hval : ∀ (j : Nat) t v, Tryd.f8.params[j]? = some t → args[j]? = some v → Value.okWide Tryd.prog W .any base t v := hval0
  have hW' := hW
  obtain ⟨p, q, hA0, hV, rfl, hfz, hnd⟩ := hW
  have hA : DataW.TrodAll enc Tryd.prog W 0 (fun _ => true) true Tryd.f8.params.toList args.toList ds p := hA0
  rw [Tryd.params8] at hA hval
  obtain ⟨v0, vs0, d0, ds0, p0, q0, hargs, rfl, rfl, h0, r0⟩ := trodAll_cons hA
  obtain ⟨v1, vs1, d1, ds1, p1, q1, rfl, rfl, rfl, h1, r1⟩ := trodAll_cons r0
  obtain ⟨v2, vs2, d2, ds2, p2, q2, rfl, rfl, rfl, h2, r2⟩ := trodAll_cons r1
  obtain ⟨rfl, rfl, rfl⟩ := trodAll_nil r2
  obtain rfl : args = #[v0, v1, v2] := by cases args; simp_all
  obtain ⟨l0, A0, c0, rfl, hb0, hc0, hat0, hn0⟩ := open_bytesS Tryd.underlying22 Tryd.underlying5 (by kernel_rfl) (hval 0 _ v0 rfl rfl) h0
  obtain ⟨s1, rfl, rfl, rfl, w1⟩ := Go.ChangeMaps.open_string Tryd.underlying9 (hval 1 _ v1 rfl rfl) h1
  obtain ⟨s2, rfl, rfl, rfl, w2⟩ := Go.ChangeMaps.open_string Tryd.underlying9 (hval 2 _ v2 rfl rfl) h2
  refine (cards18 W l0 hb0 A0 c0 hc0 (slice_le hsz 0 rfl rfl Tryd.underlying22 (by kernel_rfl) hn0) hat0 s1 (str_le hsz 1 rfl rfl) s2 (str_le hsz 2 rfl rfl) (et_of_laid hL)).mono fun e W' ⟨he, hb⟩ => ?_
  subst he
  exact ⟨_, rfl, post_law laidOut (by kernel_rfl) rfl (by kernel_rfl) Tryd.underlying4 hW' hb (fun h => by subst h; rfl)⟩

theorem cards18r_said : Rows.EmvCardsSaid :=
  OpenClaim.holds_of_wide 8 Tryd.f8 rfl rfl rfl rfl rfl rfl rfl ⟨rfl, rfl, rfl, rfl, rfl⟩ rfl rfl rfl rfl rfl (by kernel_rfl) Tryd.func8 (by kernel_rfl)
    (of_decide_eq_true (by kernel_rfl)) (by unfold Func.isWrapper; first | (rw [if_pos (by decide +kernel)]; kernel_rfl) | (rw [if_neg (by decide +kernel)]; exact ⟨rfl, rfl⟩))
    (fun os started H enc _ => cards18r_lifted os started H enc)

theorem cards18r_plain (f : FuncId) (fn : Func) (hf : Tryd.pinned.checked.prog.funcNamed "lockbox/lockboxlaw18.EmvCards" = some f) (hfn : Tryd.pinned.checked.prog.funcs[f]? = some fn) :
    true = Tryd.pinned.checked.prog.looks [] ∧ ∀ (j : Nat) t, fn.params[j]? = some t → Tryd.pinned.checked.prog.wantsStandIn t = false := by
  obtain rfl : f = 8 := Option.some.inj ((show Tryd.prog.funcNamed "lockbox/lockboxlaw18.EmvCards" = some 8 by kernel_rfl).symm.trans hf) |>.symm
  obtain rfl : fn = Tryd.f8 := (Option.some.inj (Tryd.func8.symm.trans hfn)).symm
  refine ⟨by kernel_rfl, fun j t ht => ?_⟩
  rw [Tryd.params8] at ht
  have h := Array.mem_of_getElem? ht
  have h2 : t = 22 ∨ t = 9 := by simpa using h
  rcases h2 with rfl | rfl
  · exact (show Tryd.prog.wantsStandIn 22 = false by kernel_rfl)
  · exact (show Tryd.prog.wantsStandIn 9 = false by kernel_rfl)

/-- THE CARD -/
theorem cards18r_card : Rows.EmvCardsCardSaid :=
  Claim7.holds_tied_plain_at .later [] _ _ _ _ cards18r_said (fun _ h => by cases h) (by kernel_rfl) (fun _ h => by cases h) emvCards_row_tie rfl ⟨rfl, rfl⟩ (by kernel_rfl) rfl cards18r_plain (by kernel_rfl)
#print axioms cards18r_card
end Go.Proofs.YtgffppmpmjaknaaDoor
