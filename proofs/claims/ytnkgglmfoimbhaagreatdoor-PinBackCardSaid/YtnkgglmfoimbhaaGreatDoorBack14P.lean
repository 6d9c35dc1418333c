/- lockboxlaw14.PinBack: for every input the law returns true, and what is handed in reads as it did; the listed package-level variables are tied to the program's text; no other condition. -/
import Derived.Test.YtnkgglmfoimbhaaGreatDoorDoor
import Derived.Test.YtnkgglmfoimbhaaGreatDoorBack14
namespace Go.Proofs.YtnkgglmfoimbhaaGreatDoor
open Go Go.ChangeShapes Go.WideShapes Go.ChangeAt Go.RowKit Pr

theorem back14r_none : (laid3.filter fun x => x.2.handleName?.isNone) = laid3 := by kernel_rfl
theorem back14r_met (os : Os) (args : Array Value) : laidMetH Tryz.prog laid3 ((laidWorld os).forCall (fun _ _ => 0) ⟨#[], args, []⟩).memory :=
  laidMetH_of_parts (back14r_none ▸ laidWorld_met1 os args) (by kernel_rfl)

set_option maxRecDepth 100000 in
theorem back14r_lifted (os : Os) (started : os.Started) (H : Type) (enc : TypeId × Value → H) :
    ReturnsInHanded {} Tryz.checked os 6 .any (fun w args => (Rows.pinBackSpec.pre enc Tryz.prog Tryz.f6 [] false w args ∧ laidMetH Tryz.prog Rows.pinBackRow.laid w) ∧ sizedMet enc Tryz.prog Tryz.f6 (OpenSpec.ofChange Rows.pinBackSpec) false w args)
      (Rows.pinBackSpec.post enc Tryz.prog Tryz.f6 false true false false) := by
  refine returnsInHanded_of_change_and (C := Tryz.checked) (X := fun w _ => laidMetH Tryz.prog Rows.pinBackRow.laid w) (fun _ _ _ hh h => h.of_heap hh) own started (by kernel_rfl) Tryz.func6
    (ChangeSpec.witness_at (enc := enc) (C := Tryz.checked) (os := os) (X := fun w _ => laidMetH Tryz.prog Rows.pinBackRow.laid w) false (laidWorld os) #[.int .u8 0, .string ⟨#[]⟩, .string ⟨#[]⟩, .agg #[.int .u8 0, .int .u8 0, .int .u8 0, .int .u8 0, .int .u8 0, .int .u8 0, .int .u8 0, .int .u8 0], .agg #[.int .u8 0, .int .u8 0, .int .u8 0, .int .u8 0, .int .u8 0, .int .u8 0, .int .u8 0, .int .u8 0, .int .u8 0, .int .u8 0, .int .u8 0, .int .u8 0, .int .u8 0, .int .u8 0, .int .u8 0, .int .u8 0]] 8 rfl (by kernel_rfl) (by kernel_rfl) (by kernel_rfl) (by kernel_rfl) (by kernel_rfl) (back14r_met os _)) ?_
  intro W base args ds gs before hval0 hW _ hsz hL _
  have hval : ∀ (j : Nat) t v, Tryz.f6.params[j]? = some t → args[j]? = some v → Value.okWide Tryz.prog W .any base t v := hval0
  have hW' := hW
  obtain ⟨p, q, hA0, hV, rfl, hfz, hnd⟩ := hW
  have hA : DataW.TrodAll enc Tryz.prog W 0 (fun _ => true) true Tryz.f6.params.toList args.toList ds p := hA0
  rw [Tryz.params6] at hA hval
  obtain ⟨v0, vs0, d0, ds0, p0, q0, hargs, rfl, rfl, h0, r0⟩ := trodAll_cons hA
  obtain ⟨v1, vs1, d1, ds1, p1, q1, rfl, rfl, rfl, h1, r1⟩ := trodAll_cons r0
  obtain ⟨v2, vs2, d2, ds2, p2, q2, rfl, rfl, rfl, h2, r2⟩ := trodAll_cons r1
  obtain ⟨v3, vs3, d3, ds3, p3, q3, rfl, rfl, rfl, h3, r3⟩ := trodAll_cons r2
  obtain ⟨v4, vs4, d4, ds4, p4, q4, rfl, rfl, rfl, h4, r4⟩ := trodAll_cons r3
  obtain ⟨rfl, rfl, rfl⟩ := trodAll_nil r4
  obtain rfl : args = #[v0, v1, v2, v3, v4] := by cases args; simp_all
  obtain ⟨m0, rfl, rfl, rfl, w0⟩ := open_int Tryz.underlying5 (hval 0 _ v0 rfl rfl) h0
  obtain ⟨n0, rfl, hn0⟩ := wf_u8 w0
  obtain ⟨s1, rfl, rfl, rfl, w1⟩ := Go.ChangeMaps.open_string Tryz.underlying9 (hval 1 _ v1 rfl rfl) h1
  obtain ⟨s2, rfl, rfl, rfl, w2⟩ := Go.ChangeMaps.open_string Tryz.underlying9 (hval 2 _ v2 rfl rfl) h2
  obtain ⟨l3, hl3, hb3, rfl, rfl, rfl⟩ := open_bytesA Tryz.underlying38 Tryz.underlying5 (by kernel_rfl) (by kernel_rfl) (hval 3 _ v3 rfl rfl) h3
  obtain ⟨l4, hl4, hb4, rfl, rfl, rfl⟩ := open_bytesA Tryz.underlying39 Tryz.underlying5 (by kernel_rfl) (by kernel_rfl) (hval 4 _ v4 rfl rfl) h4
  refine (back14 n0 hn0 s1 (str_le hsz 1 rfl rfl) s2 (str_le hsz 2 rfl rfl) l3 hl3 hb3 l4 hl4 hb4 W).mono fun e W' ⟨he, hb⟩ => ?_
  subst he
  exact ⟨_, rfl, post_law laidOut (by kernel_rfl) rfl (by kernel_rfl) Tryz.underlying4 hW' hb (fun h => by subst h; rfl)⟩

theorem back14r_said : Rows.PinBackSaid :=
  OpenClaim.holds_of_wide 6 Tryz.f6 rfl rfl rfl rfl rfl rfl rfl ⟨rfl, rfl, rfl, rfl, rfl⟩ rfl rfl rfl rfl rfl (by kernel_rfl) Tryz.func6 (by kernel_rfl)
    (of_decide_eq_true (by kernel_rfl)) (by unfold Func.isWrapper; first | (rw [if_pos (by decide +kernel)]; kernel_rfl) | (rw [if_neg (by decide +kernel)]; exact ⟨rfl, rfl⟩))
    (fun os started H enc _ => back14r_lifted os started H enc)

theorem back14r_plain (f : FuncId) (fn : Func) (hf : Tryz.pinned.checked.prog.funcNamed "lockbox/lockboxlaw14.PinBack" = some f) (hfn : Tryz.pinned.checked.prog.funcs[f]? = some fn) :
    true = Tryz.pinned.checked.prog.looks [] ∧ ∀ (j : Nat) t, fn.params[j]? = some t → Tryz.pinned.checked.prog.wantsStandIn t = false := by
  obtain rfl : f = 6 := Option.some.inj ((show Tryz.prog.funcNamed "lockbox/lockboxlaw14.PinBack" = some 6 by kernel_rfl).symm.trans hf) |>.symm
  obtain rfl : fn = Tryz.f6 := (Option.some.inj (Tryz.func6.symm.trans hfn)).symm
  refine ⟨by kernel_rfl, fun j t ht => ?_⟩
  rw [Tryz.params6] at ht
  have h := Array.mem_of_getElem? ht
  have h2 : t = 5 ∨ t = 9 ∨ t = 38 ∨ t = 39 := by simpa using h
  rcases h2 with rfl | rfl | rfl | rfl
  · exact (show Tryz.prog.wantsStandIn 5 = false by kernel_rfl)
  · exact (show Tryz.prog.wantsStandIn 9 = false by kernel_rfl)
  · exact (show Tryz.prog.wantsStandIn 38 = false by kernel_rfl)
  · exact (show Tryz.prog.wantsStandIn 39 = false by kernel_rfl)

/-- THE CARD -/
theorem back14r_card : Rows.PinBackCardSaid :=
  Claim7.holds_tied_plain_at .later [] _ _ _ _ back14r_said (fun _ h => by cases h) (by kernel_rfl) (fun _ h => by cases h) pinBack_row_tie rfl ⟨rfl, rfl⟩ (by kernel_rfl) rfl back14r_plain (by kernel_rfl)
#print axioms back14r_card
end Go.Proofs.YtnkgglmfoimbhaaGreatDoor
