/- lockboxlaw16.PvvBehind: for every input the law returns true, and what is handed in reads as it did; the listed package-level variables are tied to the program's text; no other condition. -/
import Derived.Test.YtnkgglmfoimbhaaDoorDoor
import Derived.Test.YtnkgglmfoimbhaaDoorBehind16
namespace Go.Proofs.YtnkgglmfoimbhaaDoor
open Go Go.ChangeShapes Go.WideShapes Go.ChangeAt Go.RowKit Pr

theorem behind16r_none : (laid3.filter fun x => x.2.handleName?.isNone) = laid3 := by kernel_rfl
theorem behind16r_met (os : Os) (args : Array Value) : laidMetH Tryd.prog laid3 ((laidWorld os).forCall (fun _ _ => 0) ⟨#[], args, []⟩).memory :=
  laidMetH_of_parts (behind16r_none ▸ laidWorld_met1 os args) (by kernel_rfl)

set_option maxRecDepth 100000 in
theorem behind16r_lifted (os : Os) (started : os.Started) (H : Type) (enc : TypeId × Value → H) :
    ReturnsInHanded {} Tryd.checked os 6 .any (fun w args => (Rows.pvvBehindSpec.pre enc Tryd.prog Tryd.f6 [] false w args ∧ laidMetH Tryd.prog Rows.pvvBehindRow.laid w) ∧ sizedMet enc Tryd.prog Tryd.f6 (OpenSpec.ofChange Rows.pvvBehindSpec) false w args)
      (Rows.pvvBehindSpec.post enc Tryd.prog Tryd.f6 false true false false) := by
  refine returnsInHanded_of_change_and (C := Tryd.checked) (X := fun w _ => laidMetH Tryd.prog Rows.pvvBehindRow.laid w) (fun _ _ _ hh h => h.of_heap hh) own started (by kernel_rfl) Tryd.func6
    (ChangeSpec.witness_at (enc := enc) (C := Tryd.checked) (os := os) (X := fun w _ => laidMetH Tryd.prog Rows.pvvBehindRow.laid w) false (laidWorld os) #[.agg #[.int .u8 0, .int .u8 0, .int .u8 0, .int .u8 0, .int .u8 0, .int .u8 0, .int .u8 0, .int .u8 0, .int .u8 0, .int .u8 0, .int .u8 0, .int .u8 0, .int .u8 0, .int .u8 0, .int .u8 0, .int .u8 0], .int .u8 0, .string ⟨#[]⟩, .string ⟨#[]⟩, .int .u8 0] 8 rfl (by kernel_rfl) (by kernel_rfl) (by kernel_rfl) (by kernel_rfl) (by kernel_rfl) (behind16r_met os _)) ?_
  intro W base args ds gs before hval0 hW _ hsz hL _
  have hval : ∀ (j : Nat) t v, Tryd.f6.params[j]? = some t → args[j]? = some v → Value.okWide Tryd.prog W .any base t v := hval0
  have hW' := hW
  obtain ⟨p, q, hA0, hV, rfl, hfz, hnd⟩ := hW
  have hA : DataW.TrodAll enc Tryd.prog W 0 (fun _ => true) true Tryd.f6.params.toList args.toList ds p := hA0
  rw [Tryd.params6] at hA hval
  obtain ⟨v0, vs0, d0, ds0, p0, q0, hargs, rfl, rfl, h0, r0⟩ := trodAll_cons hA
  obtain ⟨v1, vs1, d1, ds1, p1, q1, rfl, rfl, rfl, h1, r1⟩ := trodAll_cons r0
  obtain ⟨v2, vs2, d2, ds2, p2, q2, rfl, rfl, rfl, h2, r2⟩ := trodAll_cons r1
  obtain ⟨v3, vs3, d3, ds3, p3, q3, rfl, rfl, rfl, h3, r3⟩ := trodAll_cons r2
  obtain ⟨v4, vs4, d4, ds4, p4, q4, rfl, rfl, rfl, h4, r4⟩ := trodAll_cons r3
  obtain ⟨rfl, rfl, rfl⟩ := trodAll_nil r4
  obtain rfl : args = #[v0, v1, v2, v3, v4] := by cases args; simp_all
  obtain ⟨l0, hl0, hb0, rfl, rfl, rfl⟩ := open_bytesA Tryd.underlying44 Tryd.underlying5 (by kernel_rfl) (by kernel_rfl) (hval 0 _ v0 rfl rfl) h0
  obtain ⟨m1, rfl, rfl, rfl, w1⟩ := open_int Tryd.underlying5 (hval 1 _ v1 rfl rfl) h1
  obtain ⟨n1, rfl, hn1⟩ := wf_u8 w1
  obtain ⟨s2, rfl, rfl, rfl, w2⟩ := Go.ChangeMaps.open_string Tryd.underlying9 (hval 2 _ v2 rfl rfl) h2
  obtain ⟨s3, rfl, rfl, rfl, w3⟩ := Go.ChangeMaps.open_string Tryd.underlying9 (hval 3 _ v3 rfl rfl) h3
  obtain ⟨m4, rfl, rfl, rfl, w4⟩ := open_int Tryd.underlying5 (hval 4 _ v4 rfl rfl) h4
  obtain ⟨n4, rfl, hn4⟩ := wf_u8 w4
  refine (behind16 l0 hl0 hb0 n1 hn1 s2 (str_le hsz 2 rfl rfl) s3 (str_le hsz 3 rfl rfl) n4 hn4 W).mono fun e W' ⟨he, hb⟩ => ?_
  subst he
  exact ⟨_, rfl, post_law laidOut (by kernel_rfl) rfl (by kernel_rfl) Tryd.underlying4 hW' hb (fun h => by subst h; rfl)⟩

theorem behind16r_said : Rows.PvvBehindSaid :=
  OpenClaim.holds_of_wide 6 Tryd.f6 rfl rfl rfl rfl rfl rfl rfl ⟨rfl, rfl, rfl, rfl, rfl⟩ rfl rfl rfl rfl rfl (by kernel_rfl) Tryd.func6 (by kernel_rfl)
    (of_decide_eq_true (by kernel_rfl)) (by unfold Func.isWrapper; first | (rw [if_pos (by decide +kernel)]; kernel_rfl) | (rw [if_neg (by decide +kernel)]; exact ⟨rfl, rfl⟩))
    (fun os started H enc _ => behind16r_lifted os started H enc)

theorem behind16r_plain (f : FuncId) (fn : Func) (hf : Tryd.pinned.checked.prog.funcNamed "lockbox/lockboxlaw16.PvvBehind" = some f) (hfn : Tryd.pinned.checked.prog.funcs[f]? = some fn) :
    true = Tryd.pinned.checked.prog.looks [] ∧ ∀ (j : Nat) t, fn.params[j]? = some t → Tryd.pinned.checked.prog.wantsStandIn t = false := by
  obtain rfl : f = 6 := Option.some.inj ((show Tryd.prog.funcNamed "lockbox/lockboxlaw16.PvvBehind" = some 6 by kernel_rfl).symm.trans hf) |>.symm
  obtain rfl : fn = Tryd.f6 := (Option.some.inj (Tryd.func6.symm.trans hfn)).symm
  refine ⟨by kernel_rfl, fun j t ht => ?_⟩
  rw [Tryd.params6] at ht
  have h := Array.mem_of_getElem? ht
  have h2 : t = 44 ∨ t = 5 ∨ t = 9 := by simp at h; rcases h with rfl | rfl | rfl | rfl <;> simp
  rcases h2 with rfl | rfl | rfl
  · exact (show Tryd.prog.wantsStandIn 44 = false by kernel_rfl)
  · exact (show Tryd.prog.wantsStandIn 5 = false by kernel_rfl)
  · exact (show Tryd.prog.wantsStandIn 9 = false by kernel_rfl)

/-- THE CARD -/
theorem behind16r_card : Rows.PvvBehindCardSaid :=
  Claim7.holds_tied_plain_at .later [] _ _ _ _ behind16r_said (fun _ h => by cases h) (by kernel_rfl) (fun _ h => by cases h) pvvBehind_row_tie rfl ⟨rfl, rfl⟩ (by kernel_rfl) rfl behind16r_plain (by kernel_rfl)
#print axioms behind16r_card
end Go.Proofs.YtnkgglmfoimbhaaDoor
