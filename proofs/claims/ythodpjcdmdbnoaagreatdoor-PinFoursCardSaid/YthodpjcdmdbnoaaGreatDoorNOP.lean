/- What is handed in as bytes, as a number of two bytes: opened. lockboxlaw14.PinFours: for every input the law returns true, and what is handed in reads as it did; the variable errors.errorType is tied to the program's text; no other condition. -/
import Derived.Test.YthodpjcdmdbnoaaGreatDoorNRow
import Derived.Test.YthodpjcdmdbnoaaGreatDoorNEC
import Derived.ChangeSlices
import Derived.Test.YthodpjcdmdbnoaaGreatDoorNDoorP
import Derived.Test.YthodpjcdmdbnoaaGreatDoorNFours14
/- What is handed in as bytes, as a number of two bytes: opened. -/
namespace Go.Proofs.YthodpjcdmdbnoaaGreatDoor
open Go Go.ChangeShapes Go.WideShapes Go.RowKit Pr

theorem open_bytesS {H : Type} {enc : TypeId × Value → H} {P : Program} {w : World} {base : Nat} {held : Bool} {r : Reach} {b0 : Nat} {t e : TypeId} {v : Value} {d : DataW H} {ps : List MemPlace} (hu : P.underlying t = some (.slice e)) (he : P.underlying e = some (.int .u8)) (hce : P.cellsOf e = 1)
    (hval : Value.okWide P w r b0 t v) (hd : DataW.Trod enc P w base (fun _ => true) held t v d ps) :
    ∃ (l : List Nat) (A : Option Addr) (c : Nat), v = .slice A l.length c ∧ (∀ x ∈ l, x < 256) ∧ l.length ≤ c ∧ At w A l ∧ (l = [] ∨ ∃ els sp, d = .slice els sp ∧ els.length = l.length) := by
 obtain ⟨a0, len0, cap0, rfl⟩ := okWide_slice hu hval
 obtain ⟨fuel, hf⟩ := hd
 rcases open_ints hu he hce hf with ⟨hcs, _⟩ | ⟨a, len, cap, zs, hcs, _, hlc, _, hzl, hx, hcell, hwf⟩
 ·
  have hv : (Value.slice a0 len0 cap0) = .slice none 0 0 := by simpa [Value.cells] using hcs
  rw [hv]
  exact ⟨[], none, 0, rfl, by simp, Nat.le_refl _, fun h => absurd rfl h, .inl rfl⟩
 ·
  have hv : (Value.slice a0 len0 cap0) = .slice (some a) len cap := by simpa [Value.cells] using hcs
  rw [hv]
  rw [if_pos rfl] at hzl
  have hzn : ∀ i, i < zs.length → ∃ c : Nat, zs.getD i 0 = (c : Int) ∧ c < 256 := fun i hi => by
   have e1 : zs.getD i 0 = zs[i] := by simp [List.getD_eq_getElem?_getD, hi]
   rw [e1]
   exact wf_u8 (hwf _ (List.getElem_mem hi))
  refine ⟨(zs.take len).map Int.toNat, some a, cap, ?_, ?_, ?_, ?_, .inr ⟨_, _, by rw [(Prod.mk.inj hx).1], ?_⟩⟩
  ·
   rw [List.length_map, List.length_take, Nat.min_eq_left (by omega)]
  ·
   intro x hx
   obtain ⟨z, hz, rfl⟩ := List.mem_map.1 hx
   obtain ⟨c, hc, hc2⟩ := wf_u8 (hwf z (List.mem_of_mem_take hz))
   omega
  ·
   rw [List.length_map, List.length_take]; omega
  ·
   intro hne
   have hpos : 0 < zs.length := by
    rcases Nat.eq_zero_or_pos zs.length with h0 | h0
    ·
     have := List.length_eq_zero_iff.1 h0
     subst this
     exact absurd (by simp) hne
    ·
     exact h0
   obtain ⟨b, off, rfl, hc2⟩ := ints_at hcell hpos
   refine ⟨b, off, rfl, fun j v hv => ?_⟩
   simp only [byteCells, List.getElem?_map, Option.map_eq_some_iff] at hv
   obtain ⟨c, ⟨z, hz, rfl⟩, rfl⟩ := hv
   have hjl := (List.getElem?_eq_some_iff.1 hz).1
   rw [List.length_take] at hjl
   have hz2 : zs.getD j 0 = z := by
    rw [List.getElem?_take_of_lt (by omega)] at hz
    rw [List.getD_eq_getElem?_getD, hz]; rfl
   rw [hc2 j (by omega), hz2]
   obtain ⟨c, hc, _⟩ := hzn j (by omega)
   rw [hz2] at hc
   congr 2
   omega
  ·
   simp [lits]

theorem slice_le {H : Type} {P : Program} {ts : List TypeId} {ds : List (DataW H)} (h : (DataW.weightsEach P ts ds).all (· ≤ reachBytes) = true) (j : Nat) {t e : TypeId} {d : DataW H} {l : List Nat} (ht : ts[j]? = some t) (hd : ds[j]? = some d) (hu : P.underlying t = some (.slice e)) (hb : P.bytesOf e = 1)
    (hn : l = [] ∨ ∃ els sp, d = .slice els sp ∧ els.length = l.length) : l.length ≤ 140737488351232 := by
 rcases hn with rfl | ⟨els, sp, rfl, hl⟩
 ·
  simp
 ·
  have := sized_slice h ht hd hu
  rw [hb] at this
  have h2 : reachBytes ≤ 140737488351232 := by decide
  omega
end Go.Proofs.YthodpjcdmdbnoaaGreatDoor

/- lockboxlaw14.PinFours: for every input the law returns true, and what is handed in reads as it did; the variable errors.errorType is tied to the program's text; no other condition. -/
namespace Go.Proofs.YthodpjcdmdbnoaaGreatDoor
open Go Go.ChangeShapes Go.WideShapes Go.ChangeAt Go.RowKit Pr

set_option maxRecDepth 100000 in
theorem fours14r_lifted (os : Os) (started : os.Started) (H : Type) (enc : TypeId × Value → H) :
    ReturnsInHanded {} Tryz.checked os 3 .any (fun w args => (Rows.pinFoursSpec.pre enc Tryz.prog Tryz.f3 [] false w args ∧ laidMetH Tryz.prog Rows.pinFoursRow.laid w) ∧ sizedMet enc Tryz.prog Tryz.f3 (OpenSpec.ofChange Rows.pinFoursSpec) false w args)
     (Rows.pinFoursSpec.post enc Tryz.prog Tryz.f3 false true false false) := by
 refine returnsInHanded_of_change_and (C := Tryz.checked) (X := fun w _ => laidMetH Tryz.prog Rows.pinFoursRow.laid w) (fun _ _ _ hh h => h.of_heap hh) own started (by kernel_rfl) Tryz.func3
  (ChangeSpec.witness_at (enc := enc) (C := Tryz.checked) (os := os) (X := fun w _ => laidMetH Tryz.prog Rows.pinFoursRow.laid w) false (laidWorld os) #[.int .u8 0, .slice none 0 0, .slice none 0 0, .string ⟨#[]⟩, .string ⟨#[]⟩, .agg #[.int .u8 0, .int .u8 0, .int .u8 0, .int .u8 0, .int .u8 0, .int .u8 0, .int .u8 0, .int .u8 0], .slice none 0 0] 8 rfl (by kernel_rfl) (by kernel_rfl) (by kernel_rfl) (by kernel_rfl) (by kernel_rfl) (laidWorld_met os _)) ?_
 intro W base args ds gs before hval0 hW _ hsz hL _
 have hval : ∀ (j : Nat) t v, Tryz.f3.params[j]? = some t → args[j]? = some v → Value.okWide Tryz.prog W .any base t v := hval0
 have hW' := hW
 obtain ⟨p, q, hA0, hV, rfl, hfz, hnd⟩ := hW
 have hA : DataW.TrodAll enc Tryz.prog W 0 (fun _ => true) true Tryz.f3.params.toList args.toList ds p := hA0
 rw [Tryz.params3] at hA hval
 obtain ⟨v0, vs0, d0, ds0, p0, q0, hargs, rfl, rfl, h0, r0⟩ := trodAll_cons hA
 obtain ⟨v1, vs1, d1, ds1, p1, q1, rfl, rfl, rfl, h1, r1⟩ := trodAll_cons r0
 obtain ⟨v2, vs2, d2, ds2, p2, q2, rfl, rfl, rfl, h2, r2⟩ := trodAll_cons r1
 obtain ⟨v3, vs3, d3, ds3, p3, q3, rfl, rfl, rfl, h3, r3⟩ := trodAll_cons r2
 obtain ⟨v4, vs4, d4, ds4, p4, q4, rfl, rfl, rfl, h4, r4⟩ := trodAll_cons r3
 obtain ⟨v5, vs5, d5, ds5, p5, q5, rfl, rfl, rfl, h5, r5⟩ := trodAll_cons r4
 obtain ⟨v6, vs6, d6, ds6, p6, q6, rfl, rfl, rfl, h6, r6⟩ := trodAll_cons r5
 obtain ⟨rfl, rfl, rfl⟩ := trodAll_nil r6
 obtain rfl : args = #[v0, v1, v2, v3, v4, v5, v6] := by cases args; simp_all
 obtain ⟨m0, rfl, rfl, rfl, w0⟩ := open_int Tryz.underlying5 (hval 0 _ v0 rfl rfl) h0
 obtain ⟨n0, rfl, hn0⟩ := wf_u8 w0
 obtain ⟨l1, A1, c1, rfl, hb1, hc1, hat1, hn1⟩ := open_bytesS Tryz.underlying22 Tryz.underlying5 (by kernel_rfl) (hval 1 _ v1 rfl rfl) h1
 obtain ⟨l2, A2, c2, rfl, hb2, hc2, hat2, hn2⟩ := open_bytesS Tryz.underlying22 Tryz.underlying5 (by kernel_rfl) (hval 2 _ v2 rfl rfl) h2
 obtain ⟨s3, rfl, rfl, rfl, w3⟩ := Go.ChangeMaps.open_string Tryz.underlying9 (hval 3 _ v3 rfl rfl) h3
 obtain ⟨s4, rfl, rfl, rfl, w4⟩ := Go.ChangeMaps.open_string Tryz.underlying9 (hval 4 _ v4 rfl rfl) h4
 obtain ⟨l5, hl5, hb5, rfl, rfl, rfl⟩ := open_bytesA Tryz.underlying23 Tryz.underlying5 (by kernel_rfl) (by kernel_rfl) (hval 5 _ v5 rfl rfl) h5
 obtain ⟨l6, A6, c6, rfl, hb6, hc6, hat6, hn6⟩ := open_bytesS Tryz.underlying22 Tryz.underlying5 (by kernel_rfl) (hval 6 _ v6 rfl rfl) h6
 refine (fours14 W n0 hn0 l1 hb1 A1 c1 hc1 (slice_le hsz 1 rfl rfl Tryz.underlying22 (by kernel_rfl) hn1) hat1 l2 hb2 A2 c2 hc2 (slice_le hsz 2 rfl rfl Tryz.underlying22 (by kernel_rfl) hn2) hat2 s3 (str_le hsz 3 rfl rfl) s4 (str_le hsz 4 rfl rfl) l5 hl5 hb5 l6 hb6 A6 c6 hc6 (slice_le hsz 6 rfl rfl Tryz.underlying22 (by kernel_rfl) hn6) hat6 (et_of_laid hL)).mono fun e W' ⟨he, hb⟩ => ?_
 subst he
 exact ⟨_, rfl, post_law laidOut (by kernel_rfl) rfl (by kernel_rfl) Tryz.underlying4 hW' hb (fun h => by subst h; rfl)⟩

theorem fours14r_said : Rows.PinFoursSaid :=
 OpenClaim.holds_of_wide 3 Tryz.f3 rfl rfl rfl rfl rfl rfl rfl ⟨rfl, rfl, rfl, rfl, rfl⟩ rfl rfl rfl rfl rfl (by kernel_rfl) Tryz.func3 (by kernel_rfl)
  (of_decide_eq_true (by kernel_rfl)) (by unfold Func.isWrapper; first | (rw [if_pos (by decide +kernel)]; kernel_rfl) | (rw [if_neg (by decide +kernel)]; exact ⟨rfl, rfl⟩))
  (fun os started H enc _ => fours14r_lifted os started H enc)

theorem fours14r_plain (f : FuncId) (fn : Func) (hf : Tryz.pinned.checked.prog.funcNamed "lockbox/lockboxlaw14.PinFours" = some f) (hfn : Tryz.pinned.checked.prog.funcs[f]? = some fn) :
    true = Tryz.pinned.checked.prog.looks [] ∧ ∀ (j : Nat) t, fn.params[j]? = some t → Tryz.pinned.checked.prog.wantsStandIn t = false := by
 obtain rfl : f = 3 := Option.some.inj ((show Tryz.prog.funcNamed "lockbox/lockboxlaw14.PinFours" = some 3 by kernel_rfl).symm.trans hf) |>.symm
 obtain rfl : fn = Tryz.f3 := (Option.some.inj (Tryz.func3.symm.trans hfn)).symm
 refine ⟨by kernel_rfl, fun j t ht => ?_⟩
 rw [Tryz.params3] at ht
 have h := Array.mem_of_getElem? ht
 have h2 : t = 5 ∨ t = 22 ∨ t = 9 ∨ t = 23 := by simp at h; rcases h with rfl | rfl | rfl | rfl | rfl <;> simp
 rcases h2 with rfl | rfl | rfl | rfl
 ·
  exact (show Tryz.prog.wantsStandIn 5 = false by kernel_rfl)
 ·
  exact (show Tryz.prog.wantsStandIn 22 = false by kernel_rfl)
 ·
  exact (show Tryz.prog.wantsStandIn 9 = false by kernel_rfl)
 ·
  exact (show Tryz.prog.wantsStandIn 23 = false by kernel_rfl)

/-- THE CARD -/
theorem fours14r_card : Rows.PinFoursCardSaid :=
 Claim7.holds_tied_plain_at .later [] _ _ _ _ fours14r_said (fun _ h => by cases h) (by kernel_rfl) (fun _ h => by cases h) pinFours_row_tie rfl ⟨rfl, rfl⟩ (by kernel_rfl) rfl fours14r_plain (by kernel_rfl)
#print axioms fours14r_card
end Go.Proofs.YthodpjcdmdbnoaaGreatDoor
