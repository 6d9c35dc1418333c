/- What is handed in as bytes, as a number of two bytes: opened. -/
import Derived.Test.YtfkjkkjimdilcaaGreatDoorQRow
import Derived.Test.YtfkjkkjimdilcaaGreatDoorQEqual
import Derived.ChangeSlices
namespace Go.Proofs.YtfkjkkjimdilcaaGreatDoor
open Go Go.ChangeShapes Go.WideShapes Go.RowKit Pr

theorem open_bytesS {H : Type} {enc : TypeId × Value → H} {P : Program} {w : World} {base : Nat} {held : Bool} {r : Reach} {b0 : Nat} {t e : TypeId} {v : Value} {d : DataW H} {ps : List MemPlace} (hu : P.underlying t = some (.slice e)) (he : P.underlying e = some (.int .u8)) (hce : P.cellsOf e = 1)
    (hval : Value.okWide P w r b0 t v) (hd : DataW.Trod enc P w base (fun _ => true) held t v d ps) :
    ∃ (l : List Nat) (A : Option Addr) (c : Nat), v = .slice A l.length c ∧ (∀ x ∈ l, x < 256) ∧ l.length ≤ c ∧ At w A l ∧ (l = [] ∨ ∃ els sp, d = .slice els sp ∧ els.length = l.length) := by
 obtain ⟨a0, len0, cap0, rfl⟩ := okWide_slice hu hval; obtain ⟨fuel, hf⟩ := hd
 rcases open_ints hu he hce hf with ⟨hcs, _⟩ | ⟨a, len, cap, zs, hcs, _, hlc, _, hzl, hx, hcell, hwf⟩
 ·
  have hv : (Value.slice a0 len0 cap0) = .slice none 0 0 := by simpa [Value.cells] using hcs
  rw [hv]; exact ⟨[], none, 0, rfl, by simp, Nat.le_refl _, fun h => absurd rfl h, .inl rfl⟩
 ·
  have hv : (Value.slice a0 len0 cap0) = .slice (some a) len cap := by simpa [Value.cells] using hcs
  rw [hv]; rw [if_pos rfl] at hzl
  have hzn : ∀ i, i < zs.length → ∃ c : Nat, zs.getD i 0 = (c : Int) ∧ c < 256 := fun i hi => by
   have e1 : zs.getD i 0 = zs[i] := by simp [List.getD_eq_getElem?_getD, hi]
   rw [e1]; exact wf_u8 (hwf _ (List.getElem_mem hi))
  refine ⟨(zs.take len).map Int.toNat, some a, cap, ?_, ?_, ?_, ?_, .inr ⟨_, _, by rw [(Prod.mk.inj hx).1], ?_⟩⟩
  ·
   rw [List.length_map, List.length_take, Nat.min_eq_left (by omega)]
  ·
   intro x hx; obtain ⟨z, hz, rfl⟩ := List.mem_map.1 hx; obtain ⟨c, hc, hc2⟩ := wf_u8 (hwf z (List.mem_of_mem_take hz)); omega
  ·
   rw [List.length_map, List.length_take]; omega
  ·
   intro hne
   have hpos : 0 < zs.length := by
    rcases Nat.eq_zero_or_pos zs.length with h0 | h0
    ·
     have := List.length_eq_zero_iff.1 h0; subst this; exact absurd (by simp) hne
    ·
     exact h0
   obtain ⟨b, off, rfl, hc2⟩ := ints_at hcell hpos; refine ⟨b, off, rfl, fun j v hv => ?_⟩; simp only [byteCells, List.getElem?_map, Option.map_eq_some_iff] at hv
   obtain ⟨c, ⟨z, hz, rfl⟩, rfl⟩ := hv; have hjl := (List.getElem?_eq_some_iff.1 hz).1; rw [List.length_take] at hjl
   have hz2 : zs.getD j 0 = z := by
    rw [List.getElem?_take_of_lt (by omega)] at hz; rw [List.getD_eq_getElem?_getD, hz]; rfl
   rw [hc2 j (by omega), hz2]; obtain ⟨c, hc, _⟩ := hzn j (by omega); rw [hz2] at hc
   congr 2
   omega
  ·
   simp [lits]

theorem slice_le {H : Type} {P : Program} {ts : List TypeId} {ds : List (DataW H)} (h : (DataW.weightsEach P ts ds).all (· ≤ reachBytes) = true) (j : Nat) {t e : TypeId} {d : DataW H} {l : List Nat} (ht : ts[j]? = some t) (hd : ds[j]? = some d) (hu : P.underlying t = some (.slice e)) (hb : P.bytesOf e = 1)
    (hn : l = [] ∨ ∃ els sp, d = .slice els sp ∧ els.length = l.length) : l.length ≤ 140737488351232 := by
 rcases hn with rfl | ⟨els, sp, rfl, hl⟩
 ·
  simp
 ·
  have := sized_slice h ht hd hu; rw [hb] at this; have h2 : reachBytes ≤ 140737488351232 := by decide
  omega
end Go.Proofs.YtfkjkkjimdilcaaGreatDoor
