/- A law's row: what is handed in reads as it did, since only new memory was made. -/
import Derived.Test.YthodpjcdmdbnoaaGreatDoorRows
import Derived.Test.YthodpjcdmdbnoaaGreatDoorNArr
import Derived.WalkKit
import Derived.ProofKit
import Derived.OpenShut
import Derived.ChangeSame
import Derived.ChangeVars
import Derived.JoinedOf
import Derived.Carry
import Derived.HandedShaped
import Derived.SizedLaws
namespace Go.Proofs.YthodpjcdmdbnoaaGreatDoor
open Go Go.ChangeShapes Go.WideShapes Go.ChangeAt Go.RowKit

theorem own : ownKnob Tryz.prog.godebug = none := by kernel_rfl

/-- a string that is handed in is no longer than a sum of memory can be -/
theorem str_le {H : Type} {P : Program} {ts : List TypeId} {ds : List (DataW H)} (h : (DataW.weightsEach P ts ds).all (· ≤ reachBytes) = true) (j : Nat) {t : TypeId} {s : ByteArray} (ht : ts[j]? = some t) (hd : ds[j]? = some (.lit (.string s.data.toList))) : s.size ≤ 140737488351232 := by
 have := sized_string h ht hd
 simpa [reachBytes] using this

theorem trodAll_below {H : Type} {enc : TypeId × Value → H} {P : Program} (hl : laidOutB P = true) {W W' : World} (hb : Below W.heap.size W W') :
    ∀ (ts : List TypeId) (vs : List Value) (ds : List (DataW H)) (ps : List MemPlace), (ts.all fun t => P.readableRec t && decide (t < P.types.size)) = true → DataW.TrodAll enc P W 0 (fun _ => true) true ts vs ds ps → (∀ x ∈ ps, x.block < W.heap.size) →
     DataW.TrodAll enc P W' 0 (fun b => decide (b < W.heap.size)) true ts vs ds ps
 | [], vs, ds, ps, _, h, _ => by
  cases vs with
  | nil => cases ds with
   | nil => exact h
   | cons d ds => exact absurd h (by intro h; cases h)
  | cons v vs => exact absurd h (by intro h; cases h)
 | t :: ts, vs, ds, ps, hts, h, hlt => by
  simp only [List.all_cons, Bool.and_eq_true, decide_eq_true_eq] at hts
  obtain ⟨v, vs', d, ds', p, q, rfl, rfl, rfl, hd, hr⟩ := trodAll_cons h
  exact ⟨p, q, Below.trod hl hts.1.1 hts.1.2 hd hb (fun x hx => hlt x (List.mem_append_left _ hx)), trodAll_below hl hb ts vs' ds' q hts.2 hr (fun x hx => hlt x (List.mem_append_right _ hx)), rfl⟩

theorem post_law {H : Type} {enc : TypeId × Value → H} {P : Program} (hl : laidOutB P = true) {f : Func} {s : ChangeSpec} {apart fresh handsOn : Bool} {W W' : World} {args : Array Value} {ds gs : List (DataW H)} {before : List MemPlace}
    (hts : (f.params.toList.all fun t => P.readableRec t && decide (t < P.types.size)) = true) (hvars : s.vars = []) (hres : f.resultTypes = #[4]) (hbool : P.underlying 4 = some .bool) (hW : DataW.Whole enc P f.params.toList s.vars apart W args.toList ds gs before) (hb : Below W.heap.size W W')
    (hs : gs = [] → s.fn H (ds ++ gs) = { results := [.lit (.bool true)], args := ds }) :
    s.post enc P f apart fresh handsOn false W args (.bool true) W' := by
 have hlt := hW.lt
 have hW' := hW
 obtain ⟨p, q, hA, hV, rfl, hfz, hnd⟩ := hW
 rw [hvars] at hV
 obtain ⟨rfl, rfl⟩ := trodVars_none hV
 have e1 := hs rfl
 refine ⟨_, _, _, [], p, [], hW', ?_, ?_, ?_, hb.frame _, fun h => by cases h⟩
 ·
  rw [e1, hres]
  exact trodAll_cons_mk (shut_bool hbool true) trodAll_mk0
 ·
  rw [e1]
  exact trodAll_below hl hb _ _ _ _ hts hA (fun x hx => hlt x (by rw [List.append_nil]; exact hx))
 ·
  rw [e1, hvars]
  exact hV
end Go.Proofs.YthodpjcdmdbnoaaGreatDoor
