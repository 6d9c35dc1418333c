/- The contracts of api.Code, api.At. -/
import Derived.Test.YtnkgglmfoimbhaaGreatDoorAsC
namespace Go.Proofs.YtnkgglmfoimbhaaGreatDoor
open Go Go.RowKit

/-- the variable errors.errorType holds what its initialiser lays -/
def EtOk (w : World) : Prop := w.cell? ⟨0, 0, none⟩ = some (.iface 147 (.agg #[.pointer (some ⟨5, 24, none⟩)]))
theorem EtOk.lt {w : World} (h : EtOk w) : 0 < w.heap.size := block_lt_of_cell h
theorem EtOk.below {w w' : World} {B : Nat} (h : EtOk w) (hb : Below B w w') (hB : w.heap.size ≤ B) : EtOk w' :=
  (hb.cell (p := ⟨0, 0, none⟩) (Nat.lt_of_lt_of_le h.lt hB)).trans h
theorem EtOk.alloc {w : World} (h : EtOk w) (o : Obj) : EtOk (w.alloc o) := (World.cell?_alloc_lt w o ⟨0, 0, none⟩ h.lt).trans h

def erCode : Er → Int
  | .ok => 0
  | .no n => n
  | .fa _ n => n
def erAt : Er → Int
  | .ok => -1
  | .no _ => -1
  | .fa p _ => p

theorem below_setCell {B : Nat} {a w w1 : World} (hb : Below B a w) (h1 : Below w.heap.size w w1) (hB : B ≤ w.heap.size) (t : Addr) (ht : B ≤ t.block) (v : Value) : Below B a (w1.setCell t v) :=
  (hb.trans (h1.mono hB)).setCell ht v

set_option maxHeartbeats 1000000 in
theorem code_any (v : Value) (er : Er) (B : Nat) (w : World) (hE : ErIs w B v er) (hG : EtOk w) :
    Calls Tryz.prog 12 #[v] w fun e w' => e = .returned (.int .i64 (erCode er)) ∧ Below w.heap.size w w' := by
  have hb0 : Below w.heap.size w (w.alloc (.cells #[.int .i64 0] 75)) := (Below.refl _ _).alloc (Nat.le_refl _) _
  have hN := Blk.new w 75 #[.int .i64 0]
  have hc := hN.cell 0
  rw [show (#[Value.int .i64 0] : Array Value)[0]? = some (.int .i64 0) from rfl] at hc
  have hf := hN.frozen 0
  have hG1 := hG.alloc (.cells #[.int .i64 0] 75)
  cases er with
  | ok =>
    obtain rfl : v = _ := hE
    go_enter Tryz.func12, Tryz.ntmps12
    go_wp2
    go_ret
    exact ⟨rfl, hb0⟩
  | no n =>
    obtain rfl : v = _ := hE
    have HA := Lib.hid (as_no_no (n : Int) ⟨w.heap.size, 0, none⟩ (.int .i64 0) _ hG1 hc hf)
    have hs := hN.lt
    clear hG1 hc hf
    go_enter Tryz.func12, Tryz.ntmps12
    go_wp2_with fail
    refine HA.out.mono ?_
    rintro e w' ⟨rfl, w1, hb1, rfl⟩
    have hN1 := (hN.below hb1 hs).set_ 0 (.int .i64 (n : Int))
    have hc1 := hN1.cell 0
    rw [show ((#[Value.int .i64 0] : Array Value).setIfInBounds 0 (.int .i64 (n : Int)))[0]? = some (.int .i64 (n : Int)) from rfl] at hc1
    have hbb := below_setCell hb0 hb1 (Nat.le_of_lt hs) ⟨w.heap.size, 0, none⟩ (Nat.le_refl _) (.int .i64 (n : Int))
    clear hN1 hN hb1 hb0 HA hG hs
    generalize w1.setCell ⟨w.heap.size, 0, none⟩ (.int .i64 (n : Int)) = w2 at *
    go_wp2
    go_ret
    exact ⟨rfl, hbb⟩
  | fa p n =>
    obtain ⟨g, rfl, hg, hF⟩ := hE
    have HA := Lib.hid (as_fa_no g p (n : Int) ⟨w.heap.size, 0, none⟩ (.int .i64 0) _ hG1 hc hf (hF.alloc _))
    have hs := hN.lt
    clear hG1 hc hf hF
    go_enter Tryz.func12, Tryz.ntmps12
    go_wp2_with fail
    refine HA.out.mono ?_
    rintro e w' ⟨rfl, w1, hb1, rfl⟩
    have hN1 := (hN.below hb1 hs).set_ 0 (.int .i64 (n : Int))
    have hc1 := hN1.cell 0
    rw [show ((#[Value.int .i64 0] : Array Value).setIfInBounds 0 (.int .i64 (n : Int)))[0]? = some (.int .i64 (n : Int)) from rfl] at hc1
    have hbb := below_setCell hb0 hb1 (Nat.le_of_lt hs) ⟨w.heap.size, 0, none⟩ (Nat.le_refl _) (.int .i64 (n : Int))
    clear hN1 hN hb1 hb0 HA hG hs
    generalize w1.setCell ⟨w.heap.size, 0, none⟩ (.int .i64 (n : Int)) = w2 at *
    go_wp2
    go_ret
    exact ⟨rfl, hbb⟩

set_option maxHeartbeats 1000000 in
theorem at_any (v : Value) (er : Er) (B : Nat) (w : World) (hE : ErIs w B v er) (hG : EtOk w) :
    Calls Tryz.prog 13 #[v] w fun e w' => e = .returned (.int .i64 (erAt er)) ∧ Below w.heap.size w w' := by
  have hb0 : Below w.heap.size w (w.alloc (.cells #[.pointer none] 74)) := (Below.refl _ _).alloc (Nat.le_refl _) _
  have hN := Blk.new w 74 #[.pointer none]
  have hc := hN.cell 0
  rw [show (#[Value.pointer none] : Array Value)[0]? = some (.pointer none) from rfl] at hc
  have hf := hN.frozen 0
  have hG1 := hG.alloc (.cells #[.pointer none] 74)
  cases er with
  | ok =>
    obtain rfl : v = _ := hE
    go_enter Tryz.func13, Tryz.ntmps13
    go_wp2
    go_ret
    exact ⟨rfl, hb0⟩
  | no n =>
    obtain rfl : v = _ := hE
    have HA := Lib.hid (as_no_fa (n : Int) ⟨w.heap.size, 0, none⟩ (.pointer none) _ hG1 hc hf)
    have hs := hN.lt
    clear hG1 hc hf
    go_enter Tryz.func13, Tryz.ntmps13
    go_wp2_with fail
    refine HA.out.mono ?_
    rintro e w' ⟨rfl, hb1⟩
    have hbb := hb0.trans (hb1.mono (Nat.le_of_lt hs))
    go_wp2
    go_ret
    exact ⟨rfl, hbb⟩
  | fa p n =>
    obtain ⟨g, rfl, hg, hF⟩ := hE
    have HA := Lib.hid (as_fa_fa ⟨g, 0, none⟩ ⟨w.heap.size, 0, none⟩ (.pointer none) _ hG1 hc hf)
    have hs := hN.lt
    have hgl := hF.lt
    clear hG1 hc hf
    go_enter Tryz.func13, Tryz.ntmps13
    go_wp2_with fail
    refine HA.out.mono ?_
    rintro e w' ⟨rfl, w1, hb1, rfl⟩
    have hN1 := (hN.below hb1 hs).set_ 0 (.pointer (some ⟨g, 0, none⟩))
    have hc1 := hN1.cell 0
    rw [show ((#[Value.pointer none] : Array Value).setIfInBounds 0 (.pointer (some ⟨g, 0, none⟩)))[0]? = some (.pointer (some ⟨g, 0, none⟩)) from rfl] at hc1
    have hbb := below_setCell hb0 hb1 (Nat.le_of_lt hs) ⟨w.heap.size, 0, none⟩ (Nat.le_refl _) (.pointer (some ⟨g, 0, none⟩))
    have hF1 := (hF.below hbb hgl).cell 0
    rw [show (#[Value.int .i64 p, .iface 75 (.int .i64 (n : Int))] : Array Value)[0]? = some (.int .i64 p) from rfl] at hF1
    clear hN1 hN hb1 hb0 HA hG hs hF
    generalize w1.setCell ⟨w.heap.size, 0, none⟩ (.pointer (some ⟨g, 0, none⟩)) = w2 at *
    go_wp2
    go_ret
    exact ⟨rfl, hbb⟩
end Go.Proofs.YtnkgglmfoimbhaaGreatDoor
