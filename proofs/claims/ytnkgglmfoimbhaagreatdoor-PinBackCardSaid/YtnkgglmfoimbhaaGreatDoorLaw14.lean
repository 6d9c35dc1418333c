/- lockboxlaw14.awake, bad. -/
import Derived.Test.YtnkgglmfoimbhaaGreatDoorPinD
import Derived.Test.YtnkgglmfoimbhaaGreatDoorRefW
import Derived.Test.YtnkgglmfoimbhaaGreatDoorSame
import Derived.Test.YtnkgglmfoimbhaaGreatDoorArr
namespace Go.Proofs.YtnkgglmfoimbhaaGreatDoor
open Go Go.RowKit Pr

theorem decEr_cases (s : List UInt8) (lo hi : Nat) : decEr s lo hi = .no 2 ∨ (∃ k : Nat, decEr s lo hi = .fa k 16) ∨ decEr s lo hi = .ok := by
  unfold decEr
  split
  · exact .inl rfl
  · cases badAt isDec s with
    | none => exact .inr (.inr rfl)
    | some k => exact .inr (.inl ⟨k, rfl⟩)
def p14 : ByteArray := ⟨#[49, 50, 51, 52]⟩
def a14 : ByteArray := ⟨#[53, 52, 51, 50, 49, 48, 49, 50, 51, 52, 53, 54, 55, 56, 57, 49]⟩
def b14 : List Nat := [4, 18, 21, 254, 220, 186, 152, 118]
theorem m14Er : makeEr 0 p14.data.toList a14.data.toList = .ok := by rfl
theorem m14Val : makeVal 0 p14.data.toList a14.data.toList z8 = b14 := by decide +kernel
theorem o14Er : openEr 0 b14 a14.data.toList = .ok := by rfl
theorem o14Str : str (openStr 0 b14 a14.data.toList) = p14 := by decide +kernel
theorem r14Er : decEr (⟨#[49, 50, 51]⟩ : ByteArray).data.toList 4 12 = .no 2 := by rfl
theorem c14Er : decEr (⟨#[49, 50, 51, 52, 53, 54, 55, 56, 57, 48, 49, 50, 51]⟩ : ByteArray).data.toList 13 19 = .ok := by rfl

set_option maxHeartbeats 2000000 in
set_option maxRecDepth 100000 in
theorem awake14_any (w : World) :
    Calls Tryz.prog 19 #[] w fun e w' => e = .returned (.bool true) ∧ Below w.heap.size w w' := by
  have H1 := fun W => make_any 0 p14 a14 (by decide) (by decide) z8 rfl (by decide) W
  rw [m14Er, m14Val] at H1
  have H2 := fun W => open_any 0 b14 rfl (by decide) a14 (by decide) W
  rw [o14Er, o14Str] at H2
  have H3 := fun W => right_pin ⟨#[49, 50, 51]⟩ (by decide) W
  rw [r14Er] at H3
  have H4 := fun W => account_any ⟨#[49, 50, 51, 52, 53, 54, 55, 56, 57, 48, 49, 50, 51]⟩ (by decide) W
  rw [c14Er] at H4
  unfold p14 a14 at H1 H2
  have G1 := Lib.hid H1; clear H1
  have G2 := Lib.hid H2; clear H2
  have G3 := Lib.hid H3; clear H3
  have G4 := Lib.hid H4; clear H4
  have heq : ∀ W : World, (Op.equalIn 10000 38 (.agg #[.int .u8 4, .int .u8 18, .int .u8 21, .int .u8 254, .int .u8 220, .int .u8 186, .int .u8 152, .int .u8 118]) (.agg #[.int .u8 4, .int .u8 18, .int .u8 21, .int .u8 254, .int .u8 220, .int .u8 186, .int .u8 152, .int .u8 118])).run Tryz.prog W = .ok true W := fun W => by
    have := eqBytes (P := Tryz.prog) W 38 5 8 Tryz.underlying38 Tryz.underlying5 (fun w => size_u8 info_u8 w) b14 b14 rfl rfl (by decide) (by decide)
    rw [show decide (b14 = b14) = true from decide_eq_true rfl] at this
    exact this
  have hb14 : byteCells b14 = #[.int .u8 4, .int .u8 18, .int .u8 21, .int .u8 254, .int .u8 220, .int .u8 186, .int .u8 152, .int .u8 118] := rfl
  rw [hb14] at G1 G2
  go_enter Tryz.func19, Tryz.ntmps19
  go_wp2_with fail
  refine (G1.out _).mono ?_
  rintro e w1 ⟨⟨v, rfl, hv⟩, hb1⟩
  obtain rfl : v = _ := hv
  go_wp2_with fail
  refine (G2.out _).mono ?_
  rintro e w2 ⟨⟨v, rfl, hv⟩, hb2⟩
  obtain rfl : v = _ := hv
  have hB2 : Blk w2 w1.heap.size 38 #[.int .u8 4, .int .u8 18, .int .u8 21, .int .u8 254, .int .u8 220, .int .u8 186, .int .u8 152, .int .u8 118] := Blk.below (Blk.new w1 _ _) hb2 (by simp)
  have hbel2 : Below w.heap.size w w2 := (hb1.alloc hb1.size (.cells #[.int .u8 4, .int .u8 18, .int .u8 21, .int .u8 254, .int .u8 220, .int .u8 186, .int .u8 152, .int .u8 118] 38)).trans (hb2.mono (by have := hb1.size; simp; omega))
  clear hb1 hb2
  have HEQ := Lib.hid heq; clear heq
  have heq := HEQ.out w2
  have k0 : w2.cell? ⟨w1.heap.size, 0, none⟩ = some (.int .u8 4) := hB2.cell 0
  have k1 : w2.cell? ⟨w1.heap.size, 1, none⟩ = some (.int .u8 18) := hB2.cell 1
  have k2 : w2.cell? ⟨w1.heap.size, 2, none⟩ = some (.int .u8 21) := hB2.cell 2
  have k3 : w2.cell? ⟨w1.heap.size, 3, none⟩ = some (.int .u8 254) := hB2.cell 3
  have k4 : w2.cell? ⟨w1.heap.size, 4, none⟩ = some (.int .u8 220) := hB2.cell 4
  have k5 : w2.cell? ⟨w1.heap.size, 5, none⟩ = some (.int .u8 186) := hB2.cell 5
  have k6 : w2.cell? ⟨w1.heap.size, 6, none⟩ = some (.int .u8 152) := hB2.cell 6
  have k7 : w2.cell? ⟨w1.heap.size, 7, none⟩ = some (.int .u8 118) := hB2.cell 7
  go_wp2_with fail
  refine (G3.out _).mono ?_
  rintro e w3 ⟨⟨v, rfl, hv⟩, hb3⟩
  obtain rfl : v = _ := hv
  have hbel3 := hbel2.trans (hb3.mono hbel2.size)
  clear heq k0 k1 k2 k3 k4 k5 k6 k7
  go_wp2_with fail
  refine (G4.out _).mono ?_
  rintro e w4 ⟨⟨v, rfl, hv⟩, hb4⟩
  obtain rfl : v = _ := hv
  have hbel4 := hbel3.trans (hb4.mono hbel3.size)
  go_wp2
  go_ret
  exact ⟨rfl, hbel4⟩

set_option maxHeartbeats 1000000 in
theorem bad_any (p a : ByteArray) (hp : p.size ≤ 140737488351232) (ha : a.size ≤ 140737488351232) (w : World) :
    Calls Tryz.prog 18 #[.string p, .string a] w fun e w' => e = .returned (.tuple #[.int .i64 (erCode (bothEr p.data.toList a.data.toList)), .int .i64 (erAt (bothEr p.data.toList a.data.toList))]) ∧ w = w' := by
  have H1 := fun W => wrongR_any p hp 4 12 (by omega) (by omega) W
  have H2 := fun W => wrongR_any a ha 13 19 (by omega) (by omega) W
  have hb : bothEr p.data.toList a.data.toList = match decEr p.data.toList 4 12 with | .ok => decEr a.data.toList 13 19 | e => e := rfl
  rcases decEr_cases p.data.toList 4 12 with h | ⟨k, h⟩ | h
  · rw [h] at H1 hb
    rw [show bothEr p.data.toList a.data.toList = .no 2 from hb]
    have f1 : erCode (.no 2) = 2 := rfl
    have f2 : erAt (.no 2) = -1 := rfl
    rw [f1, f2] at H1 ⊢
    have G1 := Lib.hid H1; clear H1 H2 hb h
    go_enter Tryz.func18, Tryz.ntmps18
    go_wp2_with (go_at_call 30; refine (G1.out _).mono ?_; rintro e w' ⟨rfl, rfl⟩)
    go_ret2
    exact ⟨rfl, rfl⟩
  · rw [h] at H1 hb
    rw [show bothEr p.data.toList a.data.toList = .fa k 16 from hb]
    have f1 : erCode (.fa (k : Int) 16) = 16 := rfl
    have f2 : erAt (.fa (k : Int) 16) = k := rfl
    rw [f1, f2] at H1 ⊢
    have G1 := Lib.hid H1; clear H1 H2 hb h
    go_enter Tryz.func18, Tryz.ntmps18
    go_wp2_with (go_at_call 30; refine (G1.out _).mono ?_; rintro e w' ⟨rfl, rfl⟩)
    go_ret2
    exact ⟨rfl, rfl⟩
  · rw [h] at H1 hb
    simp only at hb
    rw [hb]
    have f1 : erCode .ok = 0 := rfl
    have f2 : erAt .ok = -1 := rfl
    rw [f1, f2] at H1
    generalize erCode (decEr a.data.toList 13 19) = c at *
    generalize erAt (decEr a.data.toList 13 19) = t at *
    have G1 := Lib.hid H1; clear H1 hb h
    have G2 := Lib.hid H2; clear H2
    go_enter Tryz.func18, Tryz.ntmps18
    go_wp2_with fail
    refine (G1.out _).mono ?_
    rintro e w' ⟨rfl, rfl⟩
    go_wp2_with fail
    refine (G2.out _).mono ?_
    rintro e w' ⟨rfl, rfl⟩
    go_wp2
    go_ret2
    exact ⟨rfl, rfl⟩
end Go.Proofs.YtnkgglmfoimbhaaGreatDoor
