/- head.Right, head.ahead, head.Fits, lockboxref10.Wrong. -/
import Derived.Test.YtcjnkobddeiahaaDoorHeadB
namespace Go.Proofs.YtcjnkobddeiahaaDoor
open Go Go.RowKit Pr
namespace Pr
/-- a head's fields -/
structure Hd where
  ver : UInt8
  usage : ByteArray
  alg : UInt8
  mode : UInt8
  serial : ByteArray
  exp : UInt8
def Hd.cells (h : Hd) : Array Value := #[.int .u8 (h.ver.toNat : Int), .string h.usage, .int .u8 (h.alg.toNat : Int), .int .u8 (h.mode.toNat : Int), .string h.serial, .int .u8 (h.exp.toNat : Int)]
def sBD : ByteArray := ⟨#[66, 68]⟩
def sTA : ByteArray := ⟨#[84, 65]⟩
def sMO : ByteArray := ⟨#[66, 67, 68, 69, 71, 78, 83, 84, 86, 88, 89]⟩
def sEX : ByteArray := ⟨#[69, 78, 83]⟩
/-- the place of the first field that is wrong -/
def rE (b0 b1 b2 b3 b4 b5 : Bool) : Er := if b0 then (if b1 then (if b2 then (if b3 then (if b4 then (if b5 then .ok else .fa 11 6) else .fa 9 6) else .fa 8 6) else .fa 7 6) else .fa 5 6) else .fa 0 6
def rightEr (h : Hd) : Er := rE (isIn sBD.data.toList h.ver) (letB h.usage.data.toList) (isIn sTA.data.toList h.alg) (isIn sMO.data.toList h.mode) (letB h.serial.data.toList) (isIn sEX.data.toList h.exp)
theorem rightEr_cases (h : Hd) : rightEr h = .ok ∨ ∃ k : Nat, rightEr h = .fa k 6 ∧ k ≤ 11 := by
  unfold rightEr rE
  repeat' split
  all_goals first | exact .inl rfl | exact .inr ⟨0, rfl, by omega⟩ | exact .inr ⟨5, rfl, by omega⟩ | exact .inr ⟨7, rfl, by omega⟩ | exact .inr ⟨8, rfl, by omega⟩ | exact .inr ⟨9, rfl, by omega⟩ | exact .inr ⟨11, rfl, by omega⟩
end Pr

set_option maxHeartbeats 2000000 in
set_option maxRecDepth 100000 in
theorem right_any (h : Hd) (hu : h.usage.size ≤ 140737488351232) (hs : h.serial.size ≤ 140737488351232) (w : World) :
    Calls Tryd.prog 11 #[.agg h.cells] w fun e w' => (∃ v, e = .returned v ∧ ErIs w' w.heap.size v (rightEr h)) ∧ Below w.heap.size w w' := by
  have H0 := Lib.hid (fun W => one_any h.ver _ rfl sBD W)
  have H1 := Lib.hid (fun W => letters_any h.usage hu W)
  have H2 := Lib.hid (fun W => one_any h.alg _ rfl sTA W)
  have H3 := Lib.hid (fun W => one_any h.mode _ rfl sMO W)
  have H4 := Lib.hid (fun W => letters_any h.serial hs W)
  have H5 := Lib.hid (fun W => one_any h.exp _ rfl sEX W)
  have HWR := Lib.hid (fun p W => wrongH_any p W)
  unfold rightEr Hd.cells
  generalize isIn sBD.data.toList h.ver = b0 at *
  generalize letB h.usage.data.toList = b1 at *
  generalize isIn sTA.data.toList h.alg = b2 at *
  generalize isIn sMO.data.toList h.mode = b3 at *
  generalize letB h.serial.data.toList = b4 at *
  generalize isIn sEX.data.toList h.exp = b5 at *
  unfold sBD at H0
  unfold sTA at H2
  unfold sMO at H3
  unfold sEX at H5
  generalize h.ver.toNat = v0 at *
  generalize h.usage = v1 at *
  generalize h.alg.toNat = v2 at *
  generalize h.mode.toNat = v3 at *
  generalize h.serial = v4 at *
  generalize h.exp.toNat = v5 at *
  have hb0 : Below w.heap.size w (w.alloc (.cells #[.int .u8 (v0 : Int), .string v1, .int .u8 (v2 : Int), .int .u8 (v3 : Int), .string v4, .int .u8 (v5 : Int)] 23)) := (Below.refl _ _).alloc (Nat.le_refl _) _
  obtain ⟨R, hR⟩ : ∃ R, rE b0 b1 b2 b3 b4 b5 = R := ⟨_, rfl⟩
  rw [hR]
  have HR := Lib.hid hR; clear hR
  have hfin : ∀ (w' : World) (p : Int) (v : Value), R = .fa p 6 → ErIs w' (w.heap.size + 1) v (.fa p 6) → Below (w.heap.size + 1) (w.alloc (.cells #[.int .u8 (v0 : Int), .string v1, .int .u8 (v2 : Int), .int .u8 (v3 : Int), .string v4, .int .u8 (v5 : Int)] 23)) w' → (∃ v', Ending.returned v = .returned v' ∧ ErIs w' w.heap.size v' R) ∧ Below w.heap.size w w' := fun w' p v e h1 h2 => by
    rw [e]
    exact ⟨⟨v, rfl, h1.more (by omega)⟩, hb0.trans (h2.mono (by omega))⟩
  have HFIN := Lib.hid hfin; clear hfin
  go_enter Tryd.func11, Tryd.ntmps11
  go_wp2_with fail
  refine (H0.out _).mono ?_
  rintro e w1 ⟨rfl, rfl⟩
  cases b0 with
  | false =>
    go_wp2_with fail
    refine (HWR.out _ _).mono ?_
    rintro e w1 ⟨⟨v, rfl, hv⟩, hb⟩
    go_wp2
    go_ret
    exact HFIN.out _ 0 v (HR.out.symm) (by simpa using hv) (by simpa using hb)
  | true =>
    go_wp2_with fail
    refine (H1.out _).mono ?_
    rintro e w1 ⟨rfl, rfl⟩
    cases b1 with
    | false =>
      go_wp2_with fail
      refine (HWR.out _ _).mono ?_
      rintro e w1 ⟨⟨v, rfl, hv⟩, hb⟩
      go_wp2
      go_ret
      exact HFIN.out _ 5 v (HR.out.symm) (by simpa using hv) (by simpa using hb)
    | true =>
      go_wp2_with fail
      refine (H2.out _).mono ?_
      rintro e w1 ⟨rfl, rfl⟩
      cases b2 with
      | false =>
        go_wp2_with fail
        refine (HWR.out _ _).mono ?_
        rintro e w1 ⟨⟨v, rfl, hv⟩, hb⟩
        go_wp2
        go_ret
        exact HFIN.out _ 7 v (HR.out.symm) (by simpa using hv) (by simpa using hb)
      | true =>
        go_wp2_with fail
        refine (H3.out _).mono ?_
        rintro e w1 ⟨rfl, rfl⟩
        cases b3 with
        | false =>
          go_wp2_with fail
          refine (HWR.out _ _).mono ?_
          rintro e w1 ⟨⟨v, rfl, hv⟩, hb⟩
          go_wp2
          go_ret
          exact HFIN.out _ 8 v (HR.out.symm) (by simpa using hv) (by simpa using hb)
        | true =>
          go_wp2_with fail
          refine (H4.out _).mono ?_
          rintro e w1 ⟨rfl, rfl⟩
          cases b4 with
          | false =>
            go_wp2_with fail
            refine (HWR.out _ _).mono ?_
            rintro e w1 ⟨⟨v, rfl, hv⟩, hb⟩
            go_wp2
            go_ret
            exact HFIN.out _ 9 v (HR.out.symm) (by simpa using hv) (by simpa using hb)
          | true =>
            go_wp2_with fail
            refine (H5.out _).mono ?_
            rintro e w1 ⟨rfl, rfl⟩
            cases b5 with
            | false =>
              go_wp2_with fail
              refine (HWR.out _ _).mono ?_
              rintro e w1 ⟨⟨v, rfl, hv⟩, hb⟩
              go_wp2
              go_ret
              exact HFIN.out _ 11 v (HR.out.symm) (by simpa using hv) (by simpa using hb)
            | true =>
              go_wp2
              go_ret
              exact ⟨⟨_, rfl, by rw [← HR.out]; rfl⟩, hb0⟩

set_option maxHeartbeats 2000000 in
set_option maxRecDepth 100000 in
theorem refWrong_any (h : Hd) (hu : h.usage.size ≤ 140737488351232) (hs : h.serial.size ≤ 140737488351232) (w : World) :
    Calls Tryd.prog 12 #[.agg h.cells] w fun e w' => e = .returned (.int .i64 (erAt (rightEr h))) ∧ Below w.heap.size w w' := by
  have H0 := Lib.hid (fun W => inR_any h.ver _ rfl sBD (by decide) W)
  have H1 := Lib.hid (fun W => pairR_any h.usage hu W)
  have H2 := Lib.hid (fun W => inR_any h.alg _ rfl sTA (by decide) W)
  have H3 := Lib.hid (fun W => inR_any h.mode _ rfl sMO (by decide) W)
  have H4 := Lib.hid (fun W => pairR_any h.serial hs W)
  have H5 := Lib.hid (fun W => inR_any h.exp _ rfl sEX (by decide) W)
  unfold rightEr Hd.cells
  generalize isIn sBD.data.toList h.ver = b0 at *
  generalize letB h.usage.data.toList = b1 at *
  generalize isIn sTA.data.toList h.alg = b2 at *
  generalize isIn sMO.data.toList h.mode = b3 at *
  generalize letB h.serial.data.toList = b4 at *
  generalize isIn sEX.data.toList h.exp = b5 at *
  unfold sBD at H0
  unfold sTA at H2
  unfold sMO at H3
  unfold sEX at H5
  generalize h.ver.toNat = v0 at *
  generalize h.usage = v1 at *
  generalize h.alg.toNat = v2 at *
  generalize h.mode.toNat = v3 at *
  generalize h.serial = v4 at *
  generalize h.exp.toNat = v5 at *
  have hb0 : Below w.heap.size w (w.alloc (.cells #[.int .u8 (v0 : Int), .string v1, .int .u8 (v2 : Int), .int .u8 (v3 : Int), .string v4, .int .u8 (v5 : Int)] 23)) := (Below.refl _ _).alloc (Nat.le_refl _) _
  obtain ⟨R, hR⟩ : ∃ R, erAt (rE b0 b1 b2 b3 b4 b5) = R := ⟨_, rfl⟩
  rw [hR]
  have HR := Lib.hid hR; clear hR
  go_enter Tryd.func12, Tryd.ntmps12
  go_wp2_with fail
  refine (H0.out _).mono ?_
  rintro e w1 ⟨rfl, rfl⟩
  cases b0 with
  | false =>
    go_wp2
    go_ret
    exact ⟨by rw [← HR.out]; rfl, hb0⟩
  | true =>
    go_wp2_with fail
    refine (H1.out _).mono ?_
    rintro e w1 ⟨rfl, rfl⟩
    cases b1 with
    | false =>
      go_wp2
      go_ret
      exact ⟨by rw [← HR.out]; rfl, hb0⟩
    | true =>
      go_wp2_with fail
      refine (H2.out _).mono ?_
      rintro e w1 ⟨rfl, rfl⟩
      cases b2 with
      | false =>
        go_wp2
        go_ret
        exact ⟨by rw [← HR.out]; rfl, hb0⟩
      | true =>
        go_wp2_with fail
        refine (H3.out _).mono ?_
        rintro e w1 ⟨rfl, rfl⟩
        cases b3 with
        | false =>
          go_wp2
          go_ret
          exact ⟨by rw [← HR.out]; rfl, hb0⟩
        | true =>
          go_wp2_with fail
          refine (H4.out _).mono ?_
          rintro e w1 ⟨rfl, rfl⟩
          cases b4 with
          | false =>
            go_wp2
            go_ret
            exact ⟨by rw [← HR.out]; rfl, hb0⟩
          | true =>
            go_wp2_with fail
            refine (H5.out _).mono ?_
            rintro e w1 ⟨rfl, rfl⟩
            cases b5 with
            | false =>
              go_wp2
              go_ret
              exact ⟨by rw [← HR.out]; rfl, hb0⟩
            | true =>
              go_wp2
              go_ret
              exact ⟨by rw [← HR.out]; rfl, hb0⟩
end Go.Proofs.YtcjnkobddeiahaaDoor
