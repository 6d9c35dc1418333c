/- lockboxlaw10.awake; lockboxlaw10.HeadFits: the walk. -/
import Derived.Test.YtcjnkobddeiahaaDoorHeadI
import Derived.Test.YtcjnkobddeiahaaDoorHeadD
namespace Go.Proofs.YtcjnkobddeiahaaDoor
open Go Go.RowKit Pr
theorem tabName : Tryd.prog.globalNamed "internal/strconv.uint64pow10" = some 1 := by kernel_rfl
theorem TabOk.below {w W : World} (h : TabOk w) (hb : Below w.heap.size w W) : TabOk W := by
  unfold TabOk Lib.TabIs World.var? at *
  rw [tabName] at *
  simp only [Option.bind_some] at *
  have hlt : 1 < w.heap.size := by
    rcases Nat.lt_or_ge 1 w.heap.size with hlt | hge
    · exact hlt
    · rw [Array.getElem?_eq_none hge] at h; cases h
  rw [hb.block _ hlt]
  exact h
def a10 : ByteArray := ⟨#[66, 48, 48, 49, 54, 80, 48, 84, 69, 48, 48, 69, 48, 48, 48, 48]⟩
def h10 : Hd := ⟨66, ⟨#[80, 48]⟩, 84, 69, ⟨#[48, 48]⟩, 69⟩
theorem a10_hd : parseHd a10 = h10 := by kernel_rfl
theorem a10_er : parseEr a10 = .ok := by kernel_rfl
theorem a10_n : parseN a10 = 16 := by kernel_rfl
theorem a10_print : printS h10 16 = a10 := by kernel_rfl
theorem a10_printE : printEr h10 16 = .ok := by kernel_rfl
theorem a10_fit : fitEr h10 ⟨#[80, 48]⟩ 69 = .ok := by kernel_rfl
theorem b10_er : parseEr ⟨#[66, 48, 48, 49]⟩ = .no 2 := by kernel_rfl
theorem b10_hd : parseHd ⟨#[66, 48, 48, 49]⟩ = Hd.zero := by kernel_rfl
theorem b10_n : parseN ⟨#[66, 48, 48, 49]⟩ = 0 := by kernel_rfl

set_option maxHeartbeats 2000000 in
set_option maxRecDepth 100000 in
theorem awake10_any (w : World) (hG : EtOk w) (hT : TabOk w) :
    Calls Tryd.prog 8 #[] w fun e w' => e = .returned (.bool true) ∧ Below w.heap.size w w' := by
  have H1 := parse_any a10 (by decide) w hG
  rw [a10_hd, a10_er, a10_n] at H1
  unfold a10 h10 Hd.cells at H1
  have H2 := fun W hW => print_any h10 (by decide) (by decide) 16 W hW
  rw [a10_print, a10_printE] at H2
  unfold a10 h10 Hd.cells at H2
  have H3 := fun W hW => parse_any ⟨#[66, 48, 48, 49]⟩ (by decide) W hW
  rw [b10_hd, b10_er, b10_n] at H3
  unfold Hd.zero Hd.cells at H3
  have H4 := fun W => fits_any h10 ⟨#[80, 48]⟩ 69 W
  rw [a10_fit] at H4
  unfold h10 Hd.cells at H4
  have H2 := Lib.hid H2
  have H3 := Lib.hid H3
  have H4 := Lib.hid H4
  go_enter Tryd.func8, Tryd.ntmps8
  go_wp2_with fail
  refine H1.mono ?_
  rintro e w1 ⟨⟨v, rfl, hv⟩, hb1⟩
  obtain rfl : v = _ := hv
  clear H1
  have hG1 := hG.below hb1 (Nat.le_refl _)
  have hT1 := hT.below hb1
  have hB1 := Blk.new w1 23 #[.int .u8 66, .string ⟨#[80, 48]⟩, .int .u8 84, .int .u8 69, .string ⟨#[48, 48]⟩, .int .u8 69]
  have hb1' := hb1.alloc hb1.size (.cells #[.int .u8 66, .string ⟨#[80, 48]⟩, .int .u8 84, .int .u8 69, .string ⟨#[48, 48]⟩, .int .u8 69] 23)
  have HT1 := Lib.hid hT1; clear hT1
  have HT := Lib.hid hT; clear hT
  have hlt1 := hB1.lt
  go_wp2_with fail
  refine (H2.out _ (fun W hW => HT.out.below (hb1'.trans (hW.mono hb1'.size)))).mono ?_
  rintro e w2 ⟨⟨v, rfl, hv⟩, hb2⟩
  obtain rfl : v = _ := hv
  have hB2 := hB1.below hb2 hlt1
  have hb2' := hb1'.trans (hb2.mono hb1'.size)
  have hG2 := hG.below hb2' (Nat.le_refl _)
  clear H2 hb2
  go_wp2_with fail
  refine (H3.out _ hG2).mono ?_
  rintro e w3 ⟨⟨v, rfl, hv⟩, hb3⟩
  obtain rfl : v = _ := hv
  have hB3 := (hB2.below hb3 hB2.lt).alloc (.cells #[.int .u8 0, .string ⟨#[]⟩, .int .u8 0, .int .u8 0, .string ⟨#[]⟩, .int .u8 0] 23)
  have hb3' := (hb2'.trans (hb3.mono hb2'.size)).alloc (hb2'.trans (hb3.mono hb2'.size)).size (.cells #[.int .u8 0, .string ⟨#[]⟩, .int .u8 0, .int .u8 0, .string ⟨#[]⟩, .int .u8 0] 23)
  have hG3 := hG.below hb3' (Nat.le_refl _)
  have k0 := hB3.cell 0
  have k1 := hB3.cell 1
  have k2 := hB3.cell 2
  have k3 := hB3.cell 3
  have k4 := hB3.cell 4
  have k5 := hB3.cell 5
  simp only [List.getElem?_toArray, List.getElem?_cons_zero, List.getElem?_cons_succ] at k0 k1 k2 k3 k4 k5
  clear H3 hb3
  go_wp2_with fail
  clear k0 k1 k2 k3 k4 k5
  refine (code_any _ (.no 2) 0 _ rfl hG3).mono ?_
  rintro e w4 ⟨rfl, hb4⟩
  have hb4' := hb3'.trans (hb4.mono hb3'.size)
  have hB4 := hB3.below hb4 hB3.lt
  have k0 := hB4.cell 0
  have k1 := hB4.cell 1
  have k2 := hB4.cell 2
  have k3 := hB4.cell 3
  have k4 := hB4.cell 4
  have k5 := hB4.cell 5
  simp only [List.getElem?_toArray, List.getElem?_cons_zero, List.getElem?_cons_succ] at k0 k1 k2 k3 k4 k5
  have f1 : erCode (.no 2) = 2 := rfl
  go_wp2_with fail
  refine (H4.out _).mono ?_
  rintro e w5 ⟨⟨v, rfl, hv⟩, hb5⟩
  obtain rfl : v = _ := hv
  have hb5' := hb4'.trans (hb5.mono hb4'.size)
  go_wp2
  go_ret
  exact ⟨rfl, hb5'⟩

theorem fitEr_ne {h : Hd} {usage : ByteArray} {mode : UInt8} (h1 : ¬ h.usage = usage) : fitEr h usage mode = .fa 5 5 := by unfold fitEr; rw [if_pos h1]
theorem fitEr_mode {h : Hd} {usage : ByteArray} {mode : UInt8} (h1 : h.usage = usage) (h2 : ¬ h.mode = mode) (h3 : ¬ h.mode = 78) : fitEr h usage mode = .fa 8 5 := by unfold fitEr; rw [if_neg (by simpa using h1), if_pos ⟨h2, h3⟩]
theorem fitEr_ok {h : Hd} {usage : ByteArray} {mode : UInt8} (h1 : h.usage = usage) (h2 : h.mode = mode ∨ h.mode = 78) : fitEr h usage mode = .ok := by
  unfold fitEr
  rw [if_neg (by simpa using h1), if_neg]
  rintro ⟨a, b⟩
  rcases h2 with h | h
  · exact a h
  · exact b h
theorem u8_ne (a b : UInt8) (h : ¬ a = b) : ((a.toNat : Int) != (b.toNat : Int)) = true := by
  rw [bne_iff_ne]
  intro h2
  exact h (UInt8.toNat_inj.1 (by omega))

set_option maxHeartbeats 2000000 in
set_option maxRecDepth 100000 in
theorem fits10 (h : Hd) (_hu : h.usage.size ≤ 140737488351232) (_hs : h.serial.size ≤ 140737488351232) (usage : ByteArray) (mode : UInt8) (w : World) (hG : EtOk w) (hT : TabOk w) :
    Calls Tryd.prog 7 #[.agg h.cells, .string usage, .int .u8 (mode.toNat : Int)] w fun e w' => e = .returned (.bool true) ∧ Below w.heap.size w w' := by
  have H1 := fun W => fits_any h usage mode W
  have hb0 : Below w.heap.size w (w.alloc (.cells h.cells 23)) := (Below.refl _ _).alloc (Nat.le_refl _) _
  have hB0 := Blk.new w 23 h.cells
  unfold Hd.cells at H1 hb0 hB0 ⊢
  have HM := Lib.hid (u8_ne h.mode mode)
  have HM2 := Lib.hid (u8_ne h.mode 78)
  rw [show ((78 : UInt8).toNat : Int) = 78 from rfl] at HM2
  have hcase : (¬ h.usage = usage ∧ fitEr h usage mode = .fa 5 5) ∨ (h.usage = usage ∧ ¬ h.mode = mode ∧ ¬ h.mode = 78 ∧ fitEr h usage mode = .fa 8 5) ∨ (h.usage = usage ∧ (h.mode = mode ∨ h.mode = 78) ∧ fitEr h usage mode = .ok) := by
    by_cases h1 : h.usage = usage
    · by_cases h2 : h.mode = mode ∨ h.mode = 78
      · exact .inr (.inr ⟨h1, h2, fitEr_ok h1 h2⟩)
      · exact .inr (.inl ⟨h1, fun h => h2 (.inl h), fun h => h2 (.inr h), fitEr_mode h1 (fun h => h2 (.inl h)) (fun h => h2 (.inr h))⟩)
    · exact .inl ⟨h1, fitEr_ne h1⟩
  generalize fitEr h usage mode = er at *
  have H1 := Lib.hid H1
  go_enter Tryd.func7, Tryd.ntmps7
  go_wp2_with fail
  refine (H1.out _).mono ?_
  rintro e w1 ⟨⟨v, rfl, hv⟩, hb1⟩
  have hB1 := hB0.below hb1 hB0.lt
  have hb1' := hb0.trans (hb1.mono hb0.size)
  clear hB0 hb0
  go_wp2_with fail
  refine (awake10_any _ (hG.below hb1' (Nat.le_refl _)) (hT.below hb1')).mono ?_
  rintro e w2 ⟨rfl, hb2⟩
  have hB2 := hB1.below hb2 hB1.lt
  have hb2' := hb1'.trans (hb2.mono hb1'.size)
  have hv2 := hv.below hb2 (Nat.le_refl _)
  have hG2 := hG.below hb2' (Nat.le_refl _)
  have hT2 := hT.below hb2'
  have k1 := hB2.cell 1
  have k3 := hB2.cell 3
  simp only [List.getElem?_toArray, List.getElem?_cons_zero, List.getElem?_cons_succ] at k1 k3
  clear hv hb1 hb2 hB1 hb1' H1 hT
  rcases hcase with ⟨h1, rfl⟩ | ⟨h1, h2, h3, rfl⟩ | ⟨h1, h2, rfl⟩
  · have t1 := str_ne h1
    clear HM HM2
    generalize h.mode.toNat = m at *
    generalize mode.toNat = m2 at *
    go_wp2_with fail
    refine (code_any _ _ _ _ hv2 hG2).mono ?_
    rintro e w3 ⟨rfl, hb3⟩
    have hv3 := hv2.below hb3 (Nat.le_refl _)
    have hb3' := hb2'.trans (hb3.mono hb2'.size)
    have f1 : erCode (.fa 5 5) = 5 := rfl
    go_wp2_with fail
    refine (at_any _ _ _ _ hv3 (hG.below hb3' (Nat.le_refl _))).mono ?_
    rintro e w4 ⟨rfl, hb4⟩
    have f2 : erAt (.fa 5 5) = 5 := rfl
    have hb4' := hb3'.trans (hb4.mono hb3'.size)
    go_wp2
    go_ret
    exact ⟨rfl, hb4'⟩
  · have t1 := HM.out h2
    have t2 := HM2.out h3
    clear HM HM2 h2 h3
    subst h1
    generalize h.mode.toNat = m at *
    generalize mode.toNat = m2 at *
    go_wp2_with fail
    refine (code_any _ _ _ _ hv2 hG2).mono ?_
    rintro e w3 ⟨rfl, hb3⟩
    have hv3 := hv2.below hb3 (Nat.le_refl _)
    have hb3' := hb2'.trans (hb3.mono hb2'.size)
    have f1 : erCode (.fa 8 5) = 5 := rfl
    go_wp2_with fail
    refine (at_any _ _ _ _ hv3 (hG.below hb3' (Nat.le_refl _))).mono ?_
    rintro e w4 ⟨rfl, hb4⟩
    have f2 : erAt (.fa 8 5) = 8 := rfl
    have hb4' := hb3'.trans (hb4.mono hb3'.size)
    go_wp2
    go_ret
    exact ⟨rfl, hb4'⟩
  · obtain rfl : v = _ := hv2
    have t1 : ((h.mode.toNat : Int) != (mode.toNat : Int)) = false ∨ ((h.mode.toNat : Int) != 78) = false := by
      rcases h2 with h | h
      · exact .inl (by rw [h]; simp)
      · exact .inr (by rw [h]; rfl)
    clear HM HM2 h2
    subst h1
    generalize h.mode.toNat = m at *
    generalize mode.toNat = m2 at *
    by_cases q : ((m : Int) != (m2 : Int)) = false
    · clear t1
      go_wp2
      go_ret
      exact ⟨rfl, hb2'⟩
    · have t2 : ((m : Int) != 78) = false := by
        rcases t1 with h | h
        · exact absurd h q
        · exact h
      rw [Bool.not_eq_false] at q
      clear t1
      go_wp2
      go_ret
      exact ⟨rfl, hb2'⟩
end Go.Proofs.YtcjnkobddeiahaaDoor
