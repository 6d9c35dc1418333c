/- The contract of lockboxref18.Session; lockboxlaw18.EmvSessions: the walk. -/
import Derived.Test.YtgffppmpmjaknaaDoorRef3G
import Derived.Test.YtgffppmpmjaknaaDoorLaw18A
import Derived.Test.YtgffppmpmjaknaaDoorSess18A
import Derived.Test.YtgffppmpmjaknaaDoorSame
namespace Go.Proofs.YtgffppmpmjaknaaDoor
open Go Go.RowKit Pr

set_option maxHeartbeats 2000000 in
set_option maxRecDepth 100000 in
theorem sessR_any (key : List Nat) (hk : key.length = 16) (gk : ∀ c ∈ key, c < 256) (A : Option Addr) (cp : Nat) (hcp : 16 ≤ cp) (n : Nat) (hn : n ≤ 65535) (w : World) (hA : At w A key) :
    Calls Tryd.prog 16 #[.slice A 16 cp, .int .i64 n] w fun e w' => (∃ v, e = .returned v ∧ Own w' w.heap.size v (pairN key (ssX n) (ssY n))) ∧ Below w.heap.size w w' := by
  obtain ⟨g, o, rfl, hN⟩ := hA (by intro h; rw [h] at hk; cases hk)
  have hg := hN.lt (by intro h; rw [h] at hk; cases hk)
  have hT := fun x hx gx B cb W a b => triple3_any key x hk gk hx gx (some ⟨g, o, none⟩) B cp cb hcp W a b
  have hX := hT (ssX n) rfl (ssX_lt n hn)
  have hY := hT (ssY n) rfl (ssY_lt n hn)
  have hlx := triple16_len (key.take 8) (key.drop 8) (ssX n) false
  have hly := triple16_len (key.take 8) (key.drop 8) (ssY n) false
  have hP : pairN key (ssX n) (ssY n) = triple16 (key.take 8) (key.drop 8) (ssX n) false ++ triple16 (key.take 8) (key.drop 8) (ssY n) false := rfl
  rw [hP]
  generalize triple16 (key.take 8) (key.drop 8) (ssX n) false = tx at *
  generalize triple16 (key.take 8) (key.drop 8) (ssY n) false = ty at *
  have HX := Lib.hid hX; clear hX
  have HY := Lib.hid hY; clear hY
  have HLX := Lib.hid hlx; clear hlx
  have HLY := Lib.hid hly; clear hly
  clear hT hA hP hk gk
  have d1 : IntKind.u8.wrap ((n : Int) / 256) = ((n / 256 : Nat) : Int) := by simp [IntKind.wrap, IntKind.bits, IntKind.signed]; omega
  have d2 : IntKind.u8.wrap ((n : Int) % 256) = ((n % 256 : Nat) : Int) := by simp [IntKind.wrap, IntKind.bits, IntKind.signed]
  have d3 : (n : Int).tmod 256 = (n : Int) % 256 := Int.tmod_eq_emod_of_nonneg (by omega)
  have hXs : ssX n = [n / 256, n % 256, 240, 0, 0, 0, 0, 0] := rfl
  have hYs : ssY n = [n / 256, n % 256, 15, 0, 0, 0, 0, 0] := rfl
  obtain ⟨a, ha⟩ : ∃ a, n / 256 = a := ⟨_, rfl⟩
  obtain ⟨b, hb⟩ : ∃ b, n % 256 = b := ⟨_, rfl⟩
  rw [ha] at d1 hXs hYs
  rw [hb] at d2 hXs hYs
  clear ha hb
  generalize ssX n = X at *
  generalize ssY n = Y at *
  have hBX : ∀ W : World, At (W.alloc (.cells #[.int .u8 (a : Int), .int .u8 (b : Int), .int .u8 240, .int .u8 0, .int .u8 0, .int .u8 0, .int .u8 0, .int .u8 0] 5)) (some ⟨W.heap.size, 0, none⟩) X := fun W _ => ⟨_, _, rfl, Bs.of_blk (l := X) (by
    have := Blk.new W 5 (byteCells X)
    rw [hXs] at this ⊢
    simpa [byteCells] using this) (fun j c hj => by rw [Nat.zero_add]; exact hj)⟩
  have hBY : ∀ W : World, At (W.alloc (.cells #[.int .u8 (a : Int), .int .u8 (b : Int), .int .u8 15, .int .u8 0, .int .u8 0, .int .u8 0, .int .u8 0, .int .u8 0] 5)) (some ⟨W.heap.size, 0, none⟩) Y := fun W _ => ⟨_, _, rfl, Bs.of_blk (l := Y) (by
    have := Blk.new W 5 (byteCells Y)
    rw [hYs] at this ⊢
    simpa [byteCells] using this) (fun j c hj => by rw [Nat.zero_add]; exact hj)⟩
  have HBX := Lib.hid hBX; clear hBX
  have HBY := Lib.hid hBY; clear hBY
  clear hXs hYs
  go_enter Tryd.func16, Tryd.ntmps16
  go_wp2_with fail
  refine (HX.out _ _ _ (fun _ => ⟨_, _, rfl, hN.alloc _⟩) (HBX.out w)).mono ?_
  rintro e w1 ⟨⟨v, rfl, hv⟩, hb1⟩
  obtain ⟨g1, c1, rfl, -, -, hg1, hN1⟩ := hv.form (by intro h; have := HLX.out; rw [h] at this; cases this)
  rw [HLX.out]
  have hb1' : Below w.heap.size w w1 := ((Below.refl _ _).alloc (Nat.le_refl _) _).trans (hb1.mono (by simp))
  clear hv hb1
  go_wp2_with fail
  refine (HY.out _ _ _ (fun _ => ⟨_, _, rfl, (hN.below hb1' hg).alloc _⟩) (HBY.out w1)).mono ?_
  rintro e w2 ⟨⟨v, rfl, hv⟩, hb2⟩
  obtain ⟨g2, c2, rfl, -, -, hg2, hN2⟩ := hv.form (by intro h; have := HLY.out; rw [h] at this; cases this)
  rw [HLY.out]
  have hb2' : Below w1.heap.size w1 w2 := ((Below.refl _ _).alloc (Nat.le_refl _) _).trans (hb2.mono (by simp))
  have hN12 := hN1.below hb2' hg1
  have hg12 := Nat.lt_of_lt_of_le hg1 hb2'.size
  clear hv hb2
  have hmE : OwnN 5 .u8 (w2.alloc (.cells #[] 5)) w2.heap.size (.slice (some ⟨w2.heap.size, 0, none⟩) 0 0) [] := OwnN.made _ _ w2 _ (Nat.le_refl _)
  have hbE : Below w2.heap.size w2 (w2.alloc (.cells #[] 5)) := (Below.refl _ _).alloc (Nat.le_refl _) _
  go_wp2_with (first
    | (at_builtin; refine wpList_append_nums rfl (.tmp 25) (.tmp 26) 22 rfl .u8 5 1 Tryd.underlying22 info_byte w2.heap.size w2 _ [] rfl hmE hbE (by simp) _ 8 _ tx rfl HLX.out ⟨_, _, rfl, hN12.alloc _⟩ (by simp) (by omega) ?_; intro x4 w4 hx4 hy4 hz4)
    | (at_builtin; refine wpList_append_nums rfl (.tmp 27) (.tmp 28) 22 rfl .u8 5 1 Tryd.underlying22 info_byte w2.heap.size w2 _ ([] ++ tx) rfl hx4 hy4 hy4.size _ 8 _ ty rfl HLY.out ⟨_, _, rfl, hN2.below hy4 hg2⟩ (by rw [List.nil_append, HLX.out]; decide) (by omega) ?_; intro x5 w5 hx5 hy5 hz5; rw [List.nil_append] at hx5))
  go_ret
  have s1 := hb1'.size
  have s2 := hb2'.size
  exact ⟨⟨_, rfl, OwnN.more hx5 (by omega)⟩, hb1'.trans ((hb2'.trans (hy5.mono s2)).mono s1)⟩

set_option maxHeartbeats 2000000 in
set_option maxRecDepth 100000 in
theorem sessions18 (w : World) (l : List Nat) (hb : ∀ c ∈ l, c < 256) (A : Option Addr) (cp : Nat) (hcp : l.length ≤ cp) (hlen : l.length ≤ 140737488351232) (hA : At w A l) (counter : Int) (hG : EtOk w) :
    Calls Tryd.prog 3 #[.slice A l.length cp, .int .i64 counter] w fun e w' => e = .returned (.bool true) ∧ Below w.heap.size w w' := by
  by_cases hbig : 100 < l.length
  · have hb1 : (100 : Int) < (l.length : Int) := by omega
    generalize l.length = n at *
    clear hA
    go_enter Tryd.func3, Tryd.ntmps3
    go_wp2_with fail
    refine (awake18_any _ hG).mono ?_
    rintro e w1 ⟨rfl, hb⟩
    go_wp2_with fail
    refine (awake18_any _ (hG.below hb (Nat.le_refl _))).mono ?_
    rintro e w2 ⟨rfl, hb2⟩
    go_wp2
    go_ret
    exact ⟨rfl, hb.trans (hb2.mono hb.size)⟩
  · have hb1 : ¬ (100 : Int) < (l.length : Int) := by omega
    have HS := Lib.hid (fun W hA => session_any l hb A cp hcp counter W hA)
    have hAt : ∀ W, Below w.heap.size w W → At W A l := fun W hW => hA.below hW (Nat.le_refl _)
    have HAT := Lib.hid hAt; clear hAt hA
    by_cases hc : counter < 0 ∨ 65535 < counter
    · have hE : ssEr l.length counter = .no 1 := by unfold ssEr; rw [if_pos hc]
      have hV : ssVal l counter = [] := by unfold ssVal; rw [hE]
      rw [hE, hV] at HS
      clear hE hV
      generalize l.length = n at *
      rcases hc with hc | hc
      · go_enter Tryd.func3, Tryd.ntmps3
        go_wp2_with fail
        refine (awake18_any _ hG).mono ?_
        rintro e w1 ⟨rfl, hb⟩
        go_wp2_with fail
        refine (HS.out _ (HAT.out _ hb)).mono ?_
        rintro e w2 ⟨⟨v, u, rfl, hv, hu⟩, hb2⟩
        obtain ⟨A2, cap2, rfl, -, -⟩ := OwnN.form (e := 5) (kd := .u8) hv
        have hb12 := hb.trans (hb2.mono hb.size)
        go_wp2_with fail
        refine (code_any _ _ _ _ hu (hG.below hb12 (Nat.le_refl _))).mono ?_
        rintro e w3 ⟨rfl, hb3⟩
        have f1 : erCode (.no 1) = 1 := rfl
        have hb13 := hb12.trans (hb3.mono hb12.size)
        clear hu hv
        go_wp2
        go_ret
        exact ⟨rfl, hb13⟩
      · have hc0 : ¬ counter < 0 := by omega
        go_enter Tryd.func3, Tryd.ntmps3
        go_wp2_with fail
        refine (awake18_any _ hG).mono ?_
        rintro e w1 ⟨rfl, hb⟩
        go_wp2_with fail
        refine (HS.out _ (HAT.out _ hb)).mono ?_
        rintro e w2 ⟨⟨v, u, rfl, hv, hu⟩, hb2⟩
        obtain ⟨A2, cap2, rfl, -, -⟩ := OwnN.form (e := 5) (kd := .u8) hv
        have hb12 := hb.trans (hb2.mono hb.size)
        go_wp2_with fail
        refine (code_any _ _ _ _ hu (hG.below hb12 (Nat.le_refl _))).mono ?_
        rintro e w3 ⟨rfl, hb3⟩
        have f1 : erCode (.no 1) = 1 := rfl
        have hb13 := hb12.trans (hb3.mono hb12.size)
        clear hu hv
        go_wp2
        go_ret
        exact ⟨rfl, hb13⟩
    · have hc0 : ¬ counter < 0 := by omega
      have hc1 : ¬ 65535 < counter := by omega
      obtain ⟨k, rfl⟩ := Int.eq_ofNat_of_zero_le (by omega : 0 ≤ counter)
      by_cases h16 : l.length = 16
      · have hk : k ≤ 65535 := by omega
        have hV := ssVal_ok l h16 k hk
        have hE := ssEr_ok k hk
        rw [h16, hE, hV] at HS
        have HR := Lib.hid (fun W hA => sessR_any l h16 hb A cp (by omega) k hk W hA)
        have hl := pairN_len l (ssX k) (ssY k)
        have hlt := pairN_lt l (ssX k) (ssY k)
        rw [h16]
        clear hV hE
        generalize pairN l (ssX k) (ssY k) = V at *
        have HL := Lib.hid hl; clear hl
        have t16 : ((16 : Int) != 16) = false := rfl
        clear h16 hbig hb1 hcp hlen hc
        go_enter Tryd.func3, Tryd.ntmps3
        go_wp2_with fail
        refine (awake18_any _ hG).mono ?_
        rintro e w1 ⟨rfl, hb⟩
        go_wp2_with fail
        refine (HS.out _ (HAT.out _ hb)).mono ?_
        rintro e w2 ⟨⟨v, u, rfl, hv, hu⟩, hb2⟩
        obtain rfl : u = _ := hu
        obtain ⟨g1, c1, rfl, -, -, hg1, hN1⟩ := hv.form (by intro h; have := HL.out; rw [h] at this; cases this)
        rw [HL.out]
        have hb12 := hb.trans (hb2.mono hb.size)
        clear hv
        go_wp2_with fail
        refine (HR.out _ (HAT.out _ hb12)).mono ?_
        rintro e w3 ⟨⟨v, rfl, hv⟩, hb3⟩
        obtain ⟨g2, c2, rfl, -, -, hg2, hN2⟩ := hv.form (by intro h; have := HL.out; rw [h] at this; cases this)
        rw [HL.out]
        have hb13 := hb12.trans (hb3.mono hb12.size)
        have HSM := Lib.hid (fun W hA hB => same_any V V (some ⟨g1, 0, none⟩) (some ⟨g2, 0, none⟩) c1 c2 hlt hlt (by rw [HL.out]; decide) W hA hB)
        rw [HL.out, show decide (V = V) = true by simp] at HSM
        have hN13 := hN1.below hb3 hg1
        clear hv
        go_wp2_with fail
        refine (HSM.out _ (fun _ => ⟨_, _, rfl, hN13⟩) (fun _ => ⟨_, _, rfl, hN2⟩)).mono ?_
        rintro e w4 ⟨rfl, n4, rfl⟩
        go_wp2
        go_ret
        exact ⟨rfl, below_drewN hb13 _⟩
      · have hE : ssEr l.length (k : Int) = .no 2 := by unfold ssEr; rw [if_neg (by omega), if_pos h16]
        have hV : ssVal l (k : Int) = [] := by unfold ssVal; rw [hE]
        rw [hE, hV] at HS
        have t16 : ((l.length : Int) != 16) = true := by rw [bne_iff_ne]; omega
        clear hE hV
        generalize l.length = n at *
        clear h16 hbig hc
        go_enter Tryd.func3, Tryd.ntmps3
        go_wp2_with fail
        refine (awake18_any _ hG).mono ?_
        rintro e w1 ⟨rfl, hb⟩
        go_wp2_with fail
        refine (HS.out _ (HAT.out _ hb)).mono ?_
        rintro e w2 ⟨⟨v, u, rfl, hv, hu⟩, hb2⟩
        obtain ⟨A2, cap2, rfl, -, -⟩ := OwnN.form (e := 5) (kd := .u8) hv
        have hb12 := hb.trans (hb2.mono hb.size)
        go_wp2_with fail
        refine (code_any _ _ _ _ hu (hG.below hb12 (Nat.le_refl _))).mono ?_
        rintro e w3 ⟨rfl, hb3⟩
        have f1 : erCode (.no 2) = 2 := rfl
        have hb13 := hb12.trans (hb3.mono hb12.size)
        clear hu hv
        go_wp2
        go_ret
        exact ⟨rfl, hb13⟩
end Go.Proofs.YtgffppmpmjaknaaDoor
