/- lockboxlaw18.EmvSession: the walk. -/
import Derived.Test.YtgffppmpmjaknaaDoorSess18A
import Derived.Test.YtgffppmpmjaknaaDoorSame
import Derived.Test.YtgffppmpmjaknaaDoorArr
namespace Go.Proofs.YtgffppmpmjaknaaDoor
open Go Go.RowKit Pr

set_option maxHeartbeats 4000000 in
set_option maxRecDepth 100000 in
theorem sess18 (l : List Nat) (hl : l.length = 16) (hb : ∀ c ∈ l, c < 256) (pan : ByteArray) (hp : pan.size ≤ 140737488351232) (d1 : Nat) (hd1 : d1 < 65536) (d2 : Nat) (hd2 : d2 < 65536) (w : World) (hG : EtOk w) :
    Calls Tryd.prog 4 #[.agg (byteCells l), .string pan, .int .u16 (d1 : Int), .int .u16 (d2 : Int)] w fun e w' => e = .returned (.bool true) ∧ Below w.heap.size w w' := by
  obtain ⟨cl, hcl⟩ : ∃ cl, byteCells l = cl := ⟨_, rfl⟩
  rw [hcl]
  have HCL := Lib.hid hcl; clear hcl
  have HL := Lib.hid hl; clear hl
  have hat : ∀ W (g : Nat), Blk W g 32 cl → At W (some ⟨g, 0, none⟩) l := fun W g h _ => ⟨_, _, rfl, Bs.of_blk (by rw [← HCL.out] at h; exact h) (fun j c hj => by rw [Nat.zero_add]; exact hj)⟩
  have HAT := Lib.hid hat; clear hat
  have hC1 := fun W hA => card_any l hb (some ⟨w.heap.size, 0, none⟩) 16 (by rw [HL.out]; exact Nat.le_refl _) pan ⟨#[48, 49]⟩ hp W hA
  rw [HL.out] at hC1
  have hbel0 : Below w.heap.size w (w.alloc (.cells cl 32)) := (Below.refl _ _).alloc (Nat.le_refl _) _
  by_cases hok : cardEr 16 pan.data.toList [48, 49] = .ok
  · have hV := cardVal_ok (key := l) (pan := pan.data.toList) (seq := [48, 49]) (by rw [HL.out]; exact hok)
    rw [show (⟨#[48, 49]⟩ : ByteArray).data.toList = [48, 49] from rfl, hV, hok] at hC1
    have hCl := cardN_len l pan.data.toList [48, 49]
    have hClt := cardN_lt l pan.data.toList [48, 49]
    have hodd := cardN_odd l pan.data.toList [48, 49]
    clear hok hV
    generalize cardN l pan.data.toList [48, 49] = C at *
    have HC1 := Lib.hid hC1; clear hC1
    have hS := fun (g cap : Nat) (hcap : 16 ≤ cap) (n : Nat) (hn : n ≤ 65535) W hA => session_any C hClt (some ⟨g, 0, none⟩) cap (by rw [hCl]; exact hcap) (n : Int) W hA
    simp only [hCl] at hS
    have hSv := fun n hn => ssVal_ok C hCl n hn
    have hkeys := sessKeys C d1 d2 (by omega) (by omega)
    have hhalf := sessHalves C d1 (by omega)
    have HSV1 := Lib.hid (hSv d1 (by omega))
    have HSV2 := Lib.hid (hSv d2 (by omega))
    clear hSv
    have hX1l := pairN_len C (ssX d1) (ssY d1)
    have hX2l := pairN_len C (ssX d2) (ssY d2)
    have hX1b := pairN_lt C (ssX d1) (ssY d1)
    have hX2b := pairN_lt C (ssX d2) (ssY d2)
    generalize pairN C (ssX d1) (ssY d1) = X1 at *
    generalize pairN C (ssX d2) (ssY d2) = X2 at *
    have HS := Lib.hid hS; clear hS
    have HKEYS := Lib.hid hkeys; clear hkeys
    have HHALF := Lib.hid hhalf; clear hhalf
    have hE := fun g cap (hcap : 16 ≤ cap) W hA => even_any C hClt (by omega) (some ⟨g, 0, none⟩) cap (by omega) W hA
    simp only [hCl, hodd] at hE
    have HE := Lib.hid hE; clear hE hodd
    have HCLN := Lib.hid hCl; clear hCl
    have HX1 := Lib.hid hX1l; clear hX1l
    have HX2 := Lib.hid hX2l; clear hX2l
    have e1 : IntKind.i64.wrap (d1 : Int) = d1 := IntWalk.i64_in _ (by omega)
    have e2 : IntKind.i64.wrap (d2 : Int) = d2 := IntWalk.i64_in _ (by omega)
    go_enter Tryd.func4, Tryd.ntmps4
    go_wp2_with fail
    refine (HC1.out _ (HAT.out _ _ (Blk.new w _ cl))).mono ?_
    rintro e w1 ⟨⟨v, u, rfl, hv, hu⟩, hb1⟩
    obtain rfl : u = _ := hu
    have hb1' := hbel0.trans (hb1.mono hbel0.size)
    obtain ⟨g1, cap1, rfl, -, hcap1, hgl1, hBC1⟩ := hv.form (by intro h; have := HCLN.out; rw [h] at this; cases this)
    rw [HCLN.out] at hcap1 ⊢
    clear hv
    go_wp2_with fail
    refine (awake18_any _ (hG.below hb1' (Nat.le_refl _))).mono ?_
    rintro e w2 ⟨rfl, hb2⟩
    have hb2' := hb1'.trans (hb2.mono hb1'.size)
    have hBC2 := hBC1.below hb2 hgl1
    have hgl2 := Nat.lt_of_lt_of_le hgl1 hb2.size
    go_wp2_with fail
    refine (HS.out g1 cap1 hcap1 d1 (by omega) _ (fun _ => ⟨_, _, rfl, hBC2⟩)).mono ?_
    rintro e w3 ⟨⟨v, u, rfl, hv, hu⟩, hb3⟩
    rw [ssEr_ok d1 (by omega)] at hu
    rw [HSV1.out] at hv
    obtain rfl : u = _ := hu
    have hb3' := hb2'.trans (hb3.mono hb2'.size)
    obtain ⟨g3, cap3, rfl, -, hcap3, hgl3, hBX3⟩ := hv.form (by intro h; have := HX1.out; rw [h] at this; cases this)
    rw [HX1.out] at hcap3 ⊢
    clear hv
    have hBC3 := hBC2.below hb3 hgl2
    have hgl3' := Nat.lt_of_lt_of_le hgl2 hb3.size
    go_wp2_with fail
    refine (HS.out g1 cap1 hcap1 d2 (by omega) _ (fun _ => ⟨_, _, rfl, hBC3⟩)).mono ?_
    rintro e w4 ⟨⟨v, u, rfl, hv, hu⟩, hb4⟩
    rw [ssEr_ok d2 (by omega)] at hu
    rw [HSV2.out] at hv
    obtain rfl : u = _ := hu
    have hb4' := hb3'.trans (hb4.mono hb3'.size)
    obtain ⟨g4, cap4, rfl, -, hcap4, hgl4, hBY4⟩ := hv.form (by intro h; have := HX2.out; rw [h] at this; cases this)
    rw [HX2.out] at hcap4 ⊢
    clear hv
    have hBC4 := hBC3.below hb4 hgl3'
    have hBX4 := hBX3.below hb4 hgl3
    have hgl5 := Nat.lt_of_lt_of_le hgl3' hb4.size
    have hgl6 := Nat.lt_of_lt_of_le hgl3 hb4.size
    clear HC1 HS hb1 hb2 hb3 hb4
    go_wp2_with fail
    refine wp_region_tree (.q 0 (.q 1 (.q 2 (.q 3 (.q 4 (.q 5 (.q 6 (.q 7 (.e [8] fun _ => .q 9 (.q 10 (.q 11 (.q 12 (.q 13 (.q 15 (.q 16 (.q 17 (.e [14] fun _ => .q 18 (.q 19 (.q 20 (.q 21 (.q 22 (.q 23 (.q 24 (.e [25] fun _ => .q 26 (.q 27 (.q 28 .done)))))))))))))))))))))))))) (fun _ => True) rfl (by kernel_rfl) (fun _ _ d _ _ h => by cases d <;> exact h) ?_
    iterate 8 (refine t_q rfl rfl trivial _ (fun W hW => by (go_simp; rfl)) ?_; go_simp)
    refine t_e rfl rfl fun K hK => ?_
    go_simp
    refine (HE.out g1 cap1 hcap1 _ (fun _ => ⟨_, _, rfl, hBC4.drewN 1⟩)).mono ?_
    rintro e w5 ⟨rfl, hb5⟩
    refine hK _ _ trivial ?_
    clear hK K
    have hb5' := (below_drewN hb4' 1).trans (hb5.mono hb4'.size)
    have hBX5 := (hBX4.drewN 1).below hb5 hgl6
    have hBY5 := (hBY4.drewN 1).below hb5 hgl4
    go_simp
    iterate 8 (refine t_q rfl rfl trivial _ (fun W hW => by (go_simp; rfl)) ?_; go_simp)
    have HSM := fun W hA hB => same_any X1 X2 (some ⟨g3, 0, none⟩) (some ⟨g4, 0, none⟩) cap3 cap4 hX1b hX2b (by rw [HX1.out]; decide) W hA hB
    rw [HX1.out, HX2.out, HKEYS.out] at HSM
    refine t_e rfl rfl fun K hK => ?_
    go_simp
    refine (HSM _ (fun _ => ⟨_, _, rfl, hBX5⟩) (fun _ => ⟨_, _, rfl, hBY5⟩)).mono ?_
    rintro e w6 ⟨rfl, n6, rfl⟩
    refine hK _ _ trivial ?_
    clear hK K HSM
    go_simp
    have hdd : (decide (d1 = d2) == ((d1 : Int) == (d2 : Int))) = true := by
      by_cases h : d1 = d2
      · subst h; simp
      · rw [decide_eq_false h, beq_eq_false_iff_ne.2 (by omega : (d1 : Int) ≠ d2)]; rfl
    refine t_q rfl rfl trivial (.bool true) (fun W hW => by go_simp) ?_
    go_simp
    iterate 3 (refine t_q rfl rfl trivial _ (fun W hW => by (go_simp; rfl)) ?_; go_simp)
    have c8 : (8 : Int) ≤ (cap3 : Int) := by omega
    refine t_q rfl rfl trivial (.slice (some ⟨g3, 0, none⟩) 8 cap3) (fun W hW => by go_simp) ?_
    go_simp
    refine t_q rfl rfl trivial _ (fun W hW => by (go_simp; rfl)) ?_
    go_simp
    refine t_q rfl rfl trivial (.slice (some ⟨g3, 8, none⟩) 8 (cap3 - 8)) (fun W hW => by (go_simp; omega)) ?_
    go_simp
    have hX1l := HX1.out
    have HSH := fun W hA hB => same_any (X1.take 8) (X1.drop 8) (some ⟨g3, 0, none⟩) (some ⟨g3, 8, none⟩) cap3 (cap3 - 8) (fun c h => hX1b c (List.mem_of_mem_take h)) (fun c h => hX1b c (List.mem_of_mem_drop h)) (by rw [List.length_take, HX1.out]; decide) W hA hB
    rw [List.length_take, List.length_drop, HX1.out, HHALF.out] at HSH
    have hBa : Bs (w5.drewN n6) g3 0 (X1.take 8) := by have := (hBX5.drewN n6).sub 0 8; simpa using this
    have hBb : Bs (w5.drewN n6) g3 8 (X1.drop 8) := by have := (hBX5.drewN n6).sub 8 8; rwa [Nat.zero_add, List.take_of_length_le (by rw [List.length_drop, HX1.out]; decide)] at this
    refine t_e rfl rfl fun K hK => ?_
    go_simp
    refine (HSH _ (fun _ => ⟨_, _, rfl, hBa⟩) (fun _ => ⟨_, _, rfl, hBb⟩)).mono ?_
    rintro e w7 ⟨rfl, n7, rfl⟩
    refine hK _ _ trivial ?_
    clear hK K HSH
    go_simp
    iterate 3 (refine t_q rfl rfl trivial _ (fun W hW => by (go_simp; rfl)) ?_; go_simp)
    refine t_done ?_
    go_wp2
    go_ret
    exact ⟨rfl, below_drewN hb5' _⟩
  · have hV := cardVal_bad (key := l) (pan := pan.data.toList) (seq := [48, 49]) (by rw [HL.out]; exact hok)
    rw [show (⟨#[48, 49]⟩ : ByteArray).data.toList = [48, 49] from rfl, hV] at hC1
    generalize cardEr 16 pan.data.toList [48, 49] = er at *
    have HC1 := Lib.hid hC1
    clear hC1 hV
    have hCF : ∀ (W : World) (B : Nat) (v : Value), Own W B v [] → ∃ A cap, v = .slice A 0 cap := fun W B v h => by
      obtain ⟨A, cap, rfl, -, -⟩ := OwnN.form (e := 5) (kd := .u8) h
      exact ⟨A, cap, rfl⟩
    cases er with
    | ok => exact absurd rfl hok
    | no m =>
      clear hok
      go_enter Tryd.func4, Tryd.ntmps4
      go_wp2_with fail
      refine (HC1.out _ (HAT.out _ _ (Blk.new w _ cl))).mono ?_
      rintro e w1 ⟨⟨v, u, rfl, hv, hu⟩, hb1⟩
      obtain rfl : u = _ := hu
      obtain ⟨A, cap, rfl⟩ := hCF _ _ _ hv
      have hb1' := hbel0.trans (hb1.mono hbel0.size)
      go_wp2_with fail
      refine (awake18_any _ (hG.below hb1' (Nat.le_refl _))).mono ?_
      rintro e w2 ⟨rfl, hb2⟩
      have hb2' := hb1'.trans (hb2.mono hb1'.size)
      go_wp2_with fail
      refine (awake18_any _ (hG.below hb2' (Nat.le_refl _))).mono ?_
      rintro e w3 ⟨rfl, hb3⟩
      have hb3' := hb2'.trans (hb3.mono hb2'.size)
      go_wp2
      go_ret
      exact ⟨rfl, hb3'⟩
    | fa p m =>
      clear hok
      go_enter Tryd.func4, Tryd.ntmps4
      go_wp2_with fail
      refine (HC1.out _ (HAT.out _ _ (Blk.new w _ cl))).mono ?_
      rintro e w1 ⟨⟨v, u, rfl, hv, hu⟩, hb1⟩
      obtain ⟨g, rfl, _⟩ := hu
      obtain ⟨A, cap, rfl⟩ := hCF _ _ _ hv
      have hb1' := hbel0.trans (hb1.mono hbel0.size)
      go_wp2_with fail
      refine (awake18_any _ (hG.below hb1' (Nat.le_refl _))).mono ?_
      rintro e w2 ⟨rfl, hb2⟩
      have hb2' := hb1'.trans (hb2.mono hb1'.size)
      go_wp2_with fail
      refine (awake18_any _ (hG.below hb2' (Nat.le_refl _))).mono ?_
      rintro e w3 ⟨rfl, hb3⟩
      have hb3' := hb2'.trans (hb3.mono hb2'.size)
      go_wp2
      go_ret
      exact ⟨rfl, hb3'⟩
end Go.Proofs.YtgffppmpmjaknaaDoor
