/- The contract of lockboxref07.Cmac. -/
import Derived.Test.YtfkjkkjimdilcaaGreatDoorKRefZ
namespace Go.Proofs.YtfkjkkjimdilcaaGreatDoor
open Go Go.RowKit Pr

set_option maxHeartbeats 8000000 in
set_option maxRecDepth 100000 in
theorem refCmac_any (kind : Nat) (key : List Nat) (hk : KeyOk kind key) (kl ca : Nat) (hkl : key.length = kl) (hca : kl ≤ ca) (A : Option Addr) (r0 r1 : Option Addr) (n0 n1 c0 c1 : Nat)
    (t : List Nat) (L : Nat) (hl : t.length = L) (hL0 : 0 < L) (hL : L ≤ 900) (gt : Byt t) (T : Option Addr) (ct : Nat) (w : World) (hA : At w A key) (hT : At w T t) :
    Calls Tryz.prog 45 #[.int .i64 kind, .slice A kl ca, .agg #[.slice r0 n0 c0, .slice r1 n1 c1], .slice T L ct] w fun e w' => (∃ gv ov cv, e = .returned (.tuple #[.agg #[.slice r0 n0 c0, .slice r1 n1 c1], .slice (some ⟨gv, ov, none⟩) (sizeN kind) cv, .bool true]) ∧ w.heap.size ≤ gv ∧ Bs w' gv ov (cmacN kind key t)) ∧ Below w.heap.size w w' := by
  have hk12 := hk.kind
  have hdo := doOk_enc hk kl ca hkl hca A r0 r1 n0 n1 c0 c1
  have hcs : ∃ a0 a1 b0 b1 d0 d1, #[Value.slice r0 n0 c0, Value.slice r1 n1 c1] = #[Value.slice a0 b0 d0, Value.slice a1 b1 d1] := ⟨_, _, _, _, _, _, rfl⟩
  generalize #[Value.slice r0 n0 c0, Value.slice r1 n1 c1] = cs at *
  have hcz : cs.size = 2 := by obtain ⟨a0, a1, b0, b1, d0, d1, rfl⟩ := hcs; rfl
  have hco : cs.all (·.oneCell') = true := by obtain ⟨a0, a1, b0, b1, d0, d1, rfl⟩ := hcs; simp [Value.oneCell']
  have hpos := size_pos kind
  have h16 := size_le kind
  have hszk : sizeN kind = 8 ∨ sizeN kind = 16 := by unfold sizeN; split <;> omega
  have HSZ := Lib.hid (fun W => refSize_any kind hk12 W)
  have hd0 := hdo (List.replicate (sizeN kind) 0) (by rw [List.length_replicate]) (zero_byt _)
  have hZl : (cmacL kind key).length = sizeN kind := ciN_len _ _ _ _
  have hZb : Byt (cmacL kind key) := ciN_lt hk.1 (by rw [List.length_replicate]) (zero_byt _) false
  have hcl : ciN kind key (List.replicate (sizeN kind) 0) false = cmacL kind key := rfl
  rw [hcl] at hd0
  clear hcl
  have HDO := Lib.hid hd0; clear hd0
  obtain ⟨hTm, hTn, hTb⟩ := cmacT_ok (kind := kind) hk.1 gt
  have hTe : cmacT kind key t = (if padB t (sizeN kind) then padN t (sizeN kind) else t).take ((if padB t (sizeN kind) then padN t (sizeN kind) else t).length - sizeN kind) ++ xorTo ((if padB t (sizeN kind) then padN t (sizeN kind) else t).drop ((if padB t (sizeN kind) then padN t (sizeN kind) else t).length - sizeN kind)) (if padB t (sizeN kind) then dblN (dblN (cmacL kind key)) else dblN (cmacL kind key)) (sizeN kind) := rfl
  have hMe : cmacN kind key t = (chN kind key (List.replicate (sizeN kind) 0) (cmacT kind key t) false).drop ((chN kind key (List.replicate (sizeN kind) 0) (cmacT kind key t) false).length - sizeN kind) := rfl
  have hch := (chN_ok hk.1 (start := List.replicate (sizeN kind) 0) (by rw [List.length_replicate]) (zero_byt _) hTb hTm false).1
  rw [hch] at hMe
  have HCH := Lib.hid (fun TX TL a b c d e S T' cS cT h W p q r => refChE_any kind hk12 key hk.1 kl ca A cs hcs hdo (List.replicate (sizeN kind) 0) (by rw [List.length_replicate]) (zero_byt _) TX TL a b c d e S T' cS cT h W p q r)
  generalize cmacN kind key t = MC at *
  have hD1 := Lib.hid (fun A cp W hA => refDbl_any (cmacL kind key) (sizeN kind) hszk hZl hZb A cp W hA)
  have hDl : (dblN (cmacL kind key)).length = sizeN kind := by rw [dblN_len, hZl]
  have hDb := dblN_byt hZb
  have hD2 := Lib.hid (fun A cp W hA => refDbl_any (dblN (cmacL kind key)) (sizeN kind) hszk hDl hDb A cp W hA)
  have hEl : (dblN (dblN (cmacL kind key))).length = sizeN kind := by rw [dblN_len, hDl]
  have hEb := dblN_byt hDb
  generalize dblN (dblN (cmacL kind key)) = E at *
  generalize dblN (cmacL kind key) = DD at *
  generalize cmacL kind key = Z at *
  have hPD := Lib.hid (fun W hA => refPad_any t L hl hL0 hL (sizeN kind) hszk T ct W hA)
  have hpb : padB t (sizeN kind) = (L % sizeN kind != 0) := by unfold padB; rw [hl, show (L == 0) = false by rw [beq_eq_false_iff_ne]; omega, Bool.or_false]
  rw [hpb] at hTe
  have hpl := padN_len hpos t
  have hpL : (padN t (sizeN kind)).length ≤ L + 16 := by
    unfold padN
    rw [List.length_append, List.length_cons, List.length_replicate, hl]
    rcases hszk with h | h <;> rw [h] <;> omega
  have hpb2 := padN_byt gt (sizeN kind)
  generalize hTX : cmacT kind key t = TX at *
  generalize hXX : chN kind key (List.replicate (sizeN kind) 0) TX false = XX at *
  have HXX := Lib.hid hXX; clear hXX hTX
  have HAW := Lib.hid (fun W (hb : Below w.heap.size w W) => hA.below hb (Nat.le_refl _))
  have HTW := Lib.hid (fun W (hb : Below w.heap.size w W) => hT.below hb (Nat.le_refl _))
  have HXR := Lib.hid (fun (x y : List Nat) hx hy gx gy A B ca cb W a b => refXor_any x y (sizeN kind) hx hy hpos (by omega) gx gy A B ca cb W a b)
  generalize hn : sizeN kind = n at *
  clear hn hA hT hk hpb hdo hcs hszk
  have hL00 : ((L : Int) == 0) = false := by rw [beq_eq_false_iff_ne]; omega
  have HTE := Lib.hid hTe; clear hTe
  have HME := Lib.hid hMe; clear hMe
  have HZL := Lib.hid hZl; clear hZl
  have HDL := Lib.hid hDl; clear hDl
  have HEL := Lib.hid hEl; clear hEl
  have HL := Lib.hid hl; clear hl
  have HCX := Lib.hid hch; clear hch
  have HTM := Lib.hid hTm; clear hTm
  have HTB := Lib.hid hTb; clear hTb
  have HPL := Lib.hid hpl; clear hpl
  have HCZ := Lib.hid hcz; clear hcz
  have HCO := Lib.hid hco; clear hco
  have hS0 : Blk ((w.alloc (.cells cs 85)).alloc (.cells #[.slice none 0 0, .slice none 0 0] 85)) w.heap.size 85 cs := (Blk.new w _ _).alloc _
  have hR0 : Blk ((w.alloc (.cells cs 85)).alloc (.cells #[.slice none 0 0, .slice none 0 0] 85)) (w.heap.size + 1) 85 #[.slice none 0 0, .slice none 0 0] := Blk.new2 w _ _ _
  have hb0 : Below w.heap.size w ((w.alloc (.cells cs 85)).alloc (.cells #[.slice none 0 0, .slice none 0 0] 85)) := ((Below.refl _ _).alloc (Nat.le_refl _) _).alloc (by simp) _
  obtain ⟨wa, hwa⟩ : ∃ wa, (w.alloc (.cells cs 85)).alloc (.cells #[.slice none 0 0, .slice none 0 0] 85) = wa := ⟨_, rfl⟩
  rw [hwa] at hS0 hR0 hb0
  have HWA := Lib.hid hwa; clear hwa
  have HS0 := Lib.hid hS0; clear hS0
  have HR0 := Lib.hid hR0; clear hR0
  have HB0 := Lib.hid hb0; clear hb0
  go_enter Tryz.func45, Tryz.ntmps45
  go_wp2_with fail
  rw [HWA.out]
  clear HWA
  refine (HSZ.out _).mono ?_
  rintro e w1 ⟨rfl, rfl⟩
  go_wp2_with fail
  refine wp_region_tree (.q 0 (.q 1 (.q 2 (.q 3 (.e [4] fun _ => .e [5] fun _ => .q 6 (.q 7 (.q 8 (.q 9 (.e [10] fun _ => .q 11 (.q 12 (.done))))))))))) (fun W => Blk W w.heap.size 85 cs) rfl (by kernel_rfl) (fun _ _ d _ _ h => by cases d <;> exact h) ?_
  have hS := HS0.out.drewN 1
  have hR := HR0.out.drewN 1
  have hb := below_drewN HB0.out 1
  change wpT _ _ _ _ _ _ (World.drewN wa 1)
  clear HS0 HR0 HB0
  generalize (World.drewN wa 1) = w1 at *
  iterate 2 (refine t_q rfl rfl hS _ (fun W hW => by (go_simp; rfl)) ?_; go_simp)
  refine t_load_row rfl rfl 85 (.tmp 6) rfl w.heap.size rfl 85 cs hS (fun W hW => hW) _ Tryz.underlying85 rfl (by rw [info_book, HCZ.out]) ?_
  go_simp
  refine t_q rfl rfl hS _ (fun W hW => by (go_simp; rfl)) ?_
  go_simp
  refine t_e rfl rfl fun K hK => ?_
  refine op_make_bytes _ _ rfl .i64 .i64 n n n rfl rfl rfl rfl (by omega) fun w2 hb2 hB2 hs2 => ?_
  have hZ2 : At w2 (some ⟨w1.heap.size, 0, none⟩) (List.replicate n 0) := fun _ => ⟨_, _, rfl, Bs.ofBlk hB2⟩
  have hS2 := hS.below hb2 hS.lt
  have hR2 := hR.below hb2 hR.lt
  have hbel2 := hb.trans (hb2.mono hb.size)
  refine hK _ _ hS2 ?_
  clear hK K hB2 hs2 hS hR
  refine t_e rfl rfl fun K hK => ?_
  go_simp
  refine (HDO.out _ _ w2 (HAW.out _ hbel2) hZ2).mono ?_
  rintro e w3 ⟨⟨gz, cz, rfl, hgz, hgzl, hcz, hBz⟩, hb3⟩
  have hS3 := hS2.below hb3 hS2.lt
  have hR3 := hR2.below hb3 hR2.lt
  have hbel3 := hbel2.trans (hb3.mono hbel2.size)
  have hgz2 := hR2.lt
  refine hK _ _ hS3 ?_
  clear hK K hZ2 hS2 hR2 hb hb2 hb3
  go_simp
  iterate 4 (refine t_q rfl rfl hS3 _ (fun W hW => by (go_simp; rfl)) ?_; go_simp)
  refine t_e rfl rfl fun K hK => ?_
  refine op_store_row 85 (.tmp 6) (.tmp 28) rfl w.heap.size cs rfl rfl 85 cs hS3 (by rw [info_book, HCZ.out]) rfl HCO.out fun w4 hB4 hO4 => ?_
  have hR4 := hR3.only hO4 (by omega)
  have hbel4 := hO4.below hbel3 (Nat.le_refl _)
  have hBz4 := hBz.only hO4 (by omega)
  have hgz4 : gz < w4.heap.size := by rw [hO4.size]; exact hgzl
  refine hK _ _ hB4 ?_
  clear hK K hS3 hR3 hbel3 hBz hO4 hgz hgzl hbel2 hgz2
  go_simp
  iterate 2 (refine t_q rfl rfl hB4 _ (fun W hW => by (go_simp; rfl)) ?_; go_simp)
  refine t_done ?_
  go_wp2_with fail
  refine (hD1.out _ _ _ (fun _ => ⟨_, _, rfl, hBz4⟩)).mono ?_
  rintro e w5 ⟨⟨v, rfl, hv⟩, hb5⟩
  obtain ⟨gd, cd, rfl, hgd, hcd, hgdl, hBd⟩ := hv.form (ne_nil HDL.out hpos)
  rw [HDL.out] at hcd ⊢
  have hS5 := hB4.below hb5 hB4.lt
  have hR5 := hR4.below hb5 hR4.lt
  have hbel5 := hbel4.trans (hb5.mono hbel4.size)
  clear hv hB4 hR4 hbel4 hb5 hBz4 hgz4 hcz
  have hs5 := hbel5.size
  have HB6 := Lib.hid (hbel5.alloc hs5 (.cells #[] 5))
  have HO6 := Lib.hid (OwnN.start 5 .u8 w5 w5.heap.size (Nat.le_refl _))
  have HB6b := Lib.hid ((Below.refl w5.heap.size w5).alloc (Nat.le_refl _) (.cells #[] 5))
  by_cases hp : L % n = 0
  · have hpN : ¬ (L % n != 0) = true := by rw [bne_iff_ne]; simp [hp]
    have hTE := HTE.out
    rw [if_neg hpN, if_neg hpN, HL.out] at hTE
    obtain ⟨q, hq⟩ : ∃ q, L = q + n := ⟨L - n, by have := Nat.le_of_dvd hL0 (Nat.dvd_of_mod_eq_zero hp); omega⟩
    rw [show L - n = q by omega] at hTE
    have hp0 : (L : Int) % (n : Int) ≤ 0 := by omega
    have HTXE := Lib.hid hTE; clear hTE
    have HFM := Lib.hid hp
    have HFQ := Lib.hid hq
    have hq1 : q + n ≤ L := by omega
    have hq2 : L ≤ q + n := by omega
    have hFl9 : L ≤ 1000 := by omega
    clear hpN hp hq
    go_wp2_with (at_builtin; refine wpList_append_at rfl (.tmp 36) (.tmp 37) rfl w5.heap.size w5 _ [] rfl HO6.out HB6b.out (by simp) T L ct t rfl HL.out (HTW.out _ HB6.out) (by omega) (by simp; omega) ?_; intro v7 w7 hown7 hb7 hsz7; rw [List.nil_append] at hown7; obtain ⟨gt7, ct7, rfl, hgt7, hct7, hgtl, hBt⟩ := (OwnN.bytes hown7).form (ne_nil HL.out hL0); rw [HL.out] at hct7 ⊢)
    have hS7 := hS5.below hb7 hS5.lt
    have hR7 := hR5.below hb7 hR5.lt
    have hBd7 := hBd.below hb7 hgdl
    have hbel7 := hbel5.trans (hb7.mono hs5)
    have hgd7 : gd < w7.heap.size := by have := hb7.size; omega
    have hs7 := hbel7.size
    clear hown7 hsz7 hS5 hR5 hBd hgdl HB6 HO6 HB6b hbel5 hgt7 hb7
    have hcq : ¬ ct7 = q := by omega
    have hFdl : (t.drop q).length = n := by rw [List.length_drop, HL.out]; omega
    have hFdb : Byt (t.drop q) := fun c hc => gt c (List.mem_of_mem_drop hc)
    have hFtl : (t.take q).length = q := by rw [List.length_take, HL.out]; omega
    have hBfd : Bs w7 gt7 q (t.drop q) := by
      have := hBt.sub q n
      rw [Nat.zero_add, List.take_of_length_le (by rw [hFdl]; exact Nat.le_refl _)] at this
      exact this
    have hBft : Bs w7 gt7 0 (t.take q) := by
      have := hBt.sub 0 q
      rw [Nat.zero_add, List.drop_zero] at this
      exact this
    have HXC := Lib.hid (fun A B ca cb W a b => HXR.out (t.drop q) DD hFdl HDL.out hFdb hDb A B ca cb W a b)
    have hLXl : (xorTo (t.drop q) DD n).length = n := by rw [xorTo_len, hFdl]
    have e1 : IntKind.i64.wrap ((L : Int) - (n : Int)) = (q : Int) := by rw [IntWalk.i64_in _ (by omega)]; omega
    have hqFl : (q : Int) ≤ (L : Int) := by omega
    generalize xorTo (t.drop q) DD n = LX at *
    generalize t.drop q = FD at *
    generalize t.take q = FT at *
    have HLXL := Lib.hid hLXl; clear hLXl
    have HFTL := Lib.hid hFtl; clear hFtl
    clear hFdl hFdb
    have hcxl : TX.length = L := by rw [HTXE.out, List.length_append, HFTL.out, HLXL.out]; omega
    have HCXL := Lib.hid hcxl; clear hcxl
    have HE1 := Lib.hid e1
    have hsub1 : ((L : Int) - (n : Int)).toNat = q := by omega
    have hsub2 : (n : Int) ≤ (L : Int) := by omega
    clear e1
    go_wp2_with fail
    try rw [show L - n = q by omega]
    rw [show L - q = n by omega]
    refine (HXC.out _ _ _ _ _ (fun _ => ⟨_, _, rfl, hBfd⟩) (fun _ => ⟨_, _, rfl, hBd7⟩)).mono ?_
    rintro e wx ⟨⟨v, rfl, hv⟩, hbx⟩
    obtain ⟨gx, cx, rfl, hgx, hcx, hgxl, hBx⟩ := hv.form (ne_nil HLXL.out hpos)
    rw [HLXL.out] at hcx ⊢
    have hSx := hS7.below hbx hS7.lt
    have hRx := hR7.below hbx hR7.lt
    have hbelx := hbel7.trans (hbx.mono hs7)
    have hFx := hBft.below hbx hgtl
    have hgfx : gt7 < wx.heap.size := by have := hbx.size; omega
    have hsx := hbelx.size
    clear hv hS7 hR7 hbx hbel7 hBft hBfd hBd7 HXC
    have HB6 := Lib.hid ((Below.refl wx.heap.size wx).alloc (Nat.le_refl _) (.cells #[] 5))
    have HO6 := Lib.hid (OwnN.start 5 .u8 wx wx.heap.size (Nat.le_refl _))
    have HFX := Lib.hid (hFx.below HB6.out hgfx)
    have hcf2 : q ≤ ct7 := by omega
    go_wp2_with (first
      | (at_builtin; refine wpList_append_w rfl (.tmp 62) (.tmp 68) rfl wx.heap.size wx _ [] rfl HO6.out HB6.out (by simp) gt7 0 q ct7 FT rfl HFTL.out HFX.out (by simp; omega) ?_; intro v8 w8 hown8 hb8 hgr8 hat8; rw [List.nil_append] at hown8; have hBx8 := hBx.below hb8 hgxl; have hs8 := hb8.size)
      | (at_builtin; refine wpList_append_w rfl (.tmp 69) (.tmp 70) rfl wx.heap.size wx v8 FT rfl hown8 hb8 (by omega) gx 0 n cx LX rfl HLXL.out hBx8 (by rw [HFTL.out]; omega) ?_; intro v9 w9' hown9 hb9 hgr9 hat9; rw [← HTXE.out] at hown9; obtain ⟨gX, cX, rfl, hgX, hcX, hgXl, hBX⟩ := (OwnN.bytes hown9).form (ne_nil HCXL.out (by omega)); rw [HCXL.out] at hcX ⊢))
    have hS9 := hSx.below hb9 hSx.lt
    have hR9 := hRx.below hb9 hRx.lt
    have hbel9 := hbelx.trans (hb9.mono hsx)
    clear hown8 hown9 hb8 hgr8 hat8 hgr9 hat9 hBx8 hs8 hSx hRx hb9 hFx hBx HB6 HO6 HFX hbelx
    refine wp_region_tree (.q 0 (.q 1 (.q 2 (.q 3 (.q 5 (.e [4] fun _ => .e [6] fun _ => .q 7 (.q 8 (.q 9 (.q 10 (.e [11] fun _ => .q 12 (.q 13 (.done)))))))))))) (fun W => Blk W w.heap.size 85 cs) rfl (by kernel_rfl) (fun _ _ d _ _ h => by cases d <;> exact h) ?_
    have hS := hS9.drewN 1
    have hR := hR9.drewN 1
    have hb := below_drewN hbel9 1
    have hBXd := hBX.drewN 1
    have hgXd : gX < (World.drewN w9' 1).heap.size := hgXl
    change wpT _ _ _ _ _ _ (World.drewN w9' 1)
    clear hS9 hR9 hbel9 hBX hgXl
    generalize (World.drewN w9' 1) = wy at *
    iterate 2 (refine t_q rfl rfl hS _ (fun W hW => by (go_simp; rfl)) ?_; go_simp)
    refine t_load_row rfl rfl 85 (.tmp 6) rfl w.heap.size rfl 85 cs hS (fun W hW => hW) _ Tryz.underlying85 rfl (by rw [info_book, HCZ.out]) ?_
    go_simp
    iterate 2 (refine t_q rfl rfl hS _ (fun W hW => by (go_simp; rfl)) ?_; go_simp)
    refine t_e rfl rfl fun K hK => ?_
    refine op_make_bytes _ _ rfl .i64 .i64 n n n rfl rfl rfl rfl (by omega) fun wz2 hbz hBzz hsz => ?_
    have hZ2 : At wz2 (some ⟨wy.heap.size, 0, none⟩) (List.replicate n 0) := fun _ => ⟨_, _, rfl, Bs.ofBlk hBzz⟩
    have hS2 := hS.below hbz hS.lt
    have hR2 := hR.below hbz hR.lt
    have hbel2 := hb.trans (hbz.mono hb.size)
    have hBX2 := hBXd.below hbz hgXd
    refine hK _ _ hS2 ?_
    clear hK K hBzz hsz hS hR hBXd
    refine t_e rfl rfl fun K hK => ?_
    go_simp
    refine (HCH.out TX L HCXL.out (by omega) HFM.out (by omega) HTB.out _ _ _ _ hcX wz2 (HAW.out _ hbel2) hZ2 (fun _ => ⟨_, _, rfl, hBX2⟩)).mono ?_
    rintro e wz3 ⟨⟨v, rfl, hv⟩, hbz3⟩
    rw [HXX.out] at hv
    have hxl := HCX.out
    rw [HCXL.out] at hxl
    obtain ⟨gO, cO, rfl, hgO, hcO, hgOl, hBO⟩ := hv.form (ne_nil hxl (by omega))
    rw [hxl] at hcO ⊢
    have hMC := HME.out
    rw [HCXL.out, show L - n = q by omega] at hMC
    have hmcl : MC.length = n := by rw [hMC, List.length_drop, hxl]; omega
    have hBM : Bs wz3 gO q MC := by
      have := hBO.sub q n
      rw [Nat.zero_add, ← hMC, List.take_of_length_le (by rw [hmcl]; exact Nat.le_refl _)] at this
      exact this
    have hS3 := hS2.below hbz3 hS2.lt
    have hR3 := hR2.below hbz3 hR2.lt
    have hbel3 := hbel2.trans (hbz3.mono hbel2.size)
    have hr2 := hR2.lt
    refine hK _ _ hS3 ?_
    have HXL3 := Lib.hid hxl
    clear hK K hv hxl hBO hMC hmcl hZ2 hS2 hR2 hbel2 hBX2 hb hbz hbz3
    go_simp
    iterate 4 (refine t_q rfl rfl hS3 _ (fun W hW => by (go_simp; rfl)) ?_; go_simp)
    refine t_e rfl rfl fun K hK => ?_
    refine op_store_row 85 (.tmp 6) (.tmp 80) rfl w.heap.size cs rfl rfl 85 cs hS3 (by rw [info_book, HCZ.out]) rfl HCO.out fun wz4 hB4 hO4 => ?_
    have hR4 := hR3.only hO4 (by omega)
    have hbel4 := hO4.below hbel3 (Nat.le_refl _)
    have hBM4 := hBM.only hO4 (by omega)
    refine hK _ _ hB4 ?_
    clear hK K hS3 hR3 hbel3 hBM hO4
    go_simp
    iterate 2 (refine t_q rfl rfl hB4 _ (fun W hW => by (go_simp; rfl)) ?_; go_simp)
    refine t_done ?_
    have hcOq : ¬ cO = q := by omega
    go_wp2_with fail
    refine wp_region_tree (.q 0 (.q 1 (.q 2 (.q 3 (.q 4 (.q 5 (.q 6 (.e [7] fun _ => .q 8 (.q 9 (.done)))))))))) (fun W => Blk W w.heap.size 85 cs) rfl (by kernel_rfl) (fun _ _ d _ _ h => by cases d <;> exact h) ?_
    have hS := hB4.drewN 1
    have hR := hR4.drewN 1
    have hb := below_drewN hbel4 1
    have hBMd := hBM4.drewN 1
    change wpT _ _ _ _ _ _ (World.drewN wz4 1)
    clear hB4 hR4 hbel4 hBM4
    generalize (World.drewN wz4 1) = wz5 at *
    refine t_load_row rfl rfl 85 (.tmp 6) rfl w.heap.size rfl 85 cs hS (fun W hW => hW) _ Tryz.underlying85 rfl (by rw [info_book, HCZ.out]) ?_
    go_simp
    iterate 4 (refine t_q rfl rfl hS _ (fun W hW => by (go_simp; rfl)) ?_; go_simp)
    refine t_q rfl rfl hS (.int .i64 (q : Nat)) (fun W hW => by (go_simp; exact HE1.out)) ?_
    go_simp
    refine t_q rfl rfl hS (.slice (some ⟨gO, q, none⟩) n (cO - q)) (fun W hW => by (go_simp; try omega)) ?_
    go_simp
    refine t_e rfl rfl fun K hK => ?_
    refine op_store_row 85 (.tmp 8) (.tmp 86) rfl (w.heap.size + 1) cs rfl rfl 85 _ hR (by rw [info_book, HCZ.out]) (by rw [HCZ.out]; rfl) HCO.out fun wz6 hB6 hO6 => ?_
    have hS6 := hS.only hO6 (by omega)
    have hbel6 := hO6.below hb (by omega)
    have hBM6 := hBMd.only hO6 (by omega)
    refine hK _ _ hS6 ?_
    clear hK K hO6
    go_simp
    iterate 2 (refine t_q rfl rfl hS6 _ (fun W hW => by (go_simp; rfl)) ?_; go_simp)
    refine t_done ?_
    go_wp2
    refine bodyPost_ret (results_cell3 rfl _ _ (w.heap.size + 1) 85 _ _ rfl hB6 Tryz.underlying85 rfl (by rw [info_book, HCZ.out])) rfl ?_
    exact ⟨⟨gO, q, cO - q, rfl, by omega, hBM6⟩, hbel6⟩
  · have hpN : (L % n != 0) = true := by rw [bne_iff_ne]; exact hp
    have hTE := HTE.out
    rw [if_pos hpN, if_pos hpN] at hTE
    have hp0 : (0 : Int) < (L : Int) % (n : Int) := by omega
    clear hpN hp
    go_wp2_with (at_builtin; refine wpList_append_at rfl (.tmp 36) (.tmp 37) rfl w5.heap.size w5 _ [] rfl HO6.out HB6b.out (by simp) T L ct t rfl HL.out (HTW.out _ HB6.out) (by omega) (by simp; omega) ?_; intro v7 w7 hown7 hb7 hsz7; rw [List.nil_append] at hown7; obtain ⟨gt7, ct7, rfl, hgt7, hct7, hgtl, hBt⟩ := (OwnN.bytes hown7).form (ne_nil HL.out hL0); rw [HL.out] at hct7 ⊢)
    have hS7 := hS5.below hb7 hS5.lt
    have hR7 := hR5.below hb7 hR5.lt
    have hBd7 := hBd.below hb7 hgdl
    have hbel7 := hbel5.trans (hb7.mono hs5)
    have hgd7 : gd < w7.heap.size := by have := hb7.size; omega
    have hs7 := hbel7.size
    clear hown7 hsz7 hS5 hR5 hBd hgdl HB6 HO6 HB6b hbel5 hgt7 hb7
    go_wp2_with fail
    refine (hD2.out _ _ _ (fun _ => ⟨_, _, rfl, hBd7⟩)).mono ?_
    rintro e w8 ⟨⟨v, rfl, hv⟩, hb8⟩
    obtain ⟨ge, ce, rfl, hge, hce, hgel, hBe⟩ := hv.form (ne_nil HEL.out hpos)
    rw [HEL.out] at hce ⊢
    have hS8 := hS7.below hb8 hS7.lt
    have hR8 := hR7.below hb8 hR7.lt
    have hbel8 := hbel7.trans (hb8.mono hs7)
    clear hv hS7 hR7 hb8 hBd7 hBt
    go_wp2_with fail
    refine (hPD.out _ (HTW.out _ hbel8)).mono ?_
    rintro e w9 ⟨⟨v, rfl, hv⟩, hb9⟩
    have hpl := HPL.out
    obtain ⟨F, hF⟩ : ∃ F, padN t n = F := ⟨_, rfl⟩
    rw [hF] at hv hTE hpb2 hpL hpl
    obtain ⟨Fl, hFl⟩ : ∃ Fl, F.length = Fl := ⟨_, rfl⟩
    rw [hFl] at hpl hpL hTE
    obtain ⟨q, hq⟩ : ∃ q, Fl = q + n := ⟨Fl - n, by omega⟩
    rw [show Fl - n = q by omega] at hTE
    obtain ⟨gf, cf, rfl, hgf, hcf, hgfl, hBf⟩ := hv.form (ne_nil hFl (by omega))
    rw [hFl] at hcf ⊢
    have hS9 := hS8.below hb9 hS8.lt
    have hR9 := hR8.below hb9 hR8.lt
    have hBe9 := hBe.below hb9 hgel
    have hbel9 := hbel8.trans (hb9.mono hbel8.size)
    have hge9 : ge < w9.heap.size := by have := hb9.size; omega
    have hs9 := hbel9.size
    have HFL := Lib.hid hFl
    have HTXE := Lib.hid hTE; clear hTE
    have HFM := Lib.hid hpl.1
    have HFQ := Lib.hid hq
    have hq1 : q + n ≤ Fl := by omega
    have hq2 : Fl ≤ q + n := by omega
    have hFl9 : Fl ≤ 1000 := by omega
    clear hv hS8 hR8 hb9 hbel8 hBe hgel hF hFl hq hpl hpL hgf
    have hcq : ¬ cf = q := by omega
    have hFdl : (F.drop q).length = n := by rw [List.length_drop, HFL.out]; omega
    have hFdb : Byt (F.drop q) := fun c hc => hpb2 c (List.mem_of_mem_drop hc)
    have hFtl : (F.take q).length = q := by rw [List.length_take, HFL.out]; omega
    have hBfd : Bs w9 gf q (F.drop q) := by
      have := hBf.sub q n
      rw [Nat.zero_add, List.take_of_length_le (by rw [hFdl]; exact Nat.le_refl _)] at this
      exact this
    have hBft : Bs w9 gf 0 (F.take q) := by
      have := hBf.sub 0 q
      rw [Nat.zero_add, List.drop_zero] at this
      exact this
    have HXC := Lib.hid (fun A B ca cb W a b => HXR.out (F.drop q) E hFdl HEL.out hFdb hEb A B ca cb W a b)
    have hLXl : (xorTo (F.drop q) E n).length = n := by rw [xorTo_len, hFdl]
    have e1 : IntKind.i64.wrap ((Fl : Int) - (n : Int)) = (q : Int) := by rw [IntWalk.i64_in _ (by omega)]; omega
    have hqFl : (q : Int) ≤ (Fl : Int) := by omega
    generalize xorTo (F.drop q) E n = LX at *
    generalize F.drop q = FD at *
    generalize F.take q = FT at *
    have HLXL := Lib.hid hLXl; clear hLXl
    have HFTL := Lib.hid hFtl; clear hFtl
    clear hFdl hFdb
    have hcxl : TX.length = Fl := by rw [HTXE.out, List.length_append, HFTL.out, HLXL.out]; omega
    have HCXL := Lib.hid hcxl; clear hcxl
    have HE1 := Lib.hid e1
    have hsub1 : ((Fl : Int) - (n : Int)).toNat = q := by omega
    have hsub2 : (n : Int) ≤ (Fl : Int) := by omega
    clear e1
    go_wp2_with fail
    try rw [show Fl - n = q by omega]
    rw [show Fl - q = n by omega]
    refine (HXC.out _ _ _ _ _ (fun _ => ⟨_, _, rfl, hBfd⟩) (fun _ => ⟨_, _, rfl, hBe9⟩)).mono ?_
    rintro e wx ⟨⟨v, rfl, hv⟩, hbx⟩
    obtain ⟨gx, cx, rfl, hgx, hcx, hgxl, hBx⟩ := hv.form (ne_nil HLXL.out hpos)
    rw [HLXL.out] at hcx ⊢
    have hSx := hS9.below hbx hS9.lt
    have hRx := hR9.below hbx hR9.lt
    have hbelx := hbel9.trans (hbx.mono hs9)
    have hFx := hBft.below hbx hgfl
    have hgfx : gf < wx.heap.size := by have := hbx.size; omega
    have hsx := hbelx.size
    clear hv hS9 hR9 hbx hbel9 hBft hBfd hBe9 HXC
    have HB6 := Lib.hid ((Below.refl wx.heap.size wx).alloc (Nat.le_refl _) (.cells #[] 5))
    have HO6 := Lib.hid (OwnN.start 5 .u8 wx wx.heap.size (Nat.le_refl _))
    have HFX := Lib.hid (hFx.below HB6.out hgfx)
    have hcf2 : q ≤ cf := by omega
    go_wp2_with (first
      | (at_builtin; refine wpList_append_w rfl (.tmp 62) (.tmp 68) rfl wx.heap.size wx _ [] rfl HO6.out HB6.out (by simp) gf 0 q cf FT rfl HFTL.out HFX.out (by simp; omega) ?_; intro v8 w8 hown8 hb8 hgr8 hat8; rw [List.nil_append] at hown8; have hBx8 := hBx.below hb8 hgxl; have hs8 := hb8.size)
      | (at_builtin; refine wpList_append_w rfl (.tmp 69) (.tmp 70) rfl wx.heap.size wx v8 FT rfl hown8 hb8 (by omega) gx 0 n cx LX rfl HLXL.out hBx8 (by rw [HFTL.out]; omega) ?_; intro v9 w9' hown9 hb9 hgr9 hat9; rw [← HTXE.out] at hown9; obtain ⟨gX, cX, rfl, hgX, hcX, hgXl, hBX⟩ := (OwnN.bytes hown9).form (ne_nil HCXL.out (by omega)); rw [HCXL.out] at hcX ⊢))
    have hS9 := hSx.below hb9 hSx.lt
    have hR9 := hRx.below hb9 hRx.lt
    have hbel9 := hbelx.trans (hb9.mono hsx)
    clear hown8 hown9 hb8 hgr8 hat8 hgr9 hat9 hBx8 hs8 hSx hRx hb9 hFx hBx HB6 HO6 HFX hbelx
    refine wp_region_tree (.q 0 (.q 1 (.q 2 (.q 3 (.q 5 (.e [4] fun _ => .e [6] fun _ => .q 7 (.q 8 (.q 9 (.q 10 (.e [11] fun _ => .q 12 (.q 13 (.done)))))))))))) (fun W => Blk W w.heap.size 85 cs) rfl (by kernel_rfl) (fun _ _ d _ _ h => by cases d <;> exact h) ?_
    have hS := hS9.drewN 1
    have hR := hR9.drewN 1
    have hb := below_drewN hbel9 1
    have hBXd := hBX.drewN 1
    have hgXd : gX < (World.drewN w9' 1).heap.size := hgXl
    change wpT _ _ _ _ _ _ (World.drewN w9' 1)
    clear hS9 hR9 hbel9 hBX hgXl
    generalize (World.drewN w9' 1) = wy at *
    iterate 2 (refine t_q rfl rfl hS _ (fun W hW => by (go_simp; rfl)) ?_; go_simp)
    refine t_load_row rfl rfl 85 (.tmp 6) rfl w.heap.size rfl 85 cs hS (fun W hW => hW) _ Tryz.underlying85 rfl (by rw [info_book, HCZ.out]) ?_
    go_simp
    iterate 2 (refine t_q rfl rfl hS _ (fun W hW => by (go_simp; rfl)) ?_; go_simp)
    refine t_e rfl rfl fun K hK => ?_
    refine op_make_bytes _ _ rfl .i64 .i64 n n n rfl rfl rfl rfl (by omega) fun wz2 hbz hBzz hsz => ?_
    have hZ2 : At wz2 (some ⟨wy.heap.size, 0, none⟩) (List.replicate n 0) := fun _ => ⟨_, _, rfl, Bs.ofBlk hBzz⟩
    have hS2 := hS.below hbz hS.lt
    have hR2 := hR.below hbz hR.lt
    have hbel2 := hb.trans (hbz.mono hb.size)
    have hBX2 := hBXd.below hbz hgXd
    refine hK _ _ hS2 ?_
    clear hK K hBzz hsz hS hR hBXd
    refine t_e rfl rfl fun K hK => ?_
    go_simp
    refine (HCH.out TX Fl HCXL.out (by omega) HFM.out (by omega) HTB.out _ _ _ _ hcX wz2 (HAW.out _ hbel2) hZ2 (fun _ => ⟨_, _, rfl, hBX2⟩)).mono ?_
    rintro e wz3 ⟨⟨v, rfl, hv⟩, hbz3⟩
    rw [HXX.out] at hv
    have hxl := HCX.out
    rw [HCXL.out] at hxl
    obtain ⟨gO, cO, rfl, hgO, hcO, hgOl, hBO⟩ := hv.form (ne_nil hxl (by omega))
    rw [hxl] at hcO ⊢
    have hMC := HME.out
    rw [HCXL.out, show Fl - n = q by omega] at hMC
    have hmcl : MC.length = n := by rw [hMC, List.length_drop, hxl]; omega
    have hBM : Bs wz3 gO q MC := by
      have := hBO.sub q n
      rw [Nat.zero_add, ← hMC, List.take_of_length_le (by rw [hmcl]; exact Nat.le_refl _)] at this
      exact this
    have hS3 := hS2.below hbz3 hS2.lt
    have hR3 := hR2.below hbz3 hR2.lt
    have hbel3 := hbel2.trans (hbz3.mono hbel2.size)
    have hr2 := hR2.lt
    refine hK _ _ hS3 ?_
    have HXL3 := Lib.hid hxl
    clear hK K hv hxl hBO hMC hmcl hZ2 hS2 hR2 hbel2 hBX2 hb hbz hbz3
    go_simp
    iterate 4 (refine t_q rfl rfl hS3 _ (fun W hW => by (go_simp; rfl)) ?_; go_simp)
    refine t_e rfl rfl fun K hK => ?_
    refine op_store_row 85 (.tmp 6) (.tmp 80) rfl w.heap.size cs rfl rfl 85 cs hS3 (by rw [info_book, HCZ.out]) rfl HCO.out fun wz4 hB4 hO4 => ?_
    have hR4 := hR3.only hO4 (by omega)
    have hbel4 := hO4.below hbel3 (Nat.le_refl _)
    have hBM4 := hBM.only hO4 (by omega)
    refine hK _ _ hB4 ?_
    clear hK K hS3 hR3 hbel3 hBM hO4
    go_simp
    iterate 2 (refine t_q rfl rfl hB4 _ (fun W hW => by (go_simp; rfl)) ?_; go_simp)
    refine t_done ?_
    have hcOq : ¬ cO = q := by omega
    go_wp2_with fail
    refine wp_region_tree (.q 0 (.q 1 (.q 2 (.q 3 (.q 4 (.q 5 (.q 6 (.e [7] fun _ => .q 8 (.q 9 (.done)))))))))) (fun W => Blk W w.heap.size 85 cs) rfl (by kernel_rfl) (fun _ _ d _ _ h => by cases d <;> exact h) ?_
    have hS := hB4.drewN 1
    have hR := hR4.drewN 1
    have hb := below_drewN hbel4 1
    have hBMd := hBM4.drewN 1
    change wpT _ _ _ _ _ _ (World.drewN wz4 1)
    clear hB4 hR4 hbel4 hBM4
    generalize (World.drewN wz4 1) = wz5 at *
    refine t_load_row rfl rfl 85 (.tmp 6) rfl w.heap.size rfl 85 cs hS (fun W hW => hW) _ Tryz.underlying85 rfl (by rw [info_book, HCZ.out]) ?_
    go_simp
    iterate 4 (refine t_q rfl rfl hS _ (fun W hW => by (go_simp; rfl)) ?_; go_simp)
    refine t_q rfl rfl hS (.int .i64 (q : Nat)) (fun W hW => by (go_simp; exact HE1.out)) ?_
    go_simp
    refine t_q rfl rfl hS (.slice (some ⟨gO, q, none⟩) n (cO - q)) (fun W hW => by (go_simp; try omega)) ?_
    go_simp
    refine t_e rfl rfl fun K hK => ?_
    refine op_store_row 85 (.tmp 8) (.tmp 86) rfl (w.heap.size + 1) cs rfl rfl 85 _ hR (by rw [info_book, HCZ.out]) (by rw [HCZ.out]; rfl) HCO.out fun wz6 hB6 hO6 => ?_
    have hS6 := hS.only hO6 (by omega)
    have hbel6 := hO6.below hb (by omega)
    have hBM6 := hBMd.only hO6 (by omega)
    refine hK _ _ hS6 ?_
    clear hK K hO6
    go_simp
    iterate 2 (refine t_q rfl rfl hS6 _ (fun W hW => by (go_simp; rfl)) ?_; go_simp)
    refine t_done ?_
    go_wp2
    refine bodyPost_ret (results_cell3 rfl _ _ (w.heap.size + 1) 85 _ _ rfl hB6 Tryz.underlying85 rfl (by rw [info_book, HCZ.out])) rfl ?_
    exact ⟨⟨gO, q, cO - q, rfl, by omega, hBM6⟩, hbel6⟩
end Go.Proofs.YtfkjkkjimdilcaaGreatDoor
