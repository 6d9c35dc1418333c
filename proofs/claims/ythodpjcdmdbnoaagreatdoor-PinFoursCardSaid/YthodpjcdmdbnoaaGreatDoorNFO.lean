/- lockboxref14.Four, over whatever cipher. The contract of pin.OpenFour, where the account is right, over whatever cipher of blocks of 16 bytes. lockboxref14.OpenFour, over whatever cipher. -/
import Derived.Test.YthodpjcdmdbnoaaGreatDoorNPF
import Derived.Test.YthodpjcdmdbnoaaGreatDoorNRD
import Derived.Test.YthodpjcdmdbnoaaGreatDoorNAskW
import Derived.Test.YthodpjcdmdbnoaaGreatDoorNRX
import Derived.Test.YthodpjcdmdbnoaaGreatDoorNPE
/- lockboxref14.Four, over whatever cipher. -/
namespace Go.Proofs.YthodpjcdmdbnoaaGreatDoor
open Go Go.RowKit Pr

/-- one block by the document's cipher: from the state S of a book, what F answers; S' holds then -/
def RefStep (kind kl : Nat) (AK : Option Addr) (cK : Nat) (back : Bool) (S : Value → World → Prop) (F : List Nat → Option (List Nat)) (S' : List Nat → Value → World → Prop) : Prop := ∀ (W : World) (bv : Value) (A : Option Addr) (c : Nat) (x : List Nat), x.length = 16 → Byt x → S bv W → At W A x →
 Calls Tryz.prog 37 #[.int .i64 (kind : Int), .slice AK kl cK, bv, .slice A 16 c, .bool back] W fun e w' =>
  (match F x with
  | some y => ∃ bv' A' c', e = .returned (.tuple #[bv', .slice A' 16 c', .bool true]) ∧ BookV bv' ∧ At w' A' y ∧ S' x bv' w'
  | none => ∃ bv', e = .returned (.tuple #[bv', .slice none 0 0, .bool false]) ∧ BookV bv') ∧ Below W.heap.size W w'
/-- a state of the document's book: what is new beside it leaves it, and so does another book's variable -/
structure RfOk (S : Value → World → Prop) : Prop where
 more : ∀ bv (A B : World), S bv A → Below A.heap.size A B → S bv B
 only : ∀ bv (A B : World) q r0 n0 c0 r1 n1 c1, S bv A → Blk A q 45 #[.slice r0 n0 c0, .slice r1 n1 c1] → Only q A B → S bv B
 book : ∀ bv A, S bv A → BookV bv
theorem At.book {w w' : World} {A : Option Addr} {l : List Nat} {q : Nat} {t : TypeId} {r0 r1 : Option Addr} {n0 c0 n1 c1 : Nat} (h : At w A l) (hB : Blk w q t #[.slice r0 n0 c0, .slice r1 n1 c1]) (ho : Only q w w') : At w' A l := fun hl => by
 obtain ⟨b, o, e, hb⟩ := h hl
 refine ⟨b, o, e, hb.only ho (fun hq => ?_)⟩
 subst hq
 have h0 := hb.cell 0 (List.length_pos_iff.2 hl)
 rw [Nat.add_zero] at h0
 rw [hB.cell o] at h0
 match o, h0 with
 | 0, h0 => cases h0
 | 1, h0 => cases h0
 | o + 2, h0 => rw [Array.getElem?_eq_none (by show 2 ≤ _; omega)] at h0; cases h0

theorem xorTo_comm (x y : List Nat) (hx : x.length = 16) (hy : y.length = 16) : xorTo x y 16 = xorTo y x 16 := by
 refine list_ext16 (by rw [xorTo_len, hx]) (by rw [xorTo_len, hy]) fun i hi => ?_
 rw [xorTo_getD x y 16 i hi (by omega), xorTo_getD y x 16 i hi (by omega), Nat.xor_comm]
/-- a block that the document answers, or none -/
def RefOut (res : Option (List Nat)) (e : Ending) (W : World) : Prop := match res with
 | some z => ∃ bv A c, e = .returned (.tuple #[bv, .slice A 16 c, .bool true]) ∧ BookV bv ∧ At W A z
 | none => ∃ bv, e = .returned (.tuple #[bv, .slice none 0 0, .bool false]) ∧ BookV bv
def lenV (v : Value) : Nat := match v with | .slice _ n _ => n | _ => 0
set_option maxHeartbeats 8000000 in
set_option maxRecDepth 100000 in
theorem refFourG_any (kind kl : Nat) (AK : Option Addr) (cK : Nat) (S0 : Value → World → Prop) (S1 : List Nat → Value → World → Prop) (T : Value → World → Prop) (F0 : List Nat → Option (List Nat)) (F1 : List Nat → List Nat → Option (List Nat)) (p a : ByteArray) (hp12 : p.size ≤ 12) (hpd : ∀ c ∈ p.data.toList, isDec c = true) (h13 : 13 ≤ a.size) (h19 : a.size ≤ 19) (had : ∀ c ∈ a.data.toList, isDec c = true)
    (fill : List Nat) (hfl : fill.length = 8) (hfb : ∀ c ∈ fill, c < 256) (r0 r1 : Option Addr) (n0 c0 n1 c1 : Nat) (w : World) (hS0 : S0 (.agg #[.slice r0 n0 c0, .slice r1 n1 c1]) w) (k0 : RfOk S0) (k1 : ∀ x, RfOk (S1 x)) (g0 : Good16 F0)
    (d0 : RefStep kind kl AK cK false S0 F0 S1) (d1 : ∀ x, RefStep kind kl AK cK false (S1 x) (F1 x) (fun _ => T)) :
    Calls Tryz.prog 14 #[.int .i64 (kind : Int), .slice AK kl cK, .agg #[.slice r0 n0 c0, .slice r1 n1 c1], .string p, .string a, .agg (byteCells fill)] w fun e w' =>
     RefOut (fourR F0 F1 p.data.toList a.data.toList fill) e w' ∧ Below w.heap.size w w' := by
 have hpl : p.data.toList.length = p.size := by simp
 have hxl := fourX_len p.data.toList fill (by omega) hfl
 have hxb : Byt (fourX p.data.toList fill) := unhexL_lt (fourS_hex _ _ (by omega) hpd hfb)
 have hpk := fourX_pack p.data.toList fill (by omega) hfb
 have HS := Lib.hid (fun W => startR_any 4 p (by omega) hpd W)
 have HN := Lib.hid (fun A cp W hA => nibblesR_any fill 8 hfl (by omega) hfb A cp W hA)
 have HA := Lib.hid (fun W => refAcct_any a h13 h19 had W)
 have hal := fourA_len a.data.toList (by simp; omega)
 have hab : Byt (fourA a.data.toList) := unhexL_lt (acctS_hex _ (by simp; omega) had)
 have hsl := startD_len 4 p.data.toList
 rw [hpl] at hsl hpk
 have hnl : (nibN fill).length = 16 := by rw [nibN_len, hfl]
 have hdl : ((startD 4 p.data.toList ++ List.replicate (14 - p.size) 10) ++ nibN fill).length = 32 := by rw [List.length_append, List.length_append, hsl, List.length_replicate, hnl]; omega
 have hdt : ∀ c ∈ (startD 4 p.data.toList ++ List.replicate (14 - p.size) 10) ++ nibN fill, c < 16 := by
  intro c hc
  rcases List.mem_append.1 hc with hc | hc
  ·
   rcases List.mem_append.1 hc with hc | hc
   ·
    unfold startD at hc
    rcases List.mem_append.1 hc with hc | hc
    ·
     rcases List.mem_cons.1 hc with rfl | hc
     ·
      omega
     ·
      rcases List.mem_cons.1 hc with rfl | hc
      ·
       omega
      ·
       cases hc
    ·
     obtain ⟨x, hx, rfl⟩ := List.mem_map.1 hc
     exact hexv_lt16 x (hpd x hx)
   ·
    rw [(List.mem_replicate.1 hc).2]; omega
  ·
   exact nibN_lt fill hfb c hc
 have HP := Lib.hid (fun A cp W hA => packR_any _ 32 16 hdl rfl (by omega) hdt A cp W hA)
 rw [← hpk] at HP
 obtain ⟨res, hres⟩ : ∃ r, fourR F0 F1 p.data.toList a.data.toList fill = r := ⟨_, rfl⟩
 rw [hres]
 unfold fourR at hres
 generalize fourX p.data.toList fill = X at *
 generalize startD 4 p.data.toList = S at *
 generalize nibN fill = NB at *
 generalize fourA a.data.toList = AC at *
 have HRES := Lib.hid hres; clear hres
 have HSL := Lib.hid hsl; clear hsl
 have HNL := Lib.hid hnl; clear hnl
 have HDL := Lib.hid hdl; clear hdl
 have HXL := Lib.hid hxl; clear hxl
 have HXB := Lib.hid hxb; clear hxb
 have HAL := Lib.hid hal; clear hal
 have HAB := Lib.hid hab; clear hab
 have HFL := Lib.hid hfl; clear hfl
 have HS0 := Lib.hid (fun W (hW : Below w.heap.size w W) => k0.more _ w W hS0 hW); clear hS0
 have HD0 := Lib.hid d0; clear d0
 have HD1 := Lib.hid d1; clear d1
 have K1 := Lib.hid k1; clear k1
 have G0 := Lib.hid g0; clear g0
 clear hpd had hpk hdt hpl hfb k0
 obtain ⟨wa, hwa⟩ : ∃ x, w.alloc (.cells #[.slice r0 n0 c0, .slice r1 n1 c1] 45) = x := ⟨_, rfl⟩
 have zwa : wa.heap.size = w.heap.size + 1 := by rw [← hwa]; simp
 have bwa : Blk wa w.heap.size 45 #[.slice r0 n0 c0, .slice r1 n1 c1] := by rw [← hwa]; exact Blk.new w _ _
 have kwa : Below w.heap.size w wa := by rw [← hwa]; exact (Below.refl _ _).alloc (Nat.le_refl _) _
 obtain ⟨wb, hwb⟩ : ∃ x, wa.alloc (.cells (byteCells fill) 23) = x := ⟨_, rfl⟩
 have zwb : wb.heap.size = w.heap.size + 1 + 1 := by rw [← hwb]; simp [zwa]
 have bwb : Blk wb (w.heap.size + 1) 23 (byteCells fill) := by have := Blk.new wa 23 (byteCells fill); rw [hwb, zwa] at this; exact this
 have bwab : Blk wb w.heap.size 45 #[.slice r0 n0 c0, .slice r1 n1 c1] := by rw [← hwb]; exact bwa.alloc _
 have kwb : Below w.heap.size w wb := by rw [← hwb]; exact kwa.alloc (by omega) _
 obtain ⟨wc, hwc⟩ : ∃ x, wb.alloc (.cells #[.slice none 0 0, .slice none 0 0] 45) = x := ⟨_, rfl⟩
 have zwc : wc.heap.size = w.heap.size + 1 + 1 + 1 := by rw [← hwc]; simp [zwb]
 have bwc : Blk wc (w.heap.size + 1 + 1) 45 #[.slice none 0 0, .slice none 0 0] := by have := Blk.new wb 45 #[.slice none 0 0, .slice none 0 0]; rw [hwc, zwb] at this; exact this
 have bwac : Blk wc w.heap.size 45 #[.slice r0 n0 c0, .slice r1 n1 c1] := by rw [← hwc]; exact bwab.alloc _
 have bwbc : Bs wc (w.heap.size + 1) 0 fill := by rw [← hwc]; exact (Bs.of_blk (l := fill) bwb (fun j c hj => by rw [Nat.zero_add]; exact hj)).alloc _
 have kwc : Below w.heap.size w wc := by rw [← hwc]; exact kwb.alloc (by omega) _
 clear bwa bwab bwb
 go_enter Tryz.func14, Tryz.ntmps14
 go_wp2_with fail
 refine (HS.out _).mono ?_
 rintro e w1 ⟨⟨v, rfl, hv⟩, hb1⟩
 have hbel1 := kwc.trans (hb1.mono kwc.size)
 have hv1 := OwnN.more hv (C := w.heap.size + 3) (by omega)
 have hB1 := bwac.below hb1 (by omega)
 have hR1 := bwc.below hb1 (by omega)
 have hF1 := bwbc.below hb1 (by omega)
 have hz1 := hb1.size
 clear bwac bwc bwbc hv hb1 hwa hwb hwc
 go_wp2
 go_loopw [15] (fun v wr => ∃ k : Nat, k ≤ 14 - p.size ∧ OwnN 3 .i64 wr (w.heap.size + 3) v (S ++ List.replicate k 10) ∧ Below (w.heap.size + 3) w1 wr) (fun v _ => 16 - lenV v)
 case atStart => exact ⟨0, by omega, by simpa using hv1, Below.refl _ _⟩
 case round =>
  obtain ⟨k, hk, hown, hbel⟩ := hrel
  have hlen : (S ++ List.replicate k 10).length = 2 + p.size + k := by rw [List.length_append, List.length_replicate, HSL.out]
  obtain ⟨A9, cap9, rfl, hc9, hAt9⟩ := hown.form
  rw [hlen] at hc9 hown ⊢
  have hszr := hbel.size
  by_cases hlt : 2 + p.size + k < 16
  ·
   have hlt' : ((2 + p.size + k : Nat) : Int) < 16 := by omega
   have hst : S ++ List.replicate (k + 1) 10 = (S ++ List.replicate k 10) ++ [10] := by rw [List.append_assoc, List.replicate_succ']
   obtain ⟨Y, hY⟩ : ∃ Y, S ++ List.replicate k 10 = Y := ⟨_, rfl⟩
   rw [hY] at hst hown hlen
   have HST := Lib.hid hst; clear hst hY hAt9
   have HLEN := Lib.hid hlen; clear hlen
   generalize hN : 2 + p.size + k = N at *
   have HN2 := Lib.hid hN; clear hN
   have hYl : Y.length + 1 ≤ 1000000000 := by rw [HLEN.out]; omega
   go_wp2_with (first
    | (at_builtin; go_loud (refine wpList_append_numsB rfl (.tmp 23) (.tmp 24) 81 rfl .i64 3 8 Tryz.underlying81 info_int (w.heap.size + 3) w1 (.slice A9 N cap9) Y rfl (OwnN.below hown ((Below.refl wr.heap.size wr).alloc (Nat.le_refl _) _) (Nat.le_refl _)) (hbel.alloc (by omega) _) (by simp; omega) _ 1 1 [10] rfl rfl ⟨_, _, rfl, Ns.newZ .i64 wr 3 _ _ rfl⟩ hYl (by omega) ?_; intro v5 w5 hown5 hbel5 _ _)))
   rw [← HST.out] at hown5
   obtain ⟨A5, cap5, rfl, _, _⟩ := hown5.form
   have hl5 : (S ++ List.replicate (k + 1) 10).length = 2 + p.size + (k + 1) := by rw [List.length_append, List.length_replicate, HSL.out]
   have h2 := HN2.out
   go_roundw
   case rel => exact ⟨k + 1, by omega, hown5, hbel5⟩
   case measure => show 16 - lenV (.slice A5 (S ++ List.replicate (k + 1) 10).length cap5) < 16 - N; unfold lenV; simp only [hl5]; omega
  ·
   obtain rfl : k = 14 - p.size := by omega
   have hno : ¬ ((2 + p.size + (14 - p.size) : Nat) : Int) < 16 := by omega
   have h16 : 2 + p.size + (14 - p.size) = 16 := by omega
   rw [h16] at hown hno hc9 hlen ⊢
   have hFr := hF1.below hbel (by omega)
   have hBr := hB1.below hbel (by omega)
   have hRr := hR1.below hbel (by omega)
   obtain ⟨Y, hY⟩ : ∃ Y, S ++ List.replicate (14 - p.size) 10 = Y := ⟨_, rfl⟩
   rw [hY] at hown HP HDL hlen
   clear hY h16 hAt9
   go_wp2_with fail
   refine (HN.out _ _ wr (fun _ => ⟨_, _, rfl, hFr⟩)).mono ?_
   rintro e w2 ⟨⟨v2, rfl, hv2⟩, hb2⟩
   have hown2 := OwnN.below hown hb2 (Nat.le_refl _)
   have hbel2 : Below (w.heap.size + 3) w1 w2 := hbel.trans (hb2.mono (by omega))
   obtain ⟨gn, capn, rfl, hgn, hcapn, hgnl, hNs⟩ := hv2.form2 (by intro h; have := HNL.out; rw [h] at this; cases this)
   rw [HNL.out] at hcapn ⊢
   have hz2 := hb2.size
   have hYl : Y.length + 16 ≤ 1000000000 := by omega
   clear hown hbel hBr hRr hFr hb2 hv2
   go_wp2_with (first
    | (at_builtin; go_loud (refine wpList_append_numsB rfl (.tmp 26) (.tmp 28) 81 rfl .i64 3 8 Tryz.underlying81 info_int (w.heap.size + 3) w1 (.slice A9 16 cap9) Y rfl hown2 hbel2 (by omega) _ 16 capn NB rfl HNL.out ⟨_, _, rfl, hNs⟩ hYl (by omega) ?_; intro v5 w5 hown5 hbel5 _ _)))
   obtain ⟨A5, cap5, rfl, hc5, hAt5⟩ := hown5.form
   rw [HDL.out] at hc5 ⊢
   have hz5 := hbel5.size
   have hB5 := hB1.below hbel5 (by omega)
   have hR5 := hR1.below hbel5 (by omega)
   have hW5 : Below w.heap.size w w5 := hbel1.trans (hbel5.mono (by omega))
   clear hown5 hown2 hNs hbel5 hbel2
   refine wp_region_tree (.q 0 (.q 1 (.q 3 (.e [2, 4] fun i => bif i == 2 then (.e [4] fun _ => .e [5] fun _ => .q 6 (.q 7 (.q 8 (.q 9 (.e [10] fun _ => .q 11 (.q 12 (.done))))))) else (.e [2] fun _ => .e [5] fun _ => .q 6 (.q 7 (.q 8 (.q 9 (.e [10] fun _ => .q 11 (.q 12 (.done))))))))))) (fun _ => True) rfl (by kernel_rfl) (fun _ _ d _ _ h => by cases d <;> exact h) ?_
   change wpT _ _ _ _ _ _ w5.drew
   have hB6 : Blk w5.drew w.heap.size 45 #[.slice r0 n0 c0, .slice r1 n1 c1] := hB5
   have hR6 : Blk w5.drew (w.heap.size + 1 + 1) 45 #[.slice none 0 0, .slice none 0 0] := hR5
   have hW6 : Below w.heap.size w w5.drew := below_drewN hW5 1
   have hAt6 : AtN .i64 w5.drew A5 (Y ++ NB) := hAt5
   clear hB5 hR5 hW5 hAt5
   generalize w5.drew = w6 at *
   have hTr : True := trivial
   iterate 3 (refine t_q rfl rfl trivial _ (fun W hW => by (go_simp; rfl)) ?_; go_simp)
   refine t_two (t_op rfl rfl fun K hK => ?_) (t_op rfl rfl fun K hK => ?_)
   focus
       refine wp_load_row 45 (.tmp 8) rfl w.heap.size rfl 45 #[.slice r0 n0 c0, .slice r1 n1 c1] (0,0) _ hB6 Tryz.underlying45 rfl (by rw [info_book]; rfl) ?_
       refine hK _ _ trivial ?_
       clear hK K
       go_simp
       refine t_e rfl rfl fun K hK => ?_
       go_simp
       refine (HP.out _ _ _ hAt6).mono ?_
       rintro e w7 ⟨⟨v7, rfl, hv7⟩, hb7⟩
       refine hK _ _ trivial ?_
       clear hK K
       go_simp
   rotate_left
   focus
       go_simp
       refine (HP.out _ _ _ hAt6).mono ?_
       rintro e w7 ⟨⟨v7, rfl, hv7⟩, hb7⟩
       refine hK _ _ trivial ?_
       clear hK K
       refine t_e rfl rfl fun K hK => ?_
       refine wp_load_row 45 (.tmp 8) rfl w.heap.size rfl 45 #[.slice r0 n0 c0, .slice r1 n1 c1] (0,0) _ (hB6.below hb7 hB6.lt) Tryz.underlying45 rfl (by rw [info_book]; rfl) ?_
       refine hK _ _ trivial ?_
       clear hK K
       go_simp
   all_goals
    have hXl := HXL.out
    obtain ⟨g7, cap7, rfl, hg7, hcap7, hgl7, hBs7⟩ := hv7.form (by intro h; rw [h] at hXl; cases hXl)
    rw [hXl] at hcap7 ⊢
    have hB7 := hB6.below hb7 hB6.lt
    have hR7 := hR6.below hb7 hR6.lt
    have hW7 : Below w.heap.size w w7 := hW6.trans (hb7.mono hW6.size)
    clear hv7 hb7 hB6 hR6 hW6 hAt6
    refine t_e rfl rfl fun K hK => ?_
    go_simp
    refine (HD0.out w7 _ (some ⟨g7, 0, none⟩) cap7 X hXl HXB.out (HS0.out _ hW7) (fun _ => ⟨_, _, rfl, hBs7⟩)).mono ?_
    rintro e w8 ⟨h8, hb8⟩
    have hB8 := hB7.below hb8 hB7.lt
    have hR8 := hR7.below hb8 hR7.lt
    have hW8 : Below w.heap.size w w8 := hW7.trans (hb8.mono hW7.size)
    clear hb8 hB7 hR7 hW7 hBs7
    obtain ⟨f0, hf0⟩ : ∃ r, F0 X = r := ⟨_, rfl⟩
    rw [hf0] at h8
    have hrs : f0.bind (fun y => F1 X (xorTo AC y 16)) = res := by
     have := HRES.out
     rwa [hf0] at this
    have HF0 := Lib.hid hf0; clear hf0
    cases f0 with
    | none =>
     obtain ⟨bv, rfl, q0, m0, d0, q1, m1, d1, rfl⟩ := h8
     obtain rfl : none = res := hrs
     refine hK _ _ trivial ?_
     clear hK K
     go_simp
     iterate 4 (refine t_q rfl rfl trivial _ (fun W hW => by (go_simp; rfl)) ?_; go_simp)
     refine t_e rfl rfl fun K hK => ?_
     refine op_store_row 45 (.tmp 8) (.tmp 37) rfl w.heap.size #[.slice q0 m0 d0, .slice q1 m1 d1] rfl rfl 45 _ hB8 (by rw [info_book]; rfl) rfl (by simp [Value.oneCell']) fun w9 hB9 hO9 => ?_
     have hR9 := hR8.only hO9 (by omega)
     have hW9 := hO9.below hW8 (Nat.le_refl _)
     refine hK _ _ trivial ?_
     clear hK K hB8 hR8 hW8 hO9
     go_simp
     iterate 2 (refine t_q rfl rfl trivial _ (fun W hW => by (go_simp; rfl)) ?_; go_simp)
     refine t_done ?_
     go_wp2_with (first
      | (refine wpList_load_row rfl 45 (.tmp 8) rfl w.heap.size rfl 45 _ (0,0) _ hB9 Tryz.underlying45 rfl (by rw [info_book]; rfl) ?_)
      | (refine wpList_store_all rfl 45 (.tmp 12) (.tmp 42) rfl (w.heap.size + 1 + 1) #[.slice q0 m0 d0, .slice q1 m1 d1] rfl rfl 45 #[.slice none 0 0, .slice none 0 0] hR9 (by rw [info_book]; rfl) rfl (by simp [Value.oneCell']) ?_; intro wx hBx hOx)
      | (refine bodyPost_ret (results_cell3 rfl _ _ (w.heap.size + 1 + 1) 45 _ _ rfl hBx Tryz.underlying45 rfl (by rw [info_book]; rfl)) rfl ?_))
     exact ⟨⟨_, rfl, ⟨_, _, _, _, _, _, rfl⟩⟩, hOx.below hW9 (by omega)⟩
    | some y =>
     obtain ⟨bv, A8, c8, rfl, ⟨q0, m0, d0, q1, m1, d1, rfl⟩, hA8, hS8⟩ := h8
     obtain ⟨hyl, hyb⟩ := G0.out _ _ hXl HXB.out HF0.out
     have HRS := Lib.hid (show F1 X (xorTo AC y 16) = res from hrs); clear hrs
     refine hK _ _ trivial ?_
     clear hK K
     go_simp
     iterate 4 (refine t_q rfl rfl trivial _ (fun W hW => by (go_simp; rfl)) ?_; go_simp)
     refine t_e rfl rfl fun K hK => ?_
     refine op_store_row 45 (.tmp 8) (.tmp 37) rfl w.heap.size #[.slice q0 m0 d0, .slice q1 m1 d1] rfl rfl 45 _ hB8 (by rw [info_book]; rfl) rfl (by simp [Value.oneCell']) fun w9 hB9 hO9 => ?_
     have hR9 := hR8.only hO9 (by omega)
     have hW9 := hO9.below hW8 (Nat.le_refl _)
     have hA9 := hA8.book hB8 hO9
     have HS9 := Lib.hid ((K1.out X).only _ _ _ _ _ _ _ _ _ _ hS8 hB8 hO9)
     refine hK _ _ trivial ?_
     clear hK K hB8 hR8 hW8 hO9 hA8 hS8
     go_simp
     iterate 2 (refine t_q rfl rfl trivial _ (fun W hW => by (go_simp; rfl)) ?_; go_simp)
     refine t_done ?_
     go_wp2_with fail
     refine wp_region_tree (.q 0 (.q 1 (.q 2 (.q 3 (.q 4 (.e [5] fun _ => .e [6] fun _ => .e [7] fun _ => .q 8 (.q 9 (.q 10 (.e [11] fun _ => .q 12 (.q 13 (.done))))))))))) (fun V => Blk V w.heap.size 45 #[.slice q0 m0 d0, .slice q1 m1 d1]) rfl (by kernel_rfl) (fun _ _ d _ _ h => by cases d <;> exact h) ?_
     change wpT _ _ _ _ _ _ w9.drew
     have hB10 : Blk w9.drew w.heap.size 45 #[.slice q0 m0 d0, .slice q1 m1 d1] := hB9
     have hR10 : Blk w9.drew (w.heap.size + 1 + 1) 45 #[.slice none 0 0, .slice none 0 0] := hR9
     have hW10 : Below w.heap.size w w9.drew := below_drewN hW9 1
     have hA10 : At w9.drew A8 y := fun hn => hA9 hn
     have HS10 := Lib.hid ((K1.out X).more _ _ w9.drew HS9.out (below_drewN (Below.refl _ _) 1))
     clear hB9 hR9 hW9 hA9 HS9
     generalize w9.drew = w10 at *
     iterate 2 (refine t_q rfl rfl hB10 _ (fun W hW => by (go_simp; rfl)) ?_; go_simp)
     refine t_load_row rfl rfl 45 (.tmp 8) rfl w.heap.size rfl 45 _ hB10 (fun W hW => hW) _ Tryz.underlying45 rfl (by rw [info_book]; rfl) ?_
     go_simp
     iterate 2 (refine t_q rfl rfl hB10 _ (fun W hW => by (go_simp; rfl)) ?_; go_simp)
     refine t_e rfl rfl fun K hK => ?_
     go_simp
     refine (HA.out w10).mono ?_
     rintro e w11 ⟨⟨va, rfl, hva⟩, hb11⟩
     have hAl := HAL.out
     obtain ⟨ga, ca, rfl, hga, hca, hgal, hBa⟩ := Own.form hva (by intro h; rw [h] at hAl; cases hAl)
     rw [hAl] at hca ⊢
     have hB11 := hB10.below hb11 hB10.lt
     have hR11 := hR10.below hb11 hR10.lt
     have hW11 := hW10.trans (hb11.mono hW10.size)
     have hA11 := hA10.below hb11 (Nat.le_refl _)
     have HS11 := Lib.hid ((K1.out X).more _ _ _ HS10.out hb11)
     refine hK _ _ hB11 ?_
     clear hK K hB10 hR10 hW10 hA10 HS10 hva hb11
     refine t_e rfl rfl fun K hK => ?_
     go_simp
     refine (refXor_any y AC 16 hyl hAl (by omega) (by omega) hyb HAB.out A8 (some ⟨ga, 0, none⟩) c8 ca w11 hA11 (fun _ => ⟨_, _, rfl, hBa⟩)).mono ?_
     rintro e w12 ⟨⟨vx, rfl, hvx⟩, hb12⟩
     rw [xorTo_comm y AC hyl hAl] at hvx
     have hqb := xorTo_byt HAB.out hyb 16
     have hql : (xorTo AC y 16).length = 16 := by rw [xorTo_len, hAl]
     generalize xorTo AC y 16 = q at *
     obtain ⟨gx, cx, rfl, hgx, hcx, hgxl, hBx⟩ := Own.form hvx (by intro h; rw [h] at hql; cases hql)
     rw [hql] at hcx ⊢
     have hB12 := hB11.below hb12 hB11.lt
     have hR12 := hR11.below hb12 hR11.lt
     have hW12 := hW11.trans (hb12.mono hW11.size)
     have HS12 := Lib.hid ((K1.out X).more _ _ _ HS11.out hb12)
     refine hK _ _ hB12 ?_
     clear hK K hB11 hR11 hW11 hA11 HS11 hvx hb12 hBa
     refine t_e rfl rfl fun K hK => ?_
     go_simp
     refine (HD1.out X w12 _ (some ⟨gx, 0, none⟩) cx q hql hqb HS12.out (fun _ => ⟨_, _, rfl, hBx⟩)).mono ?_
     rintro e w13 ⟨h13', hb13⟩
     rw [HRS.out] at h13'
     have hB13 := hB12.below hb13 hB12.lt
     have hR13 := hR12.below hb13 hR12.lt
     have hW13 := hW12.trans (hb13.mono hW12.size)
     clear HRS HRES hB12 hR12 hW12 HS12 hBx
     have hEX : ∃ s0 k0 e0 s1 k1 e1 A' n' c' ok, e = .returned (.tuple #[.agg #[.slice s0 k0 e0, .slice s1 k1 e1], .slice A' n' c', .bool ok]) ∧ ∀ W (bq : Value), BookV bq → Only (w.heap.size + 1 + 1) w13 W →
         RefOut res (.returned (.tuple #[bq, .slice A' n' c', .bool ok])) W := by
      cases res with
      | none =>
       obtain ⟨bv, rfl, s0, k0, e0, s1, k1, e1, rfl⟩ := h13'
       exact ⟨_, _, _, _, _, _, _, _, _, _, rfl, fun W bq hq _ => ⟨bq, rfl, hq⟩⟩
      | some z =>
       obtain ⟨bv, A', c', rfl, ⟨s0, k0, e0, s1, k1, e1, rfl⟩, hA', _⟩ := h13'
       exact ⟨_, _, _, _, _, _, _, _, _, _, rfl, fun W bq hq hW => ⟨bq, A', c', rfl, hq, hA'.book hR13 hW⟩⟩
     obtain ⟨s0, k0, e0, s1, k1, e1, A', n', c', ok, rfl, hfin⟩ := hEX
     have HFIN := Lib.hid hfin; clear hfin h13'
     refine hK _ _ hB13 ?_
     clear hK K
     go_simp
     iterate 3 (refine t_q rfl rfl hB13 _ (fun W hW => by (go_simp; rfl)) ?_; go_simp)
     refine t_e rfl rfl fun K hK => ?_
     refine op_store_row 45 (.tmp 12) (.tmp 51) rfl (w.heap.size + 1 + 1) #[.slice s0 k0 e0, .slice s1 k1 e1] rfl rfl 45 _ hR13 (by rw [info_book]; rfl) rfl (by simp [Value.oneCell']) fun w14 hB14 hO14 => ?_
     have hS14 := hB13.only hO14 (by omega)
     have hW14 := hO14.below hW13 (by omega)
     have hX14 := HFIN.out w14 (.agg #[.slice s0 k0 e0, .slice s1 k1 e1]) ⟨_, _, _, _, _, _, rfl⟩ hO14
     have HX14 := Lib.hid hX14; clear hX14
     refine hK _ _ hS14 ?_
     clear hK K
     go_simp
     iterate 2 (refine t_q rfl rfl hS14 _ (fun W hW => by (go_simp; rfl)) ?_; go_simp)
     refine t_done ?_
     go_wp2_with (first
      | (refine bodyPost_ret (results_cell3 rfl _ _ (w.heap.size + 1 + 1) 45 _ _ rfl hB14 Tryz.underlying45 rfl (by rw [info_book]; rfl)) rfl ?_; exact ⟨HX14.out, hW14⟩))
end Go.Proofs.YthodpjcdmdbnoaaGreatDoor

/- The contract of pin.OpenFour, where the account is right, over whatever cipher of blocks of 16 bytes. -/
namespace Go.Proofs.YthodpjcdmdbnoaaGreatDoor
open Go Go.RowKit Pr

theorem fills4_ok : ∀ c, c < 16 → isIn (⟨#[65]⟩ : ByteArray).data.toList (hexd c) = !noD 4 c := by decide +kernel

def openR (F0 : List Nat → Option (List Nat)) (F1 : List Nat → List Nat → Option (List Nat)) (b : List Nat) (a : List UInt8) : Option (List Nat) := (F0 b).bind fun x => F1 b (xorTo (fourA a) x 16)

set_option maxHeartbeats 4000000 in
set_option maxRecDepth 100000 in
theorem openG_any (g : Nat) (S0 : World → Prop) (S1 : List Nat → World → Prop) (T : World → Prop) (F0 : List Nat → Option (List Nat)) (F1 : List Nat → List Nat → Option (List Nat)) (b : List Nat) (hbl : b.length = 16) (hbb : Byt b) (A : Option Addr) (cb : Nat) (a : ByteArray) (h13 : 13 ≤ a.size) (h19 : a.size ≤ 19) (had : ∀ c ∈ a.data.toList, isDec c = true)
    (hok : decEr a.data.toList 13 19 = .ok) (w : World) (hA : At w A b) (hS0 : S0 w) (k0 : StOk w S0) (k1 : ∀ x, StOk w (S1 x)) (kT : StOk w T) (g0 : Good16 F0) (g1 : ∀ x, x.length = 16 → Byt x → Good16 (F1 x))
    (hsz : ∀ W, S0 W → Calls Tryz.prog 24 #[.pointer (some ⟨g, 0, none⟩)] W fun e w' => e = .returned (.int .i64 16) ∧ W = w')
    (d0 : DoStep g true S0 F0 S1 T) (d1 : ∀ x, DoStep g true (S1 x) (F1 x) (fun _ => T) T) :
    Calls Tryz.prog 10 #[.pointer (some ⟨g, 0, none⟩), .slice A 16 cb, .string a] w fun e w' =>
     (match openR F0 F1 b a.data.toList with
     | some y => ∃ v, e = .returned (.tuple #[.string (str (readStr (nibN y) 4)), v]) ∧ ErIs w' w.heap.size v (readEr (nibN y) 4)
     | none => ∃ v k, e = .returned (.tuple #[.string ⟨#[]⟩, v]) ∧ ErIs w' w.heap.size v (.fa k 13)) ∧ T w' := by
 have HSZ := Lib.hid hsz; clear hsz
 have HB := Lib.hid (fun W => account_any a (by omega) W)
 rw [hok] at HB
 have HCC := Lib.hid (fun W (hW : Below w.heap.size w W) => k0.more w W hS0 hW)
 have HS0 := Lib.hid hS0; clear hS0
 have HD0 := Lib.hid d0; clear d0
 have HD1 := Lib.hid d1; clear d1
 have K1 := Lib.hid k1; clear k1
 have KT := Lib.hid kT; clear kT
 have G0 := Lib.hid g0; clear g0
 have G1 := Lib.hid g1; clear g1
 obtain ⟨res, hres⟩ : ∃ r, openR F0 F1 b a.data.toList = r := ⟨_, rfl⟩
 rw [hres]
 have HRES := Lib.hid hres; clear hres
 go_enter Tryz.func10, Tryz.ntmps10
 go_wp2_with fail
 refine (HSZ.out _ (HCC.out _ (Below.refl _ _))).mono ?_
 rintro e w1 ⟨rfl, rfl⟩
 go_wp2_with fail
 refine (HB.out _).mono ?_
 rintro e w2 ⟨⟨v, rfl, hv⟩, hb2⟩
 obtain rfl : v = _ := hv
 have hA2 := hA.below hb2 (Nat.le_refl _)
 go_wp2_with fail
 refine (HD0.out w2 A cb b hbl hbb (HCC.out _ hb2) hA2).mono ?_
 rintro e w8 h8
 obtain ⟨r0, hr0⟩ : ∃ r, F0 b = r := ⟨_, rfl⟩
 rw [hr0] at h8
 have hrs : r0.bind (fun y => F1 b (xorTo (fourA a.data.toList) y 16)) = res := by
  have := HRES.out
  unfold openR at this
  rwa [hr0] at this
 have HR0 := Lib.hid hr0; clear hr0
 cases r0 with
 | none =>
  obtain ⟨⟨v, k, rfl, gE, rfl, hgE, hFE⟩, hT⟩ := h8
  obtain rfl : none = res := hrs
  go_wp2
  go_ret2
  exact ⟨⟨_, rfl, _, gE, rfl, Nat.le_trans hb2.size hgE, hFE⟩, hT⟩
 | some y =>
  obtain ⟨⟨gv, rfl, hgv, hBv⟩, hS8⟩ := h8
  have HRS := Lib.hid (show F1 b (xorTo (fourA a.data.toList) y 16) = res from hrs); clear hrs
  obtain ⟨hVl, hVb⟩ := G0.out _ _ hbl hbb HR0.out
  have hV1 : Bs w8 gv 0 y := Bs.of_blk hBv (fun j c hj => by rw [Nat.zero_add]; exact hj)
  have hgvl := hBv.lt
  have HS8 := Lib.hid hS8; clear hS8
  clear hBv hb2 hA2
  go_wp2_with fail
  refine (account4_any a h13 h19 had w8).mono ?_
  rintro e w9 ⟨⟨va, rfl, hva⟩, hb9⟩
  have HS9 := Lib.hid ((K1.out _).more _ _ HS8.out hb9)
  have hV2 := hV1.below hb9 hgvl
  have hal := fourA_len a.data.toList (by simp; omega)
  have hab : Byt (fourA a.data.toList) := unhexL_lt (acctS_hex _ (by simp; omega) had)
  obtain ⟨ga, ca, rfl, hga, hca, hgal, hBa⟩ := Own.form (l := fourA a.data.toList) hva (by intro h; rw [h] at hal; cases hal)
  rw [hal] at hca ⊢
  clear hva hb9 hV1 HS8
  go_wp2_with fail
  refine (modeXor_any (fourA a.data.toList) y 16 hal hVl (by omega) hab hVb _ _ _ _ w9 (fun _ => ⟨_, _, rfl, hBa⟩) (fun _ => ⟨_, _, rfl, hV2⟩)).mono ?_
  rintro e w10 ⟨⟨vy, rfl, hvy⟩, hb10⟩
  have HS10 := Lib.hid ((K1.out _).more _ _ HS9.out hb10)
  have hyl : (xorTo (fourA a.data.toList) y 16).length = 16 := by rw [xorTo_len, hal]
  have hyb := xorTo_byt hab hVb 16
  generalize xorTo (fourA a.data.toList) y 16 = q at *
  obtain ⟨gy, cy, rfl, hgy, hcy, hgyl, hBy⟩ := hvy.form (by intro h; rw [h] at hyl; cases hyl)
  rw [hyl] at hcy ⊢
  clear hvy hb10 HS9
  have hs10 := (K1.out _).size _ HS10.out
  go_wp2_with fail
  refine (HD1.out b w10 (some ⟨gy, 0, none⟩) cy q hyl hyb HS10.out (fun _ => ⟨_, _, rfl, hBy⟩)).mono ?_
  rintro e w11 h11
  rw [HRS.out] at h11
  have HRS2 := Lib.hid HRS.out
  clear HRS HRES
  cases res with
  | none =>
   obtain ⟨⟨v, k, rfl, gE, rfl, hgE, hFE⟩, hT⟩ := h11
   go_wp2
   go_ret2
   exact ⟨⟨_, rfl, _, gE, rfl, Nat.le_trans hs10 hgE, hFE⟩, hT⟩
  | some z =>
   obtain ⟨⟨gr, rfl, hgr, hBr⟩, hT⟩ := h11
   obtain ⟨hzl, hzb⟩ := G1.out _ hbl hbb _ _ hyl hyb HRS2.out
   have hR1 : Bs w11 gr 0 z := Bs.of_blk hBr (fun j c hj => by rw [Nat.zero_add]; exact hj)
   have hs11 := KT.out.size _ hT
   have HT := Lib.hid hT; clear hT
   have HH := Lib.hid (fun W hA => hex_any z hzb (by omega) (some ⟨gr, 0, none⟩) 16 W hA)
   rw [hzl] at HH
   go_wp2_with fail
   refine (HH.out _ (fun _ => ⟨_, _, rfl, hR1⟩)).mono ?_
   rintro e w12 ⟨rfl, hb12⟩
   have HT12 := Lib.hid (KT.out.more _ _ HT.out hb12)
   have hs12 := hb12.size
   go_wp2_with fail
   rw [show (⟨(hexL z).toArray⟩ : ByteArray) = str ((nibN z).map hexd) by rw [hexL_nib]; rfl]
   have hnl := nibN_len z
   refine (read_any (nibN z) (by omega) (by omega) (nibN_lt _ hzb) 4 (by omega) ⟨#[65]⟩ fills4_ok w12).mono ?_
   rintro e w13 ⟨⟨vr, rfl, hvr⟩, hb13⟩
   have HT13 := Lib.hid (KT.out.more _ _ HT12.out hb13)
   go_wp2
   go_ret2
   exact ⟨⟨_, rfl, hvr.more (by omega)⟩, HT13.out⟩
end Go.Proofs.YthodpjcdmdbnoaaGreatDoor

/- lockboxref14.OpenFour, over whatever cipher. -/
namespace Go.Proofs.YthodpjcdmdbnoaaGreatDoor
open Go Go.RowKit Pr

/-- a block behind the second question: where it lies, or that there is none -/
def RX (res : Option (List Nat)) (A : Option Addr) (n : Nat) (ok : Bool) (W : World) : Prop := match res with
 | some z => n = 16 ∧ ok = true ∧ At W A z
 | none => ok = false
theorem RX.mono {res : Option (List Nat)} {A : Option Addr} {n : Nat} {ok : Bool} {W W' : World} (h : RX res A n ok W) (hm : ∀ l, At W A l → At W' A l) : RX res A n ok W' := by
 cases res with
 | none => exact h
 | some z => exact ⟨h.1, h.2.1, hm z h.2.2⟩
def RefOpenV (res : Option (List Nat)) : Value := match res with
 | some y => .tuple #[.string (str (readStr (nibN y) 4)), .int .i64 (readZ (nibN y) 4), .bool true]
 | none => .tuple #[.string ⟨#[]⟩, .int .i64 (-1), .bool false]

set_option maxHeartbeats 8000000 in
set_option maxRecDepth 100000 in
theorem refOpenG_any (kind kl : Nat) (AK : Option Addr) (cK : Nat) (S0 : Value → World → Prop) (S1 : List Nat → Value → World → Prop) (T : Value → World → Prop) (F0 : List Nat → Option (List Nat)) (F1 : List Nat → List Nat → Option (List Nat)) (b : List Nat) (hbl : b.length = 16) (hbb : Byt b) (A : Option Addr) (cb : Nat) (a : ByteArray) (h13 : 13 ≤ a.size) (h19 : a.size ≤ 19) (had : ∀ c ∈ a.data.toList, isDec c = true)
    (r0 r1 : Option Addr) (n0 c0 n1 c1 : Nat) (w : World) (hA : At w A b) (hS0 : S0 (.agg #[.slice r0 n0 c0, .slice r1 n1 c1]) w) (k0 : RfOk S0) (k1 : ∀ x, RfOk (S1 x)) (g0 : Good16 F0) (g1 : ∀ x, x.length = 16 → Byt x → Good16 (F1 x))
    (d0 : RefStep kind kl AK cK true S0 F0 S1) (d1 : ∀ x, RefStep kind kl AK cK true (S1 x) (F1 x) (fun _ => T)) :
    Calls Tryz.prog 17 #[.int .i64 (kind : Int), .slice AK kl cK, .agg #[.slice r0 n0 c0, .slice r1 n1 c1], .slice A 16 cb, .string a] w fun e w' =>
     e = .returned (RefOpenV (openR F0 F1 b a.data.toList)) ∧ Below w.heap.size w w' := by
 have HA := Lib.hid (fun W => refAcct_any a h13 h19 had W)
 have hal := fourA_len a.data.toList (by simp; omega)
 have hab : Byt (fourA a.data.toList) := unhexL_lt (acctS_hex _ (by simp; omega) had)
 obtain ⟨res, hres⟩ : ∃ r, openR F0 F1 b a.data.toList = r := ⟨_, rfl⟩
 rw [hres]
 unfold openR at hres
 generalize fourA a.data.toList = AC at *
 have HRES := Lib.hid hres; clear hres
 have HAL := Lib.hid hal; clear hal
 have HAB := Lib.hid hab; clear hab
 have HS0 := Lib.hid (fun W (hW : Below w.heap.size w W) => k0.more _ w W hS0 hW); clear hS0
 have HD0 := Lib.hid d0; clear d0
 have HD1 := Lib.hid d1; clear d1
 have K1 := Lib.hid k1; clear k1
 have G0 := Lib.hid g0; clear g0
 have G1 := Lib.hid (fun q z (hq : q.length = 16) (hqb : Byt q) (h : F1 b q = some z) => g1 b hbl hbb q z hq hqb h); clear g1
 have hAb := hA
 clear had k0 hA
 obtain ⟨wa, hwa⟩ : ∃ x, w.alloc (.cells #[.slice r0 n0 c0, .slice r1 n1 c1] 45) = x := ⟨_, rfl⟩
 have zwa : wa.heap.size = w.heap.size + 1 := by rw [← hwa]; simp
 have bwa : Blk wa w.heap.size 45 #[.slice r0 n0 c0, .slice r1 n1 c1] := by rw [← hwa]; exact Blk.new w _ _
 have kwa : Below w.heap.size w wa := by rw [← hwa]; exact (Below.refl _ _).alloc (Nat.le_refl _) _
 go_enter Tryz.func17, Tryz.ntmps17
 go_wp2_with (first
  | (refine wpList_load_row rfl 45 (.tmp 7) rfl w.heap.size rfl 45 _ (0,0) _ bwa Tryz.underlying45 rfl (by rw [info_book]; rfl) ?_))
 refine (HD0.out wa _ A cb b hbl hbb (HS0.out _ kwa) (hAb.below kwa (Nat.le_refl _))).mono ?_
 rintro e w8 ⟨h8, hb8⟩
 have hB8 := bwa.below hb8 bwa.lt
 have hW8 : Below w.heap.size w w8 := kwa.trans (hb8.mono kwa.size)
 clear hb8 bwa hwa
 obtain ⟨f0, hf0⟩ : ∃ r, F0 b = r := ⟨_, rfl⟩
 rw [hf0] at h8
 have hrs : f0.bind (fun y => F1 b (xorTo AC y 16)) = res := by
  have := HRES.out
  rwa [hf0] at this
 have HF0 := Lib.hid hf0; clear hf0
 cases f0 with
 | none =>
  obtain ⟨bv, rfl, q0, m0, d0, q1, m1, d1, rfl⟩ := h8
  obtain rfl : none = res := hrs
  go_wp2_with (first
   | (refine wpList_store_all rfl 45 (.tmp 7) (.tmp 26) rfl w.heap.size #[.slice q0 m0 d0, .slice q1 m1 d1] rfl rfl 45 _ hB8 (by rw [info_book]; rfl) rfl (by simp [Value.oneCell']) ?_; intro w9 hB9 hO9))
  go_ret3
  exact ⟨rfl, hO9.below hW8 (Nat.le_refl _)⟩
 | some y =>
  obtain ⟨bv, A8, c8, rfl, ⟨q0, m0, d0, q1, m1, d1, rfl⟩, hA8, hS8⟩ := h8
  obtain ⟨hyl, hyb⟩ := G0.out _ _ hbl hbb HF0.out
  have HRS := Lib.hid (show F1 b (xorTo AC y 16) = res from hrs); clear hrs
  have HQL := Lib.hid (show (xorTo AC y 16).length = 16 by rw [xorTo_len, HAL.out])
  have HQB := Lib.hid (xorTo_byt HAB.out hyb 16)
  go_wp2_with (first
   | (refine wpList_store_all rfl 45 (.tmp 7) (.tmp 26) rfl w.heap.size #[.slice q0 m0 d0, .slice q1 m1 d1] rfl rfl 45 _ hB8 (by rw [info_book]; rfl) rfl (by simp [Value.oneCell']) ?_; intro w9 hB9 hO9; have hA9 := hA8.book hB8 hO9; have HS9 := Lib.hid ((K1.out b).only _ _ _ _ _ _ _ _ _ _ hS8 hB8 hO9); have hW9 := hO9.below hW8 (Nat.le_refl _)))
  refine wp_region_tree (.q 0 (.q 1 (.q 2 (.q 3 (.q 4 (.e [5, 12] fun i => bif i == 5 then (.e [6, 12] fun i => bif i == 6 then (.e [7, 12] fun i => bif i == 7 then (.q 8 (.q 9 (.q 10 (.q 11 (.e [12] fun _ => .e [13] fun _ => .q 14 (.q 15 (.done))))))) else (.e [7] fun _ => .q 8 (.q 9 (.q 10 (.q 11 (.e [13] fun _ => .q 14 (.q 15 (.done)))))))) else (.e [6] fun _ => .e [7] fun _ => .q 8 (.q 9 (.q 10 (.q 11 (.e [13] fun _ => .q 14 (.q 15 (.done)))))))) else (.e [5] fun _ => .e [6] fun _ => .e [7] fun _ => .q 8 (.q 9 (.q 10 (.q 11 (.e [13] fun _ => .q 14 (.q 15 (.done))))))))))))) (fun V => Blk V w.heap.size 45 #[.slice q0 m0 d0, .slice q1 m1 d1]) rfl (by kernel_rfl) (fun _ _ d _ _ h => by cases d <;> exact h) ?_
  change wpT _ _ _ _ _ _ w9.drew
  have hB : Blk w9.drew w.heap.size 45 #[.slice q0 m0 d0, .slice q1 m1 d1] := hB9
  have hW : Below w.heap.size w w9.drew := below_drewN hW9 1
  have hA : At w9.drew A8 y := fun hn => hA9 hn
  have HS := Lib.hid ((K1.out b).more _ _ w9.drew HS9.out (below_drewN (Below.refl _ _) 1))
  clear hB9 hW9 hA9 HS9 hO9 hB8 hW8 hA8 hS8
  generalize w9.drew = u0 at *
  iterate 2 (refine t_q rfl rfl hB _ (fun W hW => by (go_simp; rfl)) ?_; go_simp)
  refine t_load_row rfl rfl 45 (.tmp 7) rfl w.heap.size rfl 45 _ hB (fun W hW => hW) _ Tryz.underlying45 rfl (by rw [info_book]; rfl) ?_
  go_simp
  iterate 2 (refine t_q rfl rfl hB _ (fun W hW => by (go_simp; rfl)) ?_; go_simp)
  refine t_two (t_op rfl rfl fun K hK => ?_) (t_op rfl rfl fun K hK => ?_)
  rotate_left
  focus
   have hlB := hB.lt
   go_simp
   have hb := (Below.refl u0.heap.size u0).alloc (Nat.le_refl _) (.cells #[.slice none 0 0, .slice none 0 0] 45)
   have hR := Blk.new u0 45 #[.slice none 0 0, .slice none 0 0]
   have hB' := hB.below hb hB.lt
   have hW' := hW.trans (hb.mono hW.size)
   have HS' := Lib.hid ((K1.out b).more _ _ _ HS.out hb)
   have hA' := hA.below hb (Nat.le_refl _)
   refine hK _ _ hB' ?_
   clear hK K hb
   clear hB
   have hB := hB'
   clear hB'
   clear hW
   have hW := hW'
   clear hW'
   clear HS
   have HS := HS'
   clear HS'
   clear hA
   have hA := hA'
   clear hA'
   obtain ⟨zA, hzA⟩ : ∃ z, u0.heap.size = z := ⟨_, rfl⟩
   rw [hzA] at hR ⊢
   have hzl : w.heap.size < zA := by have := hB.lt; have := hW.size; omega
   clear hzA
   generalize u0.alloc (.cells #[.slice none 0 0, .slice none 0 0] 45) = u1 at *
   refine t_e rfl rfl fun K hK => ?_
   go_simp
   refine (HA.out u1).mono ?_
   rintro e u2 ⟨⟨va, rfl, hva⟩, hb⟩
   have hAl := HAL.out
   obtain ⟨ga, ca, rfl, hga, hca, hgal, hBa⟩ := Own.form hva (by intro h; rw [h] at hAl; cases hAl)
   rw [hAl] at hca ⊢
   have hB' := hB.below hb hB.lt
   have hW' := hW.trans (hb.mono hW.size)
   have HS' := Lib.hid ((K1.out b).more _ _ _ HS.out hb)
   have hR' := hR.below hb hR.lt
   have hA' := hA.below hb (Nat.le_refl _)
   refine hK _ _ hB' ?_
   clear hK K hva hb
   clear hB
   have hB := hB'
   clear hB'
   clear hW
   have hW := hW'
   clear hW'
   clear HS
   have HS := HS'
   clear HS'
   clear hR
   have hR := hR'
   clear hR'
   clear hA
   have hA := hA'
   clear hA'
   refine t_e rfl rfl fun K hK => ?_
   go_simp
   refine (refXor_any y AC 16 hyl HAL.out (by omega) (by omega) hyb HAB.out A8 (some ⟨ga, 0, none⟩) c8 ca u2 hA (fun _ => ⟨_, _, rfl, hBa⟩)).mono ?_
   rintro e u3 ⟨⟨vx, rfl, hvx⟩, hb⟩
   rw [xorTo_comm y AC hyl HAL.out] at hvx
   have hqb := xorTo_byt HAB.out hyb 16
   have hql : (xorTo AC y 16).length = 16 := by rw [xorTo_len, HAL.out]
   generalize xorTo AC y 16 = q at *
   obtain ⟨gx, cx, rfl, hgx, hcx, hgxl, hBx⟩ := Own.form hvx (by intro h; rw [h] at hql; cases hql)
   rw [hql] at hcx ⊢
   have hB' := hB.below hb hB.lt
   have hW' := hW.trans (hb.mono hW.size)
   have HS' := Lib.hid ((K1.out b).more _ _ _ HS.out hb)
   have hR' := hR.below hb hR.lt
   refine hK _ _ hB' ?_
   clear hK K hvx hb hA hBa
   clear hB
   have hB := hB'
   clear hB'
   clear hW
   have hW := hW'
   clear hW'
   clear HS
   have HS := HS'
   clear HS'
   clear hR
   have hR := hR'
   clear hR'
   refine t_e rfl rfl fun K hK => ?_
   go_simp
   refine (HD1.out b u3 _ (some ⟨gx, 0, none⟩) cx q hql hqb HS.out (fun _ => ⟨_, _, rfl, hBx⟩)).mono ?_
   rintro e u4 ⟨h13', hb⟩
   rw [HRS.out] at h13'
   have hB' := hB.below hb hB.lt
   have hW' := hW.trans (hb.mono hW.size)
   have hR' := hR.below hb hR.lt
   have hEX : ∃ s0 k0 e0 s1 k1 e1 A' n' c' ok, e = .returned (.tuple #[.agg #[.slice s0 k0 e0, .slice s1 k1 e1], .slice A' n' c', .bool ok]) ∧ RX res A' n' ok u4 := by
    cases res with
    | none =>
     obtain ⟨bv, rfl, s0, k0, e0, s1, k1, e1, rfl⟩ := h13'
     exact ⟨_, _, _, _, _, _, _, _, _, _, rfl, rfl⟩
    | some z =>
     obtain ⟨bv, A', c', rfl, ⟨s0, k0, e0, s1, k1, e1, rfl⟩, hA', _⟩ := h13'
     exact ⟨_, _, _, _, _, _, _, _, _, _, rfl, rfl, rfl, hA'⟩
   obtain ⟨s0, k0, e0, s1, k1, e1, A', n', c', ok, rfl, hRX⟩ := hEX
   refine hK _ _ hB' ?_
   clear hK K h13' hb HS hBx
   clear hB
   have hB := hB'
   clear hB'
   clear hW
   have hW := hW'
   clear hW'
   clear hR
   have hR := hR'
   clear hR'
   go_simp
   iterate 4 (refine t_q rfl rfl hB _ (fun W hW => by (go_simp; rfl)) ?_; go_simp)
  rotate_left
  go_simp
  refine (HA.out u0).mono ?_
  rintro e u1 ⟨⟨va, rfl, hva⟩, hb⟩
  have hAl := HAL.out
  obtain ⟨ga, ca, rfl, hga, hca, hgal, hBa⟩ := Own.form hva (by intro h; rw [h] at hAl; cases hAl)
  rw [hAl] at hca ⊢
  have hB' := hB.below hb hB.lt
  have hW' := hW.trans (hb.mono hW.size)
  have HS' := Lib.hid ((K1.out b).more _ _ _ HS.out hb)
  have hA' := hA.below hb (Nat.le_refl _)
  refine hK _ _ hB' ?_
  clear hK K hva hb
  clear hB
  have hB := hB'
  clear hB'
  clear hW
  have hW := hW'
  clear hW'
  clear HS
  have HS := HS'
  clear HS'
  clear hA
  have hA := hA'
  clear hA'
  refine t_two (t_op rfl rfl fun K hK => ?_) (t_op rfl rfl fun K hK => ?_)
  rotate_left
  focus
   have hlB := hB.lt
   go_simp
   have hb := (Below.refl u1.heap.size u1).alloc (Nat.le_refl _) (.cells #[.slice none 0 0, .slice none 0 0] 45)
   have hR := Blk.new u1 45 #[.slice none 0 0, .slice none 0 0]
   have hB' := hB.below hb hB.lt
   have hW' := hW.trans (hb.mono hW.size)
   have HS' := Lib.hid ((K1.out b).more _ _ _ HS.out hb)
   have hA' := hA.below hb (Nat.le_refl _)
   have hBa' := hBa.below hb hgal
   have hgal' := Nat.lt_of_lt_of_le hgal hb.size
   refine hK _ _ hB' ?_
   clear hK K hb
   clear hB
   have hB := hB'
   clear hB'
   clear hW
   have hW := hW'
   clear hW'
   clear HS
   have HS := HS'
   clear HS'
   clear hA
   have hA := hA'
   clear hA'
   clear hBa
   have hBa := hBa'
   clear hBa'
   clear hgal
   have hgal := hgal'
   clear hgal'
   obtain ⟨zA, hzA⟩ : ∃ z, u1.heap.size = z := ⟨_, rfl⟩
   rw [hzA] at hR ⊢
   have hzl : w.heap.size < zA := by have := hB.lt; have := hW.size; omega
   clear hzA
   generalize u1.alloc (.cells #[.slice none 0 0, .slice none 0 0] 45) = u2 at *
   refine t_e rfl rfl fun K hK => ?_
   go_simp
   refine (refXor_any y AC 16 hyl HAL.out (by omega) (by omega) hyb HAB.out A8 (some ⟨ga, 0, none⟩) c8 ca u2 hA (fun _ => ⟨_, _, rfl, hBa⟩)).mono ?_
   rintro e u3 ⟨⟨vx, rfl, hvx⟩, hb⟩
   rw [xorTo_comm y AC hyl HAL.out] at hvx
   have hqb := xorTo_byt HAB.out hyb 16
   have hql : (xorTo AC y 16).length = 16 := by rw [xorTo_len, HAL.out]
   generalize xorTo AC y 16 = q at *
   obtain ⟨gx, cx, rfl, hgx, hcx, hgxl, hBx⟩ := Own.form hvx (by intro h; rw [h] at hql; cases hql)
   rw [hql] at hcx ⊢
   have hB' := hB.below hb hB.lt
   have hW' := hW.trans (hb.mono hW.size)
   have HS' := Lib.hid ((K1.out b).more _ _ _ HS.out hb)
   have hR' := hR.below hb hR.lt
   refine hK _ _ hB' ?_
   clear hK K hvx hb hA hBa
   clear hB
   have hB := hB'
   clear hB'
   clear hW
   have hW := hW'
   clear hW'
   clear HS
   have HS := HS'
   clear HS'
   clear hR
   have hR := hR'
   clear hR'
   refine t_e rfl rfl fun K hK => ?_
   go_simp
   refine (HD1.out b u3 _ (some ⟨gx, 0, none⟩) cx q hql hqb HS.out (fun _ => ⟨_, _, rfl, hBx⟩)).mono ?_
   rintro e u4 ⟨h13', hb⟩
   rw [HRS.out] at h13'
   have hB' := hB.below hb hB.lt
   have hW' := hW.trans (hb.mono hW.size)
   have hR' := hR.below hb hR.lt
   have hEX : ∃ s0 k0 e0 s1 k1 e1 A' n' c' ok, e = .returned (.tuple #[.agg #[.slice s0 k0 e0, .slice s1 k1 e1], .slice A' n' c', .bool ok]) ∧ RX res A' n' ok u4 := by
    cases res with
    | none =>
     obtain ⟨bv, rfl, s0, k0, e0, s1, k1, e1, rfl⟩ := h13'
     exact ⟨_, _, _, _, _, _, _, _, _, _, rfl, rfl⟩
    | some z =>
     obtain ⟨bv, A', c', rfl, ⟨s0, k0, e0, s1, k1, e1, rfl⟩, hA', _⟩ := h13'
     exact ⟨_, _, _, _, _, _, _, _, _, _, rfl, rfl, rfl, hA'⟩
   obtain ⟨s0, k0, e0, s1, k1, e1, A', n', c', ok, rfl, hRX⟩ := hEX
   refine hK _ _ hB' ?_
   clear hK K h13' hb HS hBx
   clear hB
   have hB := hB'
   clear hB'
   clear hW
   have hW := hW'
   clear hW'
   clear hR
   have hR := hR'
   clear hR'
   go_simp
   iterate 4 (refine t_q rfl rfl hB _ (fun W hW => by (go_simp; rfl)) ?_; go_simp)
  rotate_left 2
  go_simp
  refine (refXor_any y AC 16 hyl HAL.out (by omega) (by omega) hyb HAB.out A8 (some ⟨ga, 0, none⟩) c8 ca u1 hA (fun _ => ⟨_, _, rfl, hBa⟩)).mono ?_
  rintro e u2 ⟨⟨vx, rfl, hvx⟩, hb⟩
  rw [xorTo_comm y AC hyl HAL.out] at hvx
  have hqb := xorTo_byt HAB.out hyb 16
  have hql : (xorTo AC y 16).length = 16 := by rw [xorTo_len, HAL.out]
  generalize xorTo AC y 16 = q at *
  obtain ⟨gx, cx, rfl, hgx, hcx, hgxl, hBx⟩ := Own.form hvx (by intro h; rw [h] at hql; cases hql)
  rw [hql] at hcx ⊢
  have hB' := hB.below hb hB.lt
  have hW' := hW.trans (hb.mono hW.size)
  have HS' := Lib.hid ((K1.out b).more _ _ _ HS.out hb)
  refine hK _ _ hB' ?_
  clear hK K hvx hb hA hBa
  clear hB
  have hB := hB'
  clear hB'
  clear hW
  have hW := hW'
  clear hW'
  clear HS
  have HS := HS'
  clear HS'
  refine t_two (t_op rfl rfl fun K hK => ?_) (t_op rfl rfl fun K hK => ?_)
  rotate_left
  focus
   have hlB := hB.lt
   go_simp
   have hb := (Below.refl u2.heap.size u2).alloc (Nat.le_refl _) (.cells #[.slice none 0 0, .slice none 0 0] 45)
   have hR := Blk.new u2 45 #[.slice none 0 0, .slice none 0 0]
   have hB' := hB.below hb hB.lt
   have hW' := hW.trans (hb.mono hW.size)
   have HS' := Lib.hid ((K1.out b).more _ _ _ HS.out hb)
   have hBx' := hBx.below hb hgxl
   have hgxl' := Nat.lt_of_lt_of_le hgxl hb.size
   refine hK _ _ hB' ?_
   clear hK K hb
   clear hB
   have hB := hB'
   clear hB'
   clear hW
   have hW := hW'
   clear hW'
   clear HS
   have HS := HS'
   clear HS'
   clear hBx
   have hBx := hBx'
   clear hBx'
   clear hgxl
   have hgxl := hgxl'
   clear hgxl'
   obtain ⟨zA, hzA⟩ : ∃ z, u2.heap.size = z := ⟨_, rfl⟩
   rw [hzA] at hR ⊢
   have hzl : w.heap.size < zA := by have := hB.lt; have := hW.size; omega
   clear hzA
   generalize u2.alloc (.cells #[.slice none 0 0, .slice none 0 0] 45) = u3 at *
   refine t_e rfl rfl fun K hK => ?_
   go_simp
   refine (HD1.out b u3 _ (some ⟨gx, 0, none⟩) cx q hql hqb HS.out (fun _ => ⟨_, _, rfl, hBx⟩)).mono ?_
   rintro e u4 ⟨h13', hb⟩
   rw [HRS.out] at h13'
   have hB' := hB.below hb hB.lt
   have hW' := hW.trans (hb.mono hW.size)
   have hR' := hR.below hb hR.lt
   have hEX : ∃ s0 k0 e0 s1 k1 e1 A' n' c' ok, e = .returned (.tuple #[.agg #[.slice s0 k0 e0, .slice s1 k1 e1], .slice A' n' c', .bool ok]) ∧ RX res A' n' ok u4 := by
    cases res with
    | none =>
     obtain ⟨bv, rfl, s0, k0, e0, s1, k1, e1, rfl⟩ := h13'
     exact ⟨_, _, _, _, _, _, _, _, _, _, rfl, rfl⟩
    | some z =>
     obtain ⟨bv, A', c', rfl, ⟨s0, k0, e0, s1, k1, e1, rfl⟩, hA', _⟩ := h13'
     exact ⟨_, _, _, _, _, _, _, _, _, _, rfl, rfl, rfl, hA'⟩
   obtain ⟨s0, k0, e0, s1, k1, e1, A', n', c', ok, rfl, hRX⟩ := hEX
   refine hK _ _ hB' ?_
   clear hK K h13' hb HS hBx
   clear hB
   have hB := hB'
   clear hB'
   clear hW
   have hW := hW'
   clear hW'
   clear hR
   have hR := hR'
   clear hR'
   go_simp
   iterate 4 (refine t_q rfl rfl hB _ (fun W hW => by (go_simp; rfl)) ?_; go_simp)
  rotate_left 3
  go_simp
  refine (HD1.out b u2 _ (some ⟨gx, 0, none⟩) cx q hql hqb HS.out (fun _ => ⟨_, _, rfl, hBx⟩)).mono ?_
  rintro e u3 ⟨h13', hb⟩
  rw [HRS.out] at h13'
  have hB' := hB.below hb hB.lt
  have hW' := hW.trans (hb.mono hW.size)
  have hEX : ∃ s0 k0 e0 s1 k1 e1 A' n' c' ok, e = .returned (.tuple #[.agg #[.slice s0 k0 e0, .slice s1 k1 e1], .slice A' n' c', .bool ok]) ∧ RX res A' n' ok u3 := by
   cases res with
   | none =>
    obtain ⟨bv, rfl, s0, k0, e0, s1, k1, e1, rfl⟩ := h13'
    exact ⟨_, _, _, _, _, _, _, _, _, _, rfl, rfl⟩
   | some z =>
    obtain ⟨bv, A', c', rfl, ⟨s0, k0, e0, s1, k1, e1, rfl⟩, hA', _⟩ := h13'
    exact ⟨_, _, _, _, _, _, _, _, _, _, rfl, rfl, rfl, hA'⟩
  obtain ⟨s0, k0, e0, s1, k1, e1, A', n', c', ok, rfl, hRX⟩ := hEX
  refine hK _ _ hB' ?_
  clear hK K h13' hb HS hBx
  clear hB
  have hB := hB'
  clear hB'
  clear hW
  have hW := hW'
  clear hW'
  go_simp
  iterate 4 (refine t_q rfl rfl hB _ (fun W hW => by (go_simp; rfl)) ?_; go_simp)
  refine t_e rfl rfl fun K hK => ?_
  have hlB := hB.lt
  go_simp
  have hb := (Below.refl u3.heap.size u3).alloc (Nat.le_refl _) (.cells #[.slice none 0 0, .slice none 0 0] 45)
  have hR := Blk.new u3 45 #[.slice none 0 0, .slice none 0 0]
  have hB' := hB.below hb hB.lt
  have hW' := hW.trans (hb.mono hW.size)
  have hRX' := hRX.mono (fun l h => h.below hb (Nat.le_refl _))
  refine hK _ _ hB' ?_
  clear hK K hb
  clear hB
  have hB := hB'
  clear hB'
  clear hW
  have hW := hW'
  clear hW'
  clear hRX
  have hRX := hRX'
  clear hRX'
  obtain ⟨zA, hzA⟩ : ∃ z, u3.heap.size = z := ⟨_, rfl⟩
  rw [hzA] at hR ⊢
  have hzl : w.heap.size < zA := by have := hB.lt; have := hW.size; omega
  clear hzA
  generalize u3.alloc (.cells #[.slice none 0 0, .slice none 0 0] 45) = u4 at *
  all_goals
   refine t_e rfl rfl fun K hK => ?_
   refine op_store_row 45 (.tmp 15) (.tmp 40) rfl zA #[.slice s0 k0 e0, .slice s1 k1 e1] rfl rfl 45 _ hR (by rw [info_book]; rfl) rfl (by simp [Value.oneCell']) fun u5 hB5 hO5 => ?_
   have hS5 := hB.only hO5 (by omega)
   have hW5 := hO5.below hW (by omega)
   have hRX5 := hRX.mono (fun l h => h.book hR hO5)
   refine hK _ _ hS5 ?_
   clear hK K hB hW hR hRX hB5 hO5
   go_simp
   iterate 2 (refine t_q rfl rfl hS5 _ (fun W hW => by (go_simp; rfl)) ?_; go_simp)
   refine t_done ?_
   cases res with
   | none =>
    obtain rfl : ok = false := hRX5
    go_wp2
    go_ret3
    exact ⟨rfl, hW5⟩
   | some z =>
    obtain ⟨rfl, rfl, hAz⟩ := hRX5
    obtain ⟨hzl2, hzb⟩ := G1.out _ _ HQL.out HQB.out HRS.out
    have hN32 : (nibN z).length = 32 := by rw [nibN_len, hzl2]
    go_wp2_with fail
    refine (nibblesR_any z 16 hzl2 (by omega) hzb A' c' u5 hAz).mono ?_
    rintro e u6 ⟨⟨v6, rfl, hv6⟩, hb6⟩
    obtain ⟨A6, c6, rfl, hc6, hAt6⟩ := hv6.form
    rw [hN32] at hc6 ⊢
    have hW6 := hW5.trans (hb6.mono hW5.size)
    go_wp2_with fail
    refine (readR_any (nibN z) 32 hN32 (by omega) (nibN_lt _ hzb) 4 (by omega) A6 c6 u6 hAt6).mono ?_
    rintro e u7 ⟨rfl, hb7⟩
    have hW7 := hW6.trans (hb7.mono hW6.size)
    go_wp2
    go_ret3
    exact ⟨rfl, hW7⟩
end Go.Proofs.YthodpjcdmdbnoaaGreatDoor
