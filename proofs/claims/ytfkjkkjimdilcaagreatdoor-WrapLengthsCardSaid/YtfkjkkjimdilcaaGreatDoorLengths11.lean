/- lockboxlaw11.WrapLengths: the walk. -/
import Derived.Test.YtfkjkkjimdilcaaGreatDoorLaw11
namespace Go.Proofs.YtfkjkkjimdilcaaGreatDoor
open Go Go.RowKit Pr

theorem ver_of {h : Hd} (hr : rightEr h = .ok) : h.ver.toNat = 66 ∨ h.ver.toNat = 68 := by
  unfold rightEr rE at hr
  split at hr
  · rename_i b0
    rw [isIn_mem, decide_eq_true_eq] at b0
    simp only [sBD, List.mem_cons, List.not_mem_nil, or_false] at b0
    rcases b0 with b0 | b0 <;> rw [b0]
    · exact .inl rfl
    · exact .inr rfl
  · cases hr
theorem wrap_head {h : Hd} {wk key fill : List Nat} (H : WrapIn h wk key fill) : (str (wrapS h wk key fill)).extract 0 16 = str (printL h (lenW (kindV h.ver.toNat) (textW key fill).length)) := by
  obtain ⟨-, -, -, -, hu2, hs2⟩ := right_ok H.hr
  rw [str_extract]
  unfold wrapS
  rw [List.drop_zero, List.append_assoc, List.take_append_of_le_length (by rw [printL_size h hu2 hs2]; omega), List.take_of_length_le (by rw [printL_size h hu2 hs2]; omega)]

theorem lenIn_d16 (h : Hd) (hr : rightEr h = .ok) (hv : h.ver.toNat = 66) (l m : List Nat) (gl : Byt l) (gm : Byt m) : WrapIn h (someN l 16) (someN m 16) (someN [] 6) where
  hr := hr
  hk := by rw [hv]; exact ⟨someN_byt gl 16, .inl ⟨rfl, .inl (someN_len _ _)⟩⟩
  gk := someN_byt gm 16
  gf := someN_byt (fun c hc => by cases hc) 6
  hfits := by rw [someN_len]; rfl
  hfill := by rw [someN_len, someN_len, hv]; decide
  hf0 := by rw [someN_len]; decide

set_option maxHeartbeats 4000000 in
set_option maxRecDepth 100000 in
theorem len11_d16 (h : Hd) (hr : rightEr h = .ok) (hv : h.ver.toNat = 66) (l m : List Nat) (L0 M0 : Nat) (hl : l.length = L0) (hm : m.length = M0) (gl : Byt l) (gm : Byt m) (hL : L0 ≤ 100) (hM : M0 ≤ 100) (A0 A1 : Option Addr) (c0 c1 n : Nat) (hn : n % 2 = 0) (w : World) (hA0 : At w A0 l) (hA1 : At w A1 m) (hG : EtOk w) (hT : TabOk w) :
    Calls Tryz.prog 5 #[.slice A0 L0 c0, .agg h.cells, .slice A1 M0 c1, .int .u8 n] w fun e w' => e = .returned (.bool true) ∧ Below w.heap.size w w' := by
  have hin := lenIn_d16 h hr hv l m gl gm
  have hnn : (n : Int) % 2 = 0 := by omega
  obtain ⟨-, -, -, -, hu2, hs2⟩ := right_ok hr
  have HAW := Lib.hid (fun W (hb : Below w.heap.size w W) => awake11_any W (hG.below hb (Nat.le_refl _)) (fun W' hb' => (hT.below hb).below hb'))
  have HWG := Lib.hid (fun W => refWrong_any h (by omega) (by omega) W)
  rw [show erAt (rightEr h) = -1 by rw [hr]; rfl] at HWG
  have hws := fun A0 A1 A2 c0 c1 c2 W h0 h1 h2 hTW => wrap_ok h hin.hr (someN l 16) 16 hin.hk (someN_len _ _) (someN m 16) (someN [] 6) 16 6 (someN_len _ _) (someN_len _ _) hin.gk hin.gf (by have := hin.hfits; rwa [someN_len] at this) (by have := hin.hfill; rwa [someN_len, someN_len] at this) (by omega) A0 A1 A2 c0 c1 c2 W h0 h1 h2 hTW
  have HWR := Lib.hid hws; clear hws
  have HFL := Lib.hid (fun W => fill_any h 16 (by omega) W)
  rw [show fillW h.ver.toNat 16 = 6 by rw [hv]; decide] at HFL
  have HPR := Lib.hid (fun W => refPrint_ok h hr 80 (by omega) (by omega) W)
  have hsz : (str (wrapS h (someN l 16) (someN m 16) (someN [] 6))).size = 80 := by
    rw [str_size, hin.len.1, hin.facts.2.1, someN_len, someN_len, hv]
    rfl
  have hsh := wrap_head hin
  rw [hin.facts.2.1, someN_len, someN_len, hv, show lenW (kindV 66) (2 + 16 + 6) = 80 from rfl] at hsh
  have HW16 := Lib.hid (fun A c W hA => some_any l L0 hl (by omega) gl 16 (by omega) A c W hA)
  have HMK := Lib.hid (fun A c W hA => some_any m M0 hm (by omega) gm 16 (by omega) A c W hA)
  have HNF := Lib.hid (fun W => some_any [] 0 rfl (by omega) (fun c hc => by cases hc) 6 (by omega) none 0 W (fun h => absurd rfl h))
  have HLW := Lib.hid (someN_len l 16)
  have HLK := Lib.hid (someN_len m 16)
  have HLF := Lib.hid (someN_len [] 6)
  have hcs6 : h.cells.size = 6 := rfl
  have hco : h.cells.all (·.oneCell') = true := by simp [Hd.cells, Value.oneCell']
  have hc0 : h.cells[0]? = some (.int .u8 66) := by
    have : h.cells[0]? = some (.int .u8 (h.ver.toNat : Int)) := rfl
    rw [this, hv]; rfl
  clear hin
  generalize str (wrapS h (someN l 16) (someN m 16) (someN [] 6)) = S at *
  generalize str (printL h 80) = PL at *
  generalize someN l 16 = WN at *
  generalize someN m 16 = KN at *
  generalize someN [] 6 = FN at *
  have hb0 : Below w.heap.size w (w.alloc (.cells h.cells 24)) := (Below.refl _ _).alloc (Nat.le_refl _) _
  have hB0 := Blk.new w 24 h.cells
  generalize h.cells = cs at *
  have HS6 := Lib.hid hcs6; clear hcs6
  have HCO := Lib.hid hco; clear hco
  have HA0 := Lib.hid hA0; clear hA0
  have HA1 := Lib.hid hA1; clear hA1
  have HC0 := Lib.hid hc0; clear hc0
  have hL1 : ¬ 100 < (L0 : Int) := by omega
  have hM1 : ¬ 100 < (M0 : Int) := by omega
  have HT := Lib.hid hT; clear hT
  have hszI : ((S.size : Int) == 80) = true := by rw [beq_iff_eq]; omega
  have hsT : ((S.extract 0 16).toList == PL.toList) = true := by rw [hsh]; exact beq_self_eq_true _
  have hS16 : 16 ≤ S.size := by omega
  have hs16I : (16 : Int) ≤ (S.size : Int) := by omega
  have HB0 := Lib.hid hB0; clear hB0
  have H0 := Lib.hid hb0; clear hb0
  clear hl hm gl gm hL hM hsz hsh hr hv hu2 hs2 hn hG
  go_enter Tryz.func5, Tryz.ntmps5
  go_wp2_with fail
  refine (HAW.out _ H0.out).mono ?_
  rintro e w1 ⟨rfl, hb1⟩
  have hH1 := HB0.out.below hb1 HB0.out.lt
  have hb1 := H0.out.trans (hb1.mono H0.out.size)
  clear HB0 H0
  go_wp2_with (first
    | (refine wpList_load_rowG (by go_simp) 24 (.tmp 5) rfl w.heap.size rfl 24 cs hH1 _ Tryz.underlying24 rfl (by rw [info_head, HS6.out]) ?_))
  refine (HWG.out _).mono ?_
  rintro e w2 ⟨rfl, hb2⟩
  have hH2 := hH1.below hb2 hH1.lt
  have hbel2 := hb1.trans (hb2.mono hb1.size)
  clear hb1 hb2 hH1
  have hbn : Below w2.heap.size w2 (w2.alloc (.cells #[.int .i64 16, .int .i64 24] 3)) := (Below.refl _ _).alloc (Nat.le_refl _) _
  go_wp2_with fail
  refine (HMK.out _ _ _ ((HA1.out.below hbel2 (Nat.le_refl _)).below hbn (Nat.le_refl _))).mono ?_
  rintro e w3 ⟨⟨v, rfl, hv⟩, hb3⟩
  have hb23 := hbn.trans (hb3.mono hbn.size)
  have hbel3 := hbel2.trans (hb23.mono hbel2.size)
  have hH3 := hH2.below hb23 hH2.lt
  obtain ⟨gk, ck, rfl, hAk, -, -⟩ := hv.at_ HLK.out (by omega)
  clear hv hb3 hb23 hH2 hbn hbel2
  go_wp2_with (first
    | (refine wpList_load_rowG rfl 24 (.tmp 5) rfl w.heap.size rfl 24 cs hH3 _ Tryz.underlying24 rfl (by rw [info_head, HS6.out]) ?_))
  refine (HFL.out _).mono ?_
  rintro e w4 ⟨rfl, hb4⟩
  have hH4 := hH3.below hb4 hH3.lt
  have hAk4 := hAk.below hb4 (Nat.le_refl _)
  have hbel4 := hbel3.trans (hb4.mono hbel3.size)
  have hcv : w4.cell? ⟨w.heap.size, 0, none⟩ = some (.int .u8 66) := (hH4.cell 0).trans HC0.out
  clear hb4 hH3 hAk hbel3
  go_wp2_with fail
  refine wp_region_tree (.q 0 (.q 2 (.q 3 (.q 4 (.e [1] fun _ => .e [5] fun _ => .e [6] fun _ => .q 7 (.q 8 (.q 9 (.q 10 (.q 11 (.done)))))))))) (fun W => Blk W w.heap.size 24 cs ∧ At W (some ⟨gk, 0, none⟩) KN) rfl (by kernel_rfl) (fun _ _ d _ _ h => by cases d <;> exact h) ?_
  have hS : Blk w4.drew w.heap.size 24 cs ∧ At w4.drew (some ⟨gk, 0, none⟩) KN := ⟨hH4, hAk4⟩
  have hbd : Below w.heap.size w w4.drew := below_drewN hbel4 1
  change wpT _ _ _ _ _ _ w4.drew
  clear hH4 hAk4 hbel4 hcv
  generalize w4.drew = w5 at *
  refine t_q rfl rfl hS _ (fun W hW => by (go_simp; rfl)) ?_
  go_simp
  refine t_load_row rfl rfl 24 (.tmp 5) rfl w.heap.size rfl 24 cs hS (fun W hW => hW.1) _ Tryz.underlying24 rfl (by rw [info_head, HS6.out]) ?_
  go_simp
  iterate 2 (refine t_q rfl rfl hS _ (fun W hW => by (go_simp; rfl)) ?_; go_simp)
  refine t_e rfl rfl fun K hK => ?_
  go_simp
  refine (HW16.out _ _ _ (HA0.out.below hbd (Nat.le_refl _))).mono ?_
  rintro e w6 ⟨⟨v, rfl, hv⟩, hb6⟩
  obtain ⟨g6, c6, rfl, hA6, -, -⟩ := hv.at_ HLW.out (by omega)
  have hS6 : Blk w6 w.heap.size 24 cs ∧ At w6 (some ⟨gk, 0, none⟩) KN := ⟨hS.1.below hb6 hS.1.lt, hS.2.below hb6 (Nat.le_refl _)⟩
  have hbd6 : Below w.heap.size w w6 := hbd.trans (hb6.mono hbd.size)
  refine hK _ _ hS6 ?_
  clear hK K hb6 hS hbd hv
  refine t_e rfl rfl fun K hK => ?_
  go_simp
  refine (HNF.out _).mono ?_
  rintro e w7 ⟨⟨v, rfl, hv⟩, hb7⟩
  obtain ⟨g7, c7, rfl, hA7, -, -⟩ := hv.at_ HLF.out (by omega)
  have hS7 : Blk w7 w.heap.size 24 cs ∧ At w7 (some ⟨gk, 0, none⟩) KN := ⟨hS6.1.below hb7 hS6.1.lt, hS6.2.below hb7 (Nat.le_refl _)⟩
  have hA67 := hA6.below hb7 (Nat.le_refl _)
  have hbd7 : Below w.heap.size w w7 := hbd6.trans (hb7.mono hbd6.size)
  refine hK _ _ hS7 ?_
  clear hK K hb7 hS6 hbd6 hv hA6
  refine t_e rfl rfl fun K hK => ?_
  go_simp
  refine (HWR.out _ _ _ _ _ _ w7 hA67 hS7.2 hA7 (fun W hW => HT.out.below (hbd7.trans (hW.mono hbd7.size)))).mono ?_
  rintro e w8 ⟨rfl, hb8⟩
  have hS8 : Blk w8 w.heap.size 24 cs ∧ At w8 (some ⟨gk, 0, none⟩) KN := ⟨hS7.1.below hb8 hS7.1.lt, hS7.2.below hb8 (Nat.le_refl _)⟩
  have hbd8 : Below w.heap.size w w8 := hbd7.trans (hb8.mono hbd7.size)
  refine hK _ _ hS8 ?_
  clear hK K hb8 hS7 hbd7 hA67 hA7
  go_simp
  iterate 5 (refine t_q rfl rfl hS8 _ (fun W hW => by (go_simp; rfl)) ?_; go_simp)
  refine t_done ?_
  go_wp2_with fail
  refine wp_region_tree (.q 0 (.q 1 (.q 2 (.q 3 (.q 4 (.q 5 (.q 6 (.q 7 (.q 8 (.e [9] fun _ => .q 10 (.q 11 (.q 12 (.done))))))))))))) (fun W => Blk W w.heap.size 24 cs) rfl (by kernel_rfl) (fun _ _ d _ _ h => by cases d <;> exact h) ?_
  have hB9 : Blk w8.drew w.heap.size 24 cs := hS8.1
  have hbd9 : Below w.heap.size w w8.drew := below_drewN hbd8 1
  change wpT _ _ _ _ _ _ w8.drew
  clear hS8 hbd8
  generalize w8.drew = w9 at *
  iterate 6 (refine t_q rfl rfl hB9 _ (fun W hW => by (go_simp; rfl)) ?_; go_simp)
  refine t_q rfl rfl hB9 (.string (S.extract 0 16)) (fun W hW => by go_simp) ?_
  go_simp
  refine t_load_row rfl rfl 24 (.tmp 5) rfl w.heap.size rfl 24 cs hB9 (fun W hW => hW) _ Tryz.underlying24 rfl (by rw [info_head, HS6.out]) ?_
  go_simp
  refine t_q rfl rfl hB9 _ (fun W hW => by (go_simp; rfl)) ?_
  go_simp
  refine t_e rfl rfl fun K hK => ?_
  go_simp
  refine (HPR.out _).mono ?_
  rintro e wA ⟨rfl, hbA⟩
  have hBA := hB9.below hbA hB9.lt
  have hbdA : Below w.heap.size w wA := hbd9.trans (hbA.mono hbd9.size)
  refine hK _ _ hBA ?_
  clear hK K hbA hB9 hbd9
  go_simp
  iterate 3 (refine t_q rfl rfl hBA _ (fun W hW => by (go_simp; rfl)) ?_; go_simp)
  refine t_done ?_
  go_wp2
  go_ret
  exact ⟨rfl, hbdA⟩

theorem lenIn_d24 (h : Hd) (hr : rightEr h = .ok) (hv : h.ver.toNat = 66) (l m : List Nat) (gl : Byt l) (gm : Byt m) : WrapIn h (someN l 16) (someN m 24) (someN [] 6) where
  hr := hr
  hk := by rw [hv]; exact ⟨someN_byt gl 16, .inl ⟨rfl, .inl (someN_len _ _)⟩⟩
  gk := someN_byt gm 24
  gf := someN_byt (fun c hc => by cases hc) 6
  hfits := by rw [someN_len]; rfl
  hfill := by rw [someN_len, someN_len, hv]; decide
  hf0 := by rw [someN_len]; decide

set_option maxHeartbeats 4000000 in
set_option maxRecDepth 100000 in
theorem len11_d24 (h : Hd) (hr : rightEr h = .ok) (hv : h.ver.toNat = 66) (l m : List Nat) (L0 M0 : Nat) (hl : l.length = L0) (hm : m.length = M0) (gl : Byt l) (gm : Byt m) (hL : L0 ≤ 100) (hM : M0 ≤ 100) (A0 A1 : Option Addr) (c0 c1 n : Nat) (hn : n % 2 = 1) (w : World) (hA0 : At w A0 l) (hA1 : At w A1 m) (hG : EtOk w) (hT : TabOk w) :
    Calls Tryz.prog 5 #[.slice A0 L0 c0, .agg h.cells, .slice A1 M0 c1, .int .u8 n] w fun e w' => e = .returned (.bool true) ∧ Below w.heap.size w w' := by
  have hin := lenIn_d24 h hr hv l m gl gm
  have hnn : (n : Int) % 2 = 1 := by omega
  obtain ⟨-, -, -, -, hu2, hs2⟩ := right_ok hr
  have HAW := Lib.hid (fun W (hb : Below w.heap.size w W) => awake11_any W (hG.below hb (Nat.le_refl _)) (fun W' hb' => (hT.below hb).below hb'))
  have HWG := Lib.hid (fun W => refWrong_any h (by omega) (by omega) W)
  rw [show erAt (rightEr h) = -1 by rw [hr]; rfl] at HWG
  have hws := fun A0 A1 A2 c0 c1 c2 W h0 h1 h2 hTW => wrap_ok h hin.hr (someN l 16) 16 hin.hk (someN_len _ _) (someN m 24) (someN [] 6) 24 6 (someN_len _ _) (someN_len _ _) hin.gk hin.gf (by have := hin.hfits; rwa [someN_len] at this) (by have := hin.hfill; rwa [someN_len, someN_len] at this) (by omega) A0 A1 A2 c0 c1 c2 W h0 h1 h2 hTW
  have HWR := Lib.hid hws; clear hws
  have HFL := Lib.hid (fun W => fill_any h 24 (by omega) W)
  rw [show fillW h.ver.toNat 24 = 6 by rw [hv]; decide] at HFL
  have HPR := Lib.hid (fun W => refPrint_ok h hr 96 (by omega) (by omega) W)
  have hsz : (str (wrapS h (someN l 16) (someN m 24) (someN [] 6))).size = 96 := by
    rw [str_size, hin.len.1, hin.facts.2.1, someN_len, someN_len, hv]
    rfl
  have hsh := wrap_head hin
  rw [hin.facts.2.1, someN_len, someN_len, hv, show lenW (kindV 66) (2 + 24 + 6) = 96 from rfl] at hsh
  have HW16 := Lib.hid (fun A c W hA => some_any l L0 hl (by omega) gl 16 (by omega) A c W hA)
  have HMK := Lib.hid (fun A c W hA => some_any m M0 hm (by omega) gm 24 (by omega) A c W hA)
  have HNF := Lib.hid (fun W => some_any [] 0 rfl (by omega) (fun c hc => by cases hc) 6 (by omega) none 0 W (fun h => absurd rfl h))
  have HLW := Lib.hid (someN_len l 16)
  have HLK := Lib.hid (someN_len m 24)
  have HLF := Lib.hid (someN_len [] 6)
  have hcs6 : h.cells.size = 6 := rfl
  have hco : h.cells.all (·.oneCell') = true := by simp [Hd.cells, Value.oneCell']
  have hc0 : h.cells[0]? = some (.int .u8 66) := by
    have : h.cells[0]? = some (.int .u8 (h.ver.toNat : Int)) := rfl
    rw [this, hv]; rfl
  clear hin
  generalize str (wrapS h (someN l 16) (someN m 24) (someN [] 6)) = S at *
  generalize str (printL h 96) = PL at *
  generalize someN l 16 = WN at *
  generalize someN m 24 = KN at *
  generalize someN [] 6 = FN at *
  have hb0 : Below w.heap.size w (w.alloc (.cells h.cells 24)) := (Below.refl _ _).alloc (Nat.le_refl _) _
  have hB0 := Blk.new w 24 h.cells
  generalize h.cells = cs at *
  have HS6 := Lib.hid hcs6; clear hcs6
  have HCO := Lib.hid hco; clear hco
  have HA0 := Lib.hid hA0; clear hA0
  have HA1 := Lib.hid hA1; clear hA1
  have HC0 := Lib.hid hc0; clear hc0
  have hL1 : ¬ 100 < (L0 : Int) := by omega
  have hM1 : ¬ 100 < (M0 : Int) := by omega
  have HT := Lib.hid hT; clear hT
  have hszI : ((S.size : Int) == 96) = true := by rw [beq_iff_eq]; omega
  have hsT : ((S.extract 0 16).toList == PL.toList) = true := by rw [hsh]; exact beq_self_eq_true _
  have hS16 : 16 ≤ S.size := by omega
  have hs16I : (16 : Int) ≤ (S.size : Int) := by omega
  have HB0 := Lib.hid hB0; clear hB0
  have H0 := Lib.hid hb0; clear hb0
  clear hl hm gl gm hL hM hsz hsh hr hv hu2 hs2 hn hG
  go_enter Tryz.func5, Tryz.ntmps5
  go_wp2_with fail
  refine (HAW.out _ H0.out).mono ?_
  rintro e w1 ⟨rfl, hb1⟩
  have hH1 := HB0.out.below hb1 HB0.out.lt
  have hb1 := H0.out.trans (hb1.mono H0.out.size)
  clear HB0 H0
  go_wp2_with (first
    | (refine wpList_load_rowG (by go_simp) 24 (.tmp 5) rfl w.heap.size rfl 24 cs hH1 _ Tryz.underlying24 rfl (by rw [info_head, HS6.out]) ?_))
  refine (HWG.out _).mono ?_
  rintro e w2 ⟨rfl, hb2⟩
  have hH2 := hH1.below hb2 hH1.lt
  have hbel2 := hb1.trans (hb2.mono hb1.size)
  clear hb1 hb2 hH1
  have hbn : Below w2.heap.size w2 (w2.alloc (.cells #[.int .i64 16, .int .i64 24] 3)) := (Below.refl _ _).alloc (Nat.le_refl _) _
  go_wp2_with fail
  refine (HMK.out _ _ _ ((HA1.out.below hbel2 (Nat.le_refl _)).below hbn (Nat.le_refl _))).mono ?_
  rintro e w3 ⟨⟨v, rfl, hv⟩, hb3⟩
  have hb23 := hbn.trans (hb3.mono hbn.size)
  have hbel3 := hbel2.trans (hb23.mono hbel2.size)
  have hH3 := hH2.below hb23 hH2.lt
  obtain ⟨gk, ck, rfl, hAk, -, -⟩ := hv.at_ HLK.out (by omega)
  clear hv hb3 hb23 hH2 hbn hbel2
  go_wp2_with (first
    | (refine wpList_load_rowG rfl 24 (.tmp 5) rfl w.heap.size rfl 24 cs hH3 _ Tryz.underlying24 rfl (by rw [info_head, HS6.out]) ?_))
  refine (HFL.out _).mono ?_
  rintro e w4 ⟨rfl, hb4⟩
  have hH4 := hH3.below hb4 hH3.lt
  have hAk4 := hAk.below hb4 (Nat.le_refl _)
  have hbel4 := hbel3.trans (hb4.mono hbel3.size)
  have hcv : w4.cell? ⟨w.heap.size, 0, none⟩ = some (.int .u8 66) := (hH4.cell 0).trans HC0.out
  clear hb4 hH3 hAk hbel3
  go_wp2_with fail
  refine wp_region_tree (.q 0 (.q 2 (.q 3 (.q 4 (.e [1] fun _ => .e [5] fun _ => .e [6] fun _ => .q 7 (.q 8 (.q 9 (.q 10 (.q 11 (.done)))))))))) (fun W => Blk W w.heap.size 24 cs ∧ At W (some ⟨gk, 0, none⟩) KN) rfl (by kernel_rfl) (fun _ _ d _ _ h => by cases d <;> exact h) ?_
  have hS : Blk w4.drew w.heap.size 24 cs ∧ At w4.drew (some ⟨gk, 0, none⟩) KN := ⟨hH4, hAk4⟩
  have hbd : Below w.heap.size w w4.drew := below_drewN hbel4 1
  change wpT _ _ _ _ _ _ w4.drew
  clear hH4 hAk4 hbel4 hcv
  generalize w4.drew = w5 at *
  refine t_q rfl rfl hS _ (fun W hW => by (go_simp; rfl)) ?_
  go_simp
  refine t_load_row rfl rfl 24 (.tmp 5) rfl w.heap.size rfl 24 cs hS (fun W hW => hW.1) _ Tryz.underlying24 rfl (by rw [info_head, HS6.out]) ?_
  go_simp
  iterate 2 (refine t_q rfl rfl hS _ (fun W hW => by (go_simp; rfl)) ?_; go_simp)
  refine t_e rfl rfl fun K hK => ?_
  go_simp
  refine (HW16.out _ _ _ (HA0.out.below hbd (Nat.le_refl _))).mono ?_
  rintro e w6 ⟨⟨v, rfl, hv⟩, hb6⟩
  obtain ⟨g6, c6, rfl, hA6, -, -⟩ := hv.at_ HLW.out (by omega)
  have hS6 : Blk w6 w.heap.size 24 cs ∧ At w6 (some ⟨gk, 0, none⟩) KN := ⟨hS.1.below hb6 hS.1.lt, hS.2.below hb6 (Nat.le_refl _)⟩
  have hbd6 : Below w.heap.size w w6 := hbd.trans (hb6.mono hbd.size)
  refine hK _ _ hS6 ?_
  clear hK K hb6 hS hbd hv
  refine t_e rfl rfl fun K hK => ?_
  go_simp
  refine (HNF.out _).mono ?_
  rintro e w7 ⟨⟨v, rfl, hv⟩, hb7⟩
  obtain ⟨g7, c7, rfl, hA7, -, -⟩ := hv.at_ HLF.out (by omega)
  have hS7 : Blk w7 w.heap.size 24 cs ∧ At w7 (some ⟨gk, 0, none⟩) KN := ⟨hS6.1.below hb7 hS6.1.lt, hS6.2.below hb7 (Nat.le_refl _)⟩
  have hA67 := hA6.below hb7 (Nat.le_refl _)
  have hbd7 : Below w.heap.size w w7 := hbd6.trans (hb7.mono hbd6.size)
  refine hK _ _ hS7 ?_
  clear hK K hb7 hS6 hbd6 hv hA6
  refine t_e rfl rfl fun K hK => ?_
  go_simp
  refine (HWR.out _ _ _ _ _ _ w7 hA67 hS7.2 hA7 (fun W hW => HT.out.below (hbd7.trans (hW.mono hbd7.size)))).mono ?_
  rintro e w8 ⟨rfl, hb8⟩
  have hS8 : Blk w8 w.heap.size 24 cs ∧ At w8 (some ⟨gk, 0, none⟩) KN := ⟨hS7.1.below hb8 hS7.1.lt, hS7.2.below hb8 (Nat.le_refl _)⟩
  have hbd8 : Below w.heap.size w w8 := hbd7.trans (hb8.mono hbd7.size)
  refine hK _ _ hS8 ?_
  clear hK K hb8 hS7 hbd7 hA67 hA7
  go_simp
  iterate 5 (refine t_q rfl rfl hS8 _ (fun W hW => by (go_simp; rfl)) ?_; go_simp)
  refine t_done ?_
  go_wp2_with fail
  refine wp_region_tree (.q 0 (.q 1 (.q 2 (.q 3 (.q 4 (.q 5 (.q 6 (.q 7 (.q 8 (.e [9] fun _ => .q 10 (.q 11 (.q 12 (.done))))))))))))) (fun W => Blk W w.heap.size 24 cs) rfl (by kernel_rfl) (fun _ _ d _ _ h => by cases d <;> exact h) ?_
  have hB9 : Blk w8.drew w.heap.size 24 cs := hS8.1
  have hbd9 : Below w.heap.size w w8.drew := below_drewN hbd8 1
  change wpT _ _ _ _ _ _ w8.drew
  clear hS8 hbd8
  generalize w8.drew = w9 at *
  iterate 6 (refine t_q rfl rfl hB9 _ (fun W hW => by (go_simp; rfl)) ?_; go_simp)
  refine t_q rfl rfl hB9 (.string (S.extract 0 16)) (fun W hW => by go_simp) ?_
  go_simp
  refine t_load_row rfl rfl 24 (.tmp 5) rfl w.heap.size rfl 24 cs hB9 (fun W hW => hW) _ Tryz.underlying24 rfl (by rw [info_head, HS6.out]) ?_
  go_simp
  refine t_q rfl rfl hB9 _ (fun W hW => by (go_simp; rfl)) ?_
  go_simp
  refine t_e rfl rfl fun K hK => ?_
  go_simp
  refine (HPR.out _).mono ?_
  rintro e wA ⟨rfl, hbA⟩
  have hBA := hB9.below hbA hB9.lt
  have hbdA : Below w.heap.size w wA := hbd9.trans (hbA.mono hbd9.size)
  refine hK _ _ hBA ?_
  clear hK K hbA hB9 hbd9
  go_simp
  iterate 3 (refine t_q rfl rfl hBA _ (fun W hW => by (go_simp; rfl)) ?_; go_simp)
  refine t_done ?_
  go_wp2
  go_ret
  exact ⟨rfl, hbdA⟩

theorem lenIn_a16 (h : Hd) (hr : rightEr h = .ok) (hv : h.ver.toNat = 68) (l m : List Nat) (gl : Byt l) (gm : Byt m) : WrapIn h (someN l 16) (someN m 16) (someN [] 14) where
  hr := hr
  hk := by rw [hv]; exact ⟨someN_byt gl 16, .inr ⟨rfl, .inl (someN_len _ _)⟩⟩
  gk := someN_byt gm 16
  gf := someN_byt (fun c hc => by cases hc) 14
  hfits := by rw [someN_len]; rfl
  hfill := by rw [someN_len, someN_len, hv]; decide
  hf0 := by rw [someN_len]; decide

set_option maxHeartbeats 4000000 in
set_option maxRecDepth 100000 in
theorem len11_a16 (h : Hd) (hr : rightEr h = .ok) (hv : h.ver.toNat = 68) (l m : List Nat) (L0 M0 : Nat) (hl : l.length = L0) (hm : m.length = M0) (gl : Byt l) (gm : Byt m) (hL : L0 ≤ 100) (hM : M0 ≤ 100) (A0 A1 : Option Addr) (c0 c1 n : Nat) (hn : n % 2 = 0) (w : World) (hA0 : At w A0 l) (hA1 : At w A1 m) (hG : EtOk w) (hT : TabOk w) :
    Calls Tryz.prog 5 #[.slice A0 L0 c0, .agg h.cells, .slice A1 M0 c1, .int .u8 n] w fun e w' => e = .returned (.bool true) ∧ Below w.heap.size w w' := by
  have hin := lenIn_a16 h hr hv l m gl gm
  have hnn : (n : Int) % 2 = 0 := by omega
  obtain ⟨-, -, -, -, hu2, hs2⟩ := right_ok hr
  have HAW := Lib.hid (fun W (hb : Below w.heap.size w W) => awake11_any W (hG.below hb (Nat.le_refl _)) (fun W' hb' => (hT.below hb).below hb'))
  have HWG := Lib.hid (fun W => refWrong_any h (by omega) (by omega) W)
  rw [show erAt (rightEr h) = -1 by rw [hr]; rfl] at HWG
  have hws := fun A0 A1 A2 c0 c1 c2 W h0 h1 h2 hTW => wrap_ok h hin.hr (someN l 16) 16 hin.hk (someN_len _ _) (someN m 16) (someN [] 14) 16 14 (someN_len _ _) (someN_len _ _) hin.gk hin.gf (by have := hin.hfits; rwa [someN_len] at this) (by have := hin.hfill; rwa [someN_len, someN_len] at this) (by omega) A0 A1 A2 c0 c1 c2 W h0 h1 h2 hTW
  have HWR := Lib.hid hws; clear hws
  have HFL := Lib.hid (fun W => fill_any h 16 (by omega) W)
  rw [show fillW h.ver.toNat 16 = 14 by rw [hv]; decide] at HFL
  have HPR := Lib.hid (fun W => refPrint_ok h hr 112 (by omega) (by omega) W)
  have hsz : (str (wrapS h (someN l 16) (someN m 16) (someN [] 14))).size = 112 := by
    rw [str_size, hin.len.1, hin.facts.2.1, someN_len, someN_len, hv]
    rfl
  have hsh := wrap_head hin
  rw [hin.facts.2.1, someN_len, someN_len, hv, show lenW (kindV 68) (2 + 16 + 14) = 112 from rfl] at hsh
  have HW16 := Lib.hid (fun A c W hA => some_any l L0 hl (by omega) gl 16 (by omega) A c W hA)
  have HMK := Lib.hid (fun A c W hA => some_any m M0 hm (by omega) gm 16 (by omega) A c W hA)
  have HNF := Lib.hid (fun W => some_any [] 0 rfl (by omega) (fun c hc => by cases hc) 14 (by omega) none 0 W (fun h => absurd rfl h))
  have HLW := Lib.hid (someN_len l 16)
  have HLK := Lib.hid (someN_len m 16)
  have HLF := Lib.hid (someN_len [] 14)
  have hcs6 : h.cells.size = 6 := rfl
  have hco : h.cells.all (·.oneCell') = true := by simp [Hd.cells, Value.oneCell']
  have hc0 : h.cells[0]? = some (.int .u8 68) := by
    have : h.cells[0]? = some (.int .u8 (h.ver.toNat : Int)) := rfl
    rw [this, hv]; rfl
  clear hin
  generalize str (wrapS h (someN l 16) (someN m 16) (someN [] 14)) = S at *
  generalize str (printL h 112) = PL at *
  generalize someN l 16 = WN at *
  generalize someN m 16 = KN at *
  generalize someN [] 14 = FN at *
  have hb0 : Below w.heap.size w (w.alloc (.cells h.cells 24)) := (Below.refl _ _).alloc (Nat.le_refl _) _
  have hB0 := Blk.new w 24 h.cells
  generalize h.cells = cs at *
  have HS6 := Lib.hid hcs6; clear hcs6
  have HCO := Lib.hid hco; clear hco
  have HA0 := Lib.hid hA0; clear hA0
  have HA1 := Lib.hid hA1; clear hA1
  have HC0 := Lib.hid hc0; clear hc0
  have hL1 : ¬ 100 < (L0 : Int) := by omega
  have hM1 : ¬ 100 < (M0 : Int) := by omega
  have HT := Lib.hid hT; clear hT
  have hszI : ((S.size : Int) == 112) = true := by rw [beq_iff_eq]; omega
  have hsT : ((S.extract 0 16).toList == PL.toList) = true := by rw [hsh]; exact beq_self_eq_true _
  have hS16 : 16 ≤ S.size := by omega
  have hs16I : (16 : Int) ≤ (S.size : Int) := by omega
  have HB0 := Lib.hid hB0; clear hB0
  have H0 := Lib.hid hb0; clear hb0
  clear hl hm gl gm hL hM hsz hsh hr hv hu2 hs2 hn hG
  go_enter Tryz.func5, Tryz.ntmps5
  go_wp2_with fail
  refine (HAW.out _ H0.out).mono ?_
  rintro e w1 ⟨rfl, hb1⟩
  have hH1 := HB0.out.below hb1 HB0.out.lt
  have hb1 := H0.out.trans (hb1.mono H0.out.size)
  clear HB0 H0
  go_wp2_with (first
    | (refine wpList_load_rowG (by go_simp) 24 (.tmp 5) rfl w.heap.size rfl 24 cs hH1 _ Tryz.underlying24 rfl (by rw [info_head, HS6.out]) ?_))
  refine (HWG.out _).mono ?_
  rintro e w2 ⟨rfl, hb2⟩
  have hH2 := hH1.below hb2 hH1.lt
  have hbel2 := hb1.trans (hb2.mono hb1.size)
  clear hb1 hb2 hH1
  have hbn : Below w2.heap.size w2 (w2.alloc (.cells #[.int .i64 16, .int .i64 24] 3)) := (Below.refl _ _).alloc (Nat.le_refl _) _
  go_wp2_with fail
  refine (HMK.out _ _ _ ((HA1.out.below hbel2 (Nat.le_refl _)).below hbn (Nat.le_refl _))).mono ?_
  rintro e w3 ⟨⟨v, rfl, hv⟩, hb3⟩
  have hb23 := hbn.trans (hb3.mono hbn.size)
  have hbel3 := hbel2.trans (hb23.mono hbel2.size)
  have hH3 := hH2.below hb23 hH2.lt
  obtain ⟨gk, ck, rfl, hAk, -, -⟩ := hv.at_ HLK.out (by omega)
  clear hv hb3 hb23 hH2 hbn hbel2
  go_wp2_with (first
    | (refine wpList_load_rowG rfl 24 (.tmp 5) rfl w.heap.size rfl 24 cs hH3 _ Tryz.underlying24 rfl (by rw [info_head, HS6.out]) ?_))
  refine (HFL.out _).mono ?_
  rintro e w4 ⟨rfl, hb4⟩
  have hH4 := hH3.below hb4 hH3.lt
  have hAk4 := hAk.below hb4 (Nat.le_refl _)
  have hbel4 := hbel3.trans (hb4.mono hbel3.size)
  have hcv : w4.cell? ⟨w.heap.size, 0, none⟩ = some (.int .u8 68) := (hH4.cell 0).trans HC0.out
  clear hb4 hH3 hAk hbel3
  go_wp2_with fail
  refine wp_region_tree (.q 0 (.q 2 (.q 3 (.q 4 (.e [1] fun _ => .e [5] fun _ => .e [6] fun _ => .q 7 (.q 8 (.q 9 (.q 10 (.q 11 (.done)))))))))) (fun W => Blk W w.heap.size 24 cs ∧ At W (some ⟨gk, 0, none⟩) KN) rfl (by kernel_rfl) (fun _ _ d _ _ h => by cases d <;> exact h) ?_
  have hS : Blk w4.drew w.heap.size 24 cs ∧ At w4.drew (some ⟨gk, 0, none⟩) KN := ⟨hH4, hAk4⟩
  have hbd : Below w.heap.size w w4.drew := below_drewN hbel4 1
  change wpT _ _ _ _ _ _ w4.drew
  clear hH4 hAk4 hbel4 hcv
  generalize w4.drew = w5 at *
  refine t_q rfl rfl hS _ (fun W hW => by (go_simp; rfl)) ?_
  go_simp
  refine t_load_row rfl rfl 24 (.tmp 5) rfl w.heap.size rfl 24 cs hS (fun W hW => hW.1) _ Tryz.underlying24 rfl (by rw [info_head, HS6.out]) ?_
  go_simp
  iterate 2 (refine t_q rfl rfl hS _ (fun W hW => by (go_simp; rfl)) ?_; go_simp)
  refine t_e rfl rfl fun K hK => ?_
  go_simp
  refine (HW16.out _ _ _ (HA0.out.below hbd (Nat.le_refl _))).mono ?_
  rintro e w6 ⟨⟨v, rfl, hv⟩, hb6⟩
  obtain ⟨g6, c6, rfl, hA6, -, -⟩ := hv.at_ HLW.out (by omega)
  have hS6 : Blk w6 w.heap.size 24 cs ∧ At w6 (some ⟨gk, 0, none⟩) KN := ⟨hS.1.below hb6 hS.1.lt, hS.2.below hb6 (Nat.le_refl _)⟩
  have hbd6 : Below w.heap.size w w6 := hbd.trans (hb6.mono hbd.size)
  refine hK _ _ hS6 ?_
  clear hK K hb6 hS hbd hv
  refine t_e rfl rfl fun K hK => ?_
  go_simp
  refine (HNF.out _).mono ?_
  rintro e w7 ⟨⟨v, rfl, hv⟩, hb7⟩
  obtain ⟨g7, c7, rfl, hA7, -, -⟩ := hv.at_ HLF.out (by omega)
  have hS7 : Blk w7 w.heap.size 24 cs ∧ At w7 (some ⟨gk, 0, none⟩) KN := ⟨hS6.1.below hb7 hS6.1.lt, hS6.2.below hb7 (Nat.le_refl _)⟩
  have hA67 := hA6.below hb7 (Nat.le_refl _)
  have hbd7 : Below w.heap.size w w7 := hbd6.trans (hb7.mono hbd6.size)
  refine hK _ _ hS7 ?_
  clear hK K hb7 hS6 hbd6 hv hA6
  refine t_e rfl rfl fun K hK => ?_
  go_simp
  refine (HWR.out _ _ _ _ _ _ w7 hA67 hS7.2 hA7 (fun W hW => HT.out.below (hbd7.trans (hW.mono hbd7.size)))).mono ?_
  rintro e w8 ⟨rfl, hb8⟩
  have hS8 : Blk w8 w.heap.size 24 cs ∧ At w8 (some ⟨gk, 0, none⟩) KN := ⟨hS7.1.below hb8 hS7.1.lt, hS7.2.below hb8 (Nat.le_refl _)⟩
  have hbd8 : Below w.heap.size w w8 := hbd7.trans (hb8.mono hbd7.size)
  refine hK _ _ hS8 ?_
  clear hK K hb8 hS7 hbd7 hA67 hA7
  go_simp
  iterate 5 (refine t_q rfl rfl hS8 _ (fun W hW => by (go_simp; rfl)) ?_; go_simp)
  refine t_done ?_
  go_wp2_with fail
  refine wp_region_tree (.q 0 (.q 1 (.q 2 (.q 3 (.q 4 (.q 5 (.q 6 (.q 7 (.q 8 (.e [9] fun _ => .q 10 (.q 11 (.q 12 (.done))))))))))))) (fun W => Blk W w.heap.size 24 cs) rfl (by kernel_rfl) (fun _ _ d _ _ h => by cases d <;> exact h) ?_
  have hB9 : Blk w8.drew w.heap.size 24 cs := hS8.1
  have hbd9 : Below w.heap.size w w8.drew := below_drewN hbd8 1
  change wpT _ _ _ _ _ _ w8.drew
  clear hS8 hbd8
  generalize w8.drew = w9 at *
  iterate 6 (refine t_q rfl rfl hB9 _ (fun W hW => by (go_simp; rfl)) ?_; go_simp)
  refine t_q rfl rfl hB9 (.string (S.extract 0 16)) (fun W hW => by go_simp) ?_
  go_simp
  refine t_load_row rfl rfl 24 (.tmp 5) rfl w.heap.size rfl 24 cs hB9 (fun W hW => hW) _ Tryz.underlying24 rfl (by rw [info_head, HS6.out]) ?_
  go_simp
  refine t_q rfl rfl hB9 _ (fun W hW => by (go_simp; rfl)) ?_
  go_simp
  refine t_e rfl rfl fun K hK => ?_
  go_simp
  refine (HPR.out _).mono ?_
  rintro e wA ⟨rfl, hbA⟩
  have hBA := hB9.below hbA hB9.lt
  have hbdA : Below w.heap.size w wA := hbd9.trans (hbA.mono hbd9.size)
  refine hK _ _ hBA ?_
  clear hK K hbA hB9 hbd9
  go_simp
  iterate 3 (refine t_q rfl rfl hBA _ (fun W hW => by (go_simp; rfl)) ?_; go_simp)
  refine t_done ?_
  go_wp2
  go_ret
  exact ⟨rfl, hbdA⟩

theorem lenIn_a24 (h : Hd) (hr : rightEr h = .ok) (hv : h.ver.toNat = 68) (l m : List Nat) (gl : Byt l) (gm : Byt m) : WrapIn h (someN l 16) (someN m 24) (someN [] 6) where
  hr := hr
  hk := by rw [hv]; exact ⟨someN_byt gl 16, .inr ⟨rfl, .inl (someN_len _ _)⟩⟩
  gk := someN_byt gm 24
  gf := someN_byt (fun c hc => by cases hc) 6
  hfits := by rw [someN_len]; rfl
  hfill := by rw [someN_len, someN_len, hv]; decide
  hf0 := by rw [someN_len]; decide

set_option maxHeartbeats 4000000 in
set_option maxRecDepth 100000 in
theorem len11_a24 (h : Hd) (hr : rightEr h = .ok) (hv : h.ver.toNat = 68) (l m : List Nat) (L0 M0 : Nat) (hl : l.length = L0) (hm : m.length = M0) (gl : Byt l) (gm : Byt m) (hL : L0 ≤ 100) (hM : M0 ≤ 100) (A0 A1 : Option Addr) (c0 c1 n : Nat) (hn : n % 2 = 1) (w : World) (hA0 : At w A0 l) (hA1 : At w A1 m) (hG : EtOk w) (hT : TabOk w) :
    Calls Tryz.prog 5 #[.slice A0 L0 c0, .agg h.cells, .slice A1 M0 c1, .int .u8 n] w fun e w' => e = .returned (.bool true) ∧ Below w.heap.size w w' := by
  have hin := lenIn_a24 h hr hv l m gl gm
  have hnn : (n : Int) % 2 = 1 := by omega
  obtain ⟨-, -, -, -, hu2, hs2⟩ := right_ok hr
  have HAW := Lib.hid (fun W (hb : Below w.heap.size w W) => awake11_any W (hG.below hb (Nat.le_refl _)) (fun W' hb' => (hT.below hb).below hb'))
  have HWG := Lib.hid (fun W => refWrong_any h (by omega) (by omega) W)
  rw [show erAt (rightEr h) = -1 by rw [hr]; rfl] at HWG
  have hws := fun A0 A1 A2 c0 c1 c2 W h0 h1 h2 hTW => wrap_ok h hin.hr (someN l 16) 16 hin.hk (someN_len _ _) (someN m 24) (someN [] 6) 24 6 (someN_len _ _) (someN_len _ _) hin.gk hin.gf (by have := hin.hfits; rwa [someN_len] at this) (by have := hin.hfill; rwa [someN_len, someN_len] at this) (by omega) A0 A1 A2 c0 c1 c2 W h0 h1 h2 hTW
  have HWR := Lib.hid hws; clear hws
  have HFL := Lib.hid (fun W => fill_any h 24 (by omega) W)
  rw [show fillW h.ver.toNat 24 = 6 by rw [hv]; decide] at HFL
  have HPR := Lib.hid (fun W => refPrint_ok h hr 112 (by omega) (by omega) W)
  have hsz : (str (wrapS h (someN l 16) (someN m 24) (someN [] 6))).size = 112 := by
    rw [str_size, hin.len.1, hin.facts.2.1, someN_len, someN_len, hv]
    rfl
  have hsh := wrap_head hin
  rw [hin.facts.2.1, someN_len, someN_len, hv, show lenW (kindV 68) (2 + 24 + 6) = 112 from rfl] at hsh
  have HW16 := Lib.hid (fun A c W hA => some_any l L0 hl (by omega) gl 16 (by omega) A c W hA)
  have HMK := Lib.hid (fun A c W hA => some_any m M0 hm (by omega) gm 24 (by omega) A c W hA)
  have HNF := Lib.hid (fun W => some_any [] 0 rfl (by omega) (fun c hc => by cases hc) 6 (by omega) none 0 W (fun h => absurd rfl h))
  have HLW := Lib.hid (someN_len l 16)
  have HLK := Lib.hid (someN_len m 24)
  have HLF := Lib.hid (someN_len [] 6)
  have hcs6 : h.cells.size = 6 := rfl
  have hco : h.cells.all (·.oneCell') = true := by simp [Hd.cells, Value.oneCell']
  have hc0 : h.cells[0]? = some (.int .u8 68) := by
    have : h.cells[0]? = some (.int .u8 (h.ver.toNat : Int)) := rfl
    rw [this, hv]; rfl
  clear hin
  generalize str (wrapS h (someN l 16) (someN m 24) (someN [] 6)) = S at *
  generalize str (printL h 112) = PL at *
  generalize someN l 16 = WN at *
  generalize someN m 24 = KN at *
  generalize someN [] 6 = FN at *
  have hb0 : Below w.heap.size w (w.alloc (.cells h.cells 24)) := (Below.refl _ _).alloc (Nat.le_refl _) _
  have hB0 := Blk.new w 24 h.cells
  generalize h.cells = cs at *
  have HS6 := Lib.hid hcs6; clear hcs6
  have HCO := Lib.hid hco; clear hco
  have HA0 := Lib.hid hA0; clear hA0
  have HA1 := Lib.hid hA1; clear hA1
  have HC0 := Lib.hid hc0; clear hc0
  have hL1 : ¬ 100 < (L0 : Int) := by omega
  have hM1 : ¬ 100 < (M0 : Int) := by omega
  have HT := Lib.hid hT; clear hT
  have hszI : ((S.size : Int) == 112) = true := by rw [beq_iff_eq]; omega
  have hsT : ((S.extract 0 16).toList == PL.toList) = true := by rw [hsh]; exact beq_self_eq_true _
  have hS16 : 16 ≤ S.size := by omega
  have hs16I : (16 : Int) ≤ (S.size : Int) := by omega
  have HB0 := Lib.hid hB0; clear hB0
  have H0 := Lib.hid hb0; clear hb0
  clear hl hm gl gm hL hM hsz hsh hr hv hu2 hs2 hn hG
  go_enter Tryz.func5, Tryz.ntmps5
  go_wp2_with fail
  refine (HAW.out _ H0.out).mono ?_
  rintro e w1 ⟨rfl, hb1⟩
  have hH1 := HB0.out.below hb1 HB0.out.lt
  have hb1 := H0.out.trans (hb1.mono H0.out.size)
  clear HB0 H0
  go_wp2_with (first
    | (refine wpList_load_rowG (by go_simp) 24 (.tmp 5) rfl w.heap.size rfl 24 cs hH1 _ Tryz.underlying24 rfl (by rw [info_head, HS6.out]) ?_))
  refine (HWG.out _).mono ?_
  rintro e w2 ⟨rfl, hb2⟩
  have hH2 := hH1.below hb2 hH1.lt
  have hbel2 := hb1.trans (hb2.mono hb1.size)
  clear hb1 hb2 hH1
  have hbn : Below w2.heap.size w2 (w2.alloc (.cells #[.int .i64 16, .int .i64 24] 3)) := (Below.refl _ _).alloc (Nat.le_refl _) _
  go_wp2_with fail
  refine (HMK.out _ _ _ ((HA1.out.below hbel2 (Nat.le_refl _)).below hbn (Nat.le_refl _))).mono ?_
  rintro e w3 ⟨⟨v, rfl, hv⟩, hb3⟩
  have hb23 := hbn.trans (hb3.mono hbn.size)
  have hbel3 := hbel2.trans (hb23.mono hbel2.size)
  have hH3 := hH2.below hb23 hH2.lt
  obtain ⟨gk, ck, rfl, hAk, -, -⟩ := hv.at_ HLK.out (by omega)
  clear hv hb3 hb23 hH2 hbn hbel2
  go_wp2_with (first
    | (refine wpList_load_rowG rfl 24 (.tmp 5) rfl w.heap.size rfl 24 cs hH3 _ Tryz.underlying24 rfl (by rw [info_head, HS6.out]) ?_))
  refine (HFL.out _).mono ?_
  rintro e w4 ⟨rfl, hb4⟩
  have hH4 := hH3.below hb4 hH3.lt
  have hAk4 := hAk.below hb4 (Nat.le_refl _)
  have hbel4 := hbel3.trans (hb4.mono hbel3.size)
  have hcv : w4.cell? ⟨w.heap.size, 0, none⟩ = some (.int .u8 68) := (hH4.cell 0).trans HC0.out
  clear hb4 hH3 hAk hbel3
  go_wp2_with fail
  refine wp_region_tree (.q 0 (.q 2 (.q 3 (.q 4 (.e [1] fun _ => .e [5] fun _ => .e [6] fun _ => .q 7 (.q 8 (.q 9 (.q 10 (.q 11 (.done)))))))))) (fun W => Blk W w.heap.size 24 cs ∧ At W (some ⟨gk, 0, none⟩) KN) rfl (by kernel_rfl) (fun _ _ d _ _ h => by cases d <;> exact h) ?_
  have hS : Blk w4.drew w.heap.size 24 cs ∧ At w4.drew (some ⟨gk, 0, none⟩) KN := ⟨hH4, hAk4⟩
  have hbd : Below w.heap.size w w4.drew := below_drewN hbel4 1
  change wpT _ _ _ _ _ _ w4.drew
  clear hH4 hAk4 hbel4 hcv
  generalize w4.drew = w5 at *
  refine t_q rfl rfl hS _ (fun W hW => by (go_simp; rfl)) ?_
  go_simp
  refine t_load_row rfl rfl 24 (.tmp 5) rfl w.heap.size rfl 24 cs hS (fun W hW => hW.1) _ Tryz.underlying24 rfl (by rw [info_head, HS6.out]) ?_
  go_simp
  iterate 2 (refine t_q rfl rfl hS _ (fun W hW => by (go_simp; rfl)) ?_; go_simp)
  refine t_e rfl rfl fun K hK => ?_
  go_simp
  refine (HW16.out _ _ _ (HA0.out.below hbd (Nat.le_refl _))).mono ?_
  rintro e w6 ⟨⟨v, rfl, hv⟩, hb6⟩
  obtain ⟨g6, c6, rfl, hA6, -, -⟩ := hv.at_ HLW.out (by omega)
  have hS6 : Blk w6 w.heap.size 24 cs ∧ At w6 (some ⟨gk, 0, none⟩) KN := ⟨hS.1.below hb6 hS.1.lt, hS.2.below hb6 (Nat.le_refl _)⟩
  have hbd6 : Below w.heap.size w w6 := hbd.trans (hb6.mono hbd.size)
  refine hK _ _ hS6 ?_
  clear hK K hb6 hS hbd hv
  refine t_e rfl rfl fun K hK => ?_
  go_simp
  refine (HNF.out _).mono ?_
  rintro e w7 ⟨⟨v, rfl, hv⟩, hb7⟩
  obtain ⟨g7, c7, rfl, hA7, -, -⟩ := hv.at_ HLF.out (by omega)
  have hS7 : Blk w7 w.heap.size 24 cs ∧ At w7 (some ⟨gk, 0, none⟩) KN := ⟨hS6.1.below hb7 hS6.1.lt, hS6.2.below hb7 (Nat.le_refl _)⟩
  have hA67 := hA6.below hb7 (Nat.le_refl _)
  have hbd7 : Below w.heap.size w w7 := hbd6.trans (hb7.mono hbd6.size)
  refine hK _ _ hS7 ?_
  clear hK K hb7 hS6 hbd6 hv hA6
  refine t_e rfl rfl fun K hK => ?_
  go_simp
  refine (HWR.out _ _ _ _ _ _ w7 hA67 hS7.2 hA7 (fun W hW => HT.out.below (hbd7.trans (hW.mono hbd7.size)))).mono ?_
  rintro e w8 ⟨rfl, hb8⟩
  have hS8 : Blk w8 w.heap.size 24 cs ∧ At w8 (some ⟨gk, 0, none⟩) KN := ⟨hS7.1.below hb8 hS7.1.lt, hS7.2.below hb8 (Nat.le_refl _)⟩
  have hbd8 : Below w.heap.size w w8 := hbd7.trans (hb8.mono hbd7.size)
  refine hK _ _ hS8 ?_
  clear hK K hb8 hS7 hbd7 hA67 hA7
  go_simp
  iterate 5 (refine t_q rfl rfl hS8 _ (fun W hW => by (go_simp; rfl)) ?_; go_simp)
  refine t_done ?_
  go_wp2_with fail
  refine wp_region_tree (.q 0 (.q 1 (.q 2 (.q 3 (.q 4 (.q 5 (.q 6 (.q 7 (.q 8 (.e [9] fun _ => .q 10 (.q 11 (.q 12 (.done))))))))))))) (fun W => Blk W w.heap.size 24 cs) rfl (by kernel_rfl) (fun _ _ d _ _ h => by cases d <;> exact h) ?_
  have hB9 : Blk w8.drew w.heap.size 24 cs := hS8.1
  have hbd9 : Below w.heap.size w w8.drew := below_drewN hbd8 1
  change wpT _ _ _ _ _ _ w8.drew
  clear hS8 hbd8
  generalize w8.drew = w9 at *
  iterate 6 (refine t_q rfl rfl hB9 _ (fun W hW => by (go_simp; rfl)) ?_; go_simp)
  refine t_q rfl rfl hB9 (.string (S.extract 0 16)) (fun W hW => by go_simp) ?_
  go_simp
  refine t_load_row rfl rfl 24 (.tmp 5) rfl w.heap.size rfl 24 cs hB9 (fun W hW => hW) _ Tryz.underlying24 rfl (by rw [info_head, HS6.out]) ?_
  go_simp
  refine t_q rfl rfl hB9 _ (fun W hW => by (go_simp; rfl)) ?_
  go_simp
  refine t_e rfl rfl fun K hK => ?_
  go_simp
  refine (HPR.out _).mono ?_
  rintro e wA ⟨rfl, hbA⟩
  have hBA := hB9.below hbA hB9.lt
  have hbdA : Below w.heap.size w wA := hbd9.trans (hbA.mono hbd9.size)
  refine hK _ _ hBA ?_
  clear hK K hbA hB9 hbd9
  go_simp
  iterate 3 (refine t_q rfl rfl hBA _ (fun W hW => by (go_simp; rfl)) ?_; go_simp)
  refine t_done ?_
  go_wp2
  go_ret
  exact ⟨rfl, hbdA⟩

set_option maxHeartbeats 2000000 in
set_option maxRecDepth 100000 in
theorem lengths11 (w : World) (l : List Nat) (gl : ∀ x ∈ l, x < 256) (A0 : Option Addr) (c0 : Nat) (_hc0 : l.length ≤ c0) (_hl : l.length ≤ 140737488351232) (hA0 : At w A0 l) (h : Hd) (hu : h.usage.size ≤ 140737488351232) (hs : h.serial.size ≤ 140737488351232)
    (m : List Nat) (gm : ∀ x ∈ m, x < 256) (A1 : Option Addr) (c1 : Nat) (_hc1 : m.length ≤ c1) (_hm : m.length ≤ 140737488351232) (hA1 : At w A1 m) (n : Nat) (_hn : n < 256) (hG : EtOk w) (hT : TabOk w) :
    Calls Tryz.prog 5 #[.slice A0 l.length c0, .agg h.cells, .slice A1 m.length c1, .int .u8 n] w fun e w' => e = .returned (.bool true) ∧ Below w.heap.size w w' := by
  by_cases hall : l.length ≤ 100 ∧ m.length ≤ 100 ∧ rightEr h = .ok
  · obtain ⟨hl, hm, hr⟩ := hall
    rcases ver_of hr with hv | hv <;> rcases Nat.mod_two_eq_zero_or_one n with hj | hj
    · exact len11_d16 h hr hv l m _ _ rfl rfl gl gm hl hm A0 A1 c0 c1 n hj w hA0 hA1 hG hT
    · exact len11_d24 h hr hv l m _ _ rfl rfl gl gm hl hm A0 A1 c0 c1 n hj w hA0 hA1 hG hT
    · exact len11_a16 h hr hv l m _ _ rfl rfl gl gm hl hm A0 A1 c0 c1 n hj w hA0 hA1 hG hT
    · exact len11_a24 h hr hv l m _ _ rfl rfl gl gm hl hm A0 A1 c0 c1 n hj w hA0 hA1 hG hT
  · have HAW := Lib.hid (fun W (hb : Below w.heap.size w W) => awake11_any W (hG.below hb (Nat.le_refl _)) (fun W' hb' => (hT.below hb).below hb'))
    have HWG := Lib.hid (fun W => refWrong_any h hu hs W)
    have hcs6 : h.cells.size = 6 := rfl
    have hb0 : Below w.heap.size w (w.alloc (.cells h.cells 24)) := (Below.refl _ _).alloc (Nat.le_refl _) _
    have hB0 := Blk.new w 24 h.cells
    have t0 : 100 < l.length ∨ (l.length ≤ 100 ∧ 100 < m.length) ∨ (l.length ≤ 100 ∧ m.length ≤ 100 ∧ ∃ k : Nat, erAt (rightEr h) = (k : Int)) := by
      rcases Nat.lt_or_ge 100 l.length with h0 | h0
      · exact .inl h0
      · rcases Nat.lt_or_ge 100 m.length with h1 | h1
        · exact .inr (.inl ⟨h0, h1⟩)
        · refine .inr (.inr ⟨h0, h1, ?_⟩)
          rcases rightEr_cases h with hr | ⟨k, hr, -⟩
          · exact absurd ⟨h0, h1, hr⟩ hall
          · exact ⟨k, by rw [hr]; rfl⟩
    generalize h.cells = cs at *
    generalize l.length = L0 at *
    generalize m.length = M0 at *
    generalize erAt (rightEr h) = z at *
    have HS6 := Lib.hid hcs6; clear hcs6
    have HB0 := Lib.hid hB0; clear hB0
    have H0 := Lib.hid hb0; clear hb0
    clear hA0 hA1 hall _hl _hm _hc0 _hc1 hu hs hG hT gl gm
    rcases t0 with t0 | ⟨t0, t1⟩ | ⟨t0, t1, k, rfl⟩
    · have h0 : 100 < (L0 : Int) := by omega
      go_enter Tryz.func5, Tryz.ntmps5
      go_wp2_with fail
      refine (HAW.out _ H0.out).mono ?_
      rintro e w1 ⟨rfl, hb1⟩
      have hb1 := H0.out.trans (hb1.mono H0.out.size)
      go_wp2_with fail
      refine (HAW.out _ hb1).mono ?_
      rintro e w2 ⟨rfl, hb2⟩
      have hb := hb1.trans (hb2.mono hb1.size)
      go_wp2
      go_ret
      exact ⟨rfl, hb⟩
    · have h0 : (L0 : Int) ≤ 100 := by omega
      have h1 : 100 < (M0 : Int) := by omega
      go_enter Tryz.func5, Tryz.ntmps5
      go_wp2_with fail
      refine (HAW.out _ H0.out).mono ?_
      rintro e w1 ⟨rfl, hb1⟩
      have hb1 := H0.out.trans (hb1.mono H0.out.size)
      go_wp2_with fail
      refine (HAW.out _ hb1).mono ?_
      rintro e w2 ⟨rfl, hb2⟩
      have hb := hb1.trans (hb2.mono hb1.size)
      go_wp2
      go_ret
      exact ⟨rfl, hb⟩
    · have h0 : (L0 : Int) ≤ 100 := by omega
      have h1 : (M0 : Int) ≤ 100 := by omega
      have hk : (0 : Int) ≤ (k : Int) := by omega
      go_enter Tryz.func5, Tryz.ntmps5
      go_wp2_with fail
      refine (HAW.out _ H0.out).mono ?_
      rintro e w1 ⟨rfl, hb1⟩
      have hH1 := HB0.out.below hb1 HB0.out.lt
      have hb1 := H0.out.trans (hb1.mono H0.out.size)
      go_wp2_with (first
        | (refine wpList_load_rowG (by go_simp) 24 (.tmp 5) rfl w.heap.size rfl 24 cs hH1 _ Tryz.underlying24 rfl (by rw [info_head, HS6.out]) ?_))
      refine (HWG.out _).mono ?_
      rintro e w2 ⟨rfl, hb2⟩
      have hbel2 := hb1.trans (hb2.mono hb1.size)
      clear hb2 hH1
      go_wp2_with fail
      refine (HAW.out _ hbel2).mono ?_
      rintro e w3 ⟨rfl, hb3⟩
      have hb := hbel2.trans (hb3.mono hbel2.size)
      go_wp2
      go_ret
      exact ⟨rfl, hb⟩
end Go.Proofs.YtfkjkkjimdilcaaGreatDoor
