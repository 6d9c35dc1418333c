/- The contract of lockboxref05.Ask, of a book with one row. -/
import Derived.Test.YthodpjcdmdbnoaaGreatDoorNAskV
import Derived.Test.YthodpjcdmdbnoaaGreatDoorNAskR
namespace Go.Proofs.YthodpjcdmdbnoaaGreatDoor
open Go Go.RowKit Pr

section
variable {P : Program} {ops : Array Oper} {rest : List Oper} {o : Oper} {a : Act} {w : World} {Q : Exit → Act → World → Prop}
/-- x[16:], whatever is left -/
theorem wpList_slice_from (hw : Region.wanted o (yielded ops a.tmps) = true) (t : TypeId) (x : Operand) (ho : o.op = .slice t x (some (.const (.int .i64 16))) none none) (b k m c : Nat) (hx : a.eval x = .slice (some ⟨b, k, none⟩) m c)
    (ht : P.underlying t = some (.slice (P.elem t))) (hs : ∀ W, (sizeOf (P.elem t)).run P W = .ok 1 W) (h16 : 16 ≤ m) (h : ∀ A, (m - 16 ≠ 0 → c ≠ 16 → A = some ⟨b, k + 16, none⟩) → wpList P ops Q rest (a.put o.dst (.slice A (m - 16) (c - 16))) w) : wpList P ops Q (o :: rest) a w :=
 wpList_wanted hw fun _ hK => by
  have hrun : (execOp a.eval o).run P w = .ok (.value (.slice (if c = 16 then some ⟨b, k, none⟩ else some ⟨b, k + 16, none⟩) (m - 16) (c - 16))) w := by
   have e1 : (Instr.sliceAt t (.slice (some ⟨b, k, none⟩) m c) (some (.int .i64 16)) none none).run P w = .ok (.slice (if c = 16 then some ⟨b, k, none⟩ else some ⟨b, k + 16, none⟩) (m - 16) (c - 16)) w := by
    rw [run_sliceAt_slice _ _ _ _ _ _ ht, run_slice_l _ _ _ _ _ ht _ _ (by omega) (by omega), hs]
    simp [Result.andThen, sliced, Addr.add_mid]
   have e2 : (execOp a.eval o).run P w = ((Instr.sliceAt t (.slice (some ⟨b, k, none⟩) m c) (some (.int .i64 16)) none none).run P w).andThen fun v w' => .ok (.value v) w' := by
    unfold execOp
    simp only [ho, hx, Option.map_some, Option.map_none]
    rw [Sem.run_bind]
    rfl
   rw [e2, e1]
   rfl
  unfold Oper.wp
  rw [hrun]
  exact hK _ _ (h _ (fun _ hc => if_neg hc))
end

/-- a book's value: two slices -/
def BookV (v : Value) : Prop := ∃ r0 n0 c0 r1 n1 c1, v = .agg #[.slice r0 n0 c0, .slice r1 n1 c1]
theorem news3 {W : World} {g : Nat} {a b c : Value} (h : W.cell? ⟨g, 0, none⟩ = some a ∧ W.cell? ⟨g, 1, none⟩ = some b ∧ W.cell? ⟨g, 2, none⟩ = some c) (j : Nat) (u : Value) (hu : [a, b, c][j]? = some u) : W.cell? ((⟨g, 0, none⟩ : Addr).add j) = some u := by
 rw [Addr.add_mid, Nat.zero_add]
 match j, hu with
 | 0, hu => cases hu; exact h.1
 | 1, hu => cases hu; exact h.2.1
 | 2, hu => cases hu; exact h.2.2

set_option maxHeartbeats 8000000 in
set_option maxRecDepth 100000 in
theorem refAsk1_any (n : Nat) (T : List Nat) (m : Nat) (hTm : T.length = m) (hn : m ≤ n) (hm : n ≤ 100000) (bT : Byt T) (K I O X : List Nat) (kl : Nat) (hK : K.length = kl) (hk0 : 0 < kl) (hk9 : kl ≤ 1000) (hI : I.length = 16) (hO : O.length = 16) (hX : X.length = 16) (bK : Byt K) (bI : Byt I) (bO : Byt O) (bX : Byt X) (back : Bool)
    (AK AX AT : Option Addr) (gr cR cK cX cT : Nat) (hcT : m ≤ cT) (w : World) (hAK : At w AK K) (hAX : At w AX X) (hAT : At w AT T) (hR : RowR w (some ⟨gr, 0, none⟩) K I O) :
    Calls Tryz.prog 67 #[.agg #[.slice (some ⟨gr, 0, none⟩) 1 cR, .slice AT m cT], .slice AK kl cK, .slice AX 16 cX, .bool back] w fun e w' =>
     (match askN (if back then O else I) (if back then I else O) X n T with
     | some y => ∃ bv A c, e = .returned (.tuple #[bv, .slice A 16 c, .bool true]) ∧ BookV bv ∧ At w' A y
     | none => ∃ bv, e = .returned (.tuple #[bv, .slice none 0 0, .bool false]) ∧ BookV bv) ∧ Below w.heap.size w w' := by
 obtain ⟨g, AG, AI, AO, cG, cI, cO, e, r0, r1, r2, hAG, hAI, hAO⟩ := hR
 injection e with e
 injection e with e
 subst e
 rw [hK] at r0
 rw [hI] at r1
 rw [hO] at r2
 have hgl := block_lt_of_cell r0
 have HSK := Lib.hid (fun W h1 h2 => same_any K K AG AK cG cK bK bK (by omega) W h1 h2)
 have HSM := Lib.hid (fun l A c (hl : l.length = 16) (hb : Byt l) W h1 h2 => (by have := same_any l X A AX c cX hb bX (by omega) W h1 h2; rw [hl, hX] at this; exact this : Calls Tryz.prog 15 #[.slice A 16 c, .slice AX 16 cX] W fun e w' => e = .returned (.bool (decide (l = X))) ∧ ∃ n, w' = W.drewN n))
 have HSY := Lib.hid (fun l A c Y B d (hl : l.length = 16) (hb : Byt l) (hY : Y.length = 16) (bY : Byt Y) W h1 h2 => (by have := same_any l Y A B c d hb bY (by omega) W h1 h2; rw [hl, hY] at this; exact this : Calls Tryz.prog 15 #[.slice A 16 c, .slice B 16 d] W fun e w' => e = .returned (.bool (decide (l = Y))) ∧ ∃ n, w' = W.drewN n))
 rw [hK] at HSK
 have hdk : decide (K = K) = true := decide_eq_true rfl
 rw [hdk] at HSK
 obtain ⟨fr, hfr⟩ : ∃ l, (if back then O else I) = l := ⟨_, rfl⟩
 obtain ⟨tq, htq⟩ : ∃ l, (if back then I else O) = l := ⟨_, rfl⟩
 rw [hfr, htq]
 obtain ⟨b, hb⟩ : ∃ b, decide (fr = X) = b := ⟨_, rfl⟩
 obtain ⟨dr, hdr⟩ : ∃ r, drawN tq n T = r := ⟨_, rfl⟩
 have hans : askN fr tq X n T = bif b then some tq else dr.map (·.1) := by
  unfold askN
  rw [hdr, ← hb]
  by_cases h : fr = X
  ·
   rw [if_pos h, decide_eq_true h]; rfl
  ·
   rw [if_neg h, decide_eq_false h]; rfl
 rw [hans]
 have HDR := Lib.hid hdr
 clear hdr hans hdk
 have HAK := Lib.hid (fun W (h : Below w.heap.size w W) => hAK.below h (Nat.le_refl _))
 have HAX := Lib.hid (fun W (h : Below w.heap.size w W) => hAX.below h (Nat.le_refl _))
 have HAG := Lib.hid (fun W (h : Below w.heap.size w W) => hAG.below h (Nat.le_refl _))
 have HAI := Lib.hid (fun W (h : Below w.heap.size w W) => hAI.below h (Nat.le_refl _))
 have HAO := Lib.hid (fun W (h : Below w.heap.size w W) => hAO.below h (Nat.le_refl _))
 have HRC := Lib.hid (fun W (h : Below w.heap.size w W) => (⟨(h.cell (p := ⟨gr, 0, none⟩) hgl).trans r0, (h.cell (p := ⟨gr, 1, none⟩) hgl).trans r1, (h.cell (p := ⟨gr, 2, none⟩) hgl).trans r2⟩ : W.cell? ⟨gr, 0, none⟩ = some (.slice AG kl cG) ∧ W.cell? ⟨gr, 1, none⟩ = some (.slice AI 16 cI) ∧ W.cell? ⟨gr, 2, none⟩ = some (.slice AO 16 cO)))
 have HAT := Lib.hid hAT
 have HCT := Lib.hid hcT
 have HBT := Lib.hid bT
 have HTM := Lib.hid hTm
 have HN := Lib.hid hn
 clear hAK hAX hAG hAI hAO r0 r1 r2 hAT hcT bT hTm hn bK
 obtain ⟨wa, hwa⟩ : ∃ x, w.alloc (.cells #[.slice (some ⟨gr, 0, none⟩) 1 cR, .slice AT m cT] 45) = x := ⟨_, rfl⟩
 have zwa : wa.heap.size = w.heap.size + 1 := by rw [← hwa]; simp
 have bwa : Blk wa w.heap.size 45 #[.slice (some ⟨gr, 0, none⟩) 1 cR, .slice AT m cT] := by rw [← hwa]; exact Blk.new w _ _
 have kwa : Below w.heap.size w wa := by rw [← hwa]; exact (Below.refl _ _).alloc (Nat.le_refl _) _
 obtain ⟨wb, hwb⟩ : ∃ x, wa.alloc (.cells #[.slice none 0 0, .slice none 0 0] 45) = x := ⟨_, rfl⟩
 have zwb : wb.heap.size = w.heap.size + 1 + 1 := by rw [← hwb]; simp [zwa]
 have bwb : Blk wb (w.heap.size + 1) 45 #[.slice none 0 0, .slice none 0 0] := by have := Blk.new wa 45 #[.slice none 0 0, .slice none 0 0]; rw [hwb, zwa] at this; exact this
 have bwab : Blk wb w.heap.size 45 #[.slice (some ⟨gr, 0, none⟩) 1 cR, .slice AT m cT] := by rw [← hwb]; exact bwa.alloc _
 have kwb : Below w.heap.size w wb := by rw [← hwb]; exact kwa.alloc (by omega) _
 obtain ⟨wc, hwc⟩ : ∃ x, wb.alloc (.cells #[.slice none 0 0, .slice none 0 0, .slice none 0 0] 163) = x := ⟨_, rfl⟩
 have bwc : Blk wc (w.heap.size + 1 + 1) 163 #[.slice none 0 0, .slice none 0 0, .slice none 0 0] := by have := Blk.new wb 163 #[.slice none 0 0, .slice none 0 0, .slice none 0 0]; rw [hwc, zwb] at this; exact this
 have kwc : Below (w.heap.size + 1 + 1) wb wc := by rw [← hwc, ← zwb]; exact (Below.refl _ _).alloc (Nat.le_refl _) _
 obtain ⟨q0, q1, q2⟩ := HRC.out wb kwb
 have d0 := bwab.cell 0
 clear bwa
 cases back
 rotate_left
 focus
  obtain rfl : fr = O := hfr.symm
  obtain rfl : tq = I := htq.symm
 rotate_left
 focus
  obtain rfl : fr = I := hfr.symm
  obtain rfl : tq = O := htq.symm
 all_goals
  go_enter Tryz.func67, Tryz.ntmps67
  go_wp2
  refine wp_loop_rounds 2 ?_
  rw [rounds_succ]
  go_wp2_with (first
   | (refine wpList_store_all rfl 163 (.tmp 12) (.tmp 29) rfl (w.heap.size + 1 + 1) #[.slice AG kl cG, .slice AI 16 cI, .slice AO 16 cO] rfl rfl 163 #[.slice none 0 0, .slice none 0 0, .slice none 0 0] bwc (by rw [info_rowR]; rfl) rfl (by simp [Value.oneCell']) ?_; intro wd hBd hOd; have kwd := hOd.below kwc (Nat.le_refl _); have kww : Below w.heap.size w wd := kwb.trans (kwd.mono (by omega)); have e0 := hBd.cell 0; have e1 := hBd.cell 1; have e2 := hBd.cell 2))
  refine (HSK.out _ (HAG.out _ kww) (HAK.out _ kww)).mono ?_
  rintro e we ⟨rfl, k1, rfl⟩
  go_wp2_with fail
  refine (HSM.out fr _ _ (by assumption) (by assumption) _ (by first | exact HAI.out _ (below_drewN kww _) | exact HAO.out _ (below_drewN kww _)) (HAX.out _ (below_drewN kww _))).mono ?_
  rintro e we ⟨rfl, k2, rfl⟩
  rw [hb]
  have fB0 := bwab.below kwd (by omega)
  have fO0 := bwb.below kwd (by omega)
  have fA : Below w.heap.size w ((wd.drewN k1).drewN k2) := below_drewN (below_drewN kww _) _
  have fR : Blk ((wd.drewN k1).drewN k2) (w.heap.size + 1 + 1) 163 #[.slice AG kl cG, .slice AI 16 cI, .slice AO 16 cO] := hBd
  have fB : Blk ((wd.drewN k1).drewN k2) w.heap.size 45 #[.slice (some ⟨gr, 0, none⟩) 1 cR, .slice AT m cT] := fB0
  have fO : Blk ((wd.drewN k1).drewN k2) (w.heap.size + 1) 45 #[.slice none 0 0, .slice none 0 0] := fO0
  clear fB0 fO0
  generalize (wd.drewN k1).drewN k2 = we at *
  have HB := Lib.hid hb; clear hb
  clear e0 e1 e2 hBd hOd kwd kww q0 q1 q2 d0 hwa hwb hwc bwab bwb bwc kwc zwa zwb kwa kwb
  cases b
  rotate_left
  ·
   go_wp2_with fail
   refine wp_region_tree (.q 0 (.q 1 (.q 2 (.e [3] fun _ => .q 4 (.q 5 (.done)))))) (fun V => Blk V w.heap.size 45 #[.slice (some ⟨gr, 0, none⟩) 1 cR, .slice AT m cT] ∧ Blk V (w.heap.size + 1 + 1) 163 #[.slice AG kl cG, .slice AI 16 cI, .slice AO 16 cO]) rfl (by kernel_rfl) (fun _ _ d _ _ h => by cases d <;> exact h) ?_
   change wpT _ _ _ _ _ _ we.drew
   have hS : Blk we.drew w.heap.size 45 #[.slice (some ⟨gr, 0, none⟩) 1 cR, .slice AT m cT] ∧ Blk we.drew (w.heap.size + 1 + 1) 163 #[.slice AG kl cG, .slice AI 16 cI, .slice AO 16 cO] := ⟨fB, fR⟩
   have hO1 : Blk we.drew (w.heap.size + 1) 45 #[.slice none 0 0, .slice none 0 0] := fO
   have hF := below_drewN fA 1
   change Below w.heap.size w we.drew at hF
   generalize we.drew = wf at *
   refine t_load_row rfl rfl 45 (.tmp 4) rfl w.heap.size rfl 45 _ hS (fun W hW => hW.1) _ Tryz.underlying45 rfl (by rw [info_book]; rfl) ?_
   go_simp
   refine t_q rfl rfl hS _ (fun V hV => by (go_simp; rfl)) ?_
   go_simp
   refine t_q rfl rfl hS _ (fun V hV => by (have h0 := hV.2.cell 1; have h2 := hV.2.cell 2; go_simp; rfl)) ?_
   go_simp
   refine t_e rfl rfl fun K hK => ?_
   first
    | (refine op_store_row 45 (.tmp 8) (.tmp 43) rfl (w.heap.size + 1) #[.slice (some ⟨gr, 0, none⟩) 1 cR, .slice AT m cT] rfl rfl 45 #[.slice none 0 0, .slice none 0 0] hO1 (by rw [info_book]; rfl) rfl (by simp [Value.oneCell']) ?_)
    | (refine op_store_row 45 (.tmp 8) (.tmp 53) rfl (w.heap.size + 1) #[.slice (some ⟨gr, 0, none⟩) 1 cR, .slice AT m cT] rfl rfl 45 #[.slice none 0 0, .slice none 0 0] hO1 (by rw [info_book]; rfl) rfl (by simp [Value.oneCell']) ?_)
   intro wg hBg hOg
   have hS2 := (⟨hS.1.only hOg (by omega), hS.2.only hOg (by omega)⟩ : Blk wg w.heap.size _ _ ∧ Blk wg (w.heap.size + 1 + 1) _ _)
   refine hK _ _ hS2 ?_
   clear hK K
   go_simp
   iterate 2 (refine t_q rfl rfl hS2 _ (fun W hW => by (go_simp; rfl)) ?_; go_simp)
   refine t_done ?_
   have hFg := hOg.below hF (by omega)
   go_wp2_with (first | (refine bodyPost_ret (results_cell3 rfl _ _ (w.heap.size + 1) 45 _ _ rfl hBg Tryz.underlying45 rfl (by rw [info_book]; rfl)) rfl ?_))
   first | exact ⟨_, _, ⟨rfl, rfl⟩, ⟨_, _, _, _, _, _, rfl⟩, HAO.out _ hFg⟩ | exact ⟨_, _, ⟨rfl, rfl⟩, ⟨_, _, _, _, _, _, rfl⟩, HAI.out _ hFg⟩
  have y0 := fB.cell 0
  have y1 := fB.cell 1
  go_wp2_with fail
  rw [rounds_succ]
  go_wp2_with fail
  clear fR y0 y1
  go_loopg [] n (fun gk wr => ∃ A' m' c' T', T'.length = m' ∧ m' ≤ gk ∧ gk ≤ 100000 ∧ m' ≤ c' ∧ Byt T' ∧ drawN tq gk T' = dr ∧ At w A' T' ∧ Blk wr w.heap.size 45 #[.slice (some ⟨gr, 0, none⟩) 1 cR, .slice A' m' c'] ∧ Blk wr (w.heap.size + 1) 45 #[.slice none 0 0, .slice none 0 0] ∧ Below w.heap.size w wr)
  case atStart => exact ⟨AT, m, cT, T, HTM.out, HN.out, hm, HCT.out, HBT.out, HDR.out, HAT.out, fB, fO, fA⟩
  case round =>
   obtain ⟨A', m', c', T', hl', hn', hm', hc', bT', hd', hA', hB', hO', hF'⟩ := hrel
   have s0 := hB'.cell 0
   have s1 := hB'.cell 1
   by_cases h16 : m' < 16
   ·
    have hdn : drawN tq gk T' = none := by
     cases gk with
     | zero => rfl
     | succ k => unfold drawN; rw [if_pos (by omega)]
    rw [hdn] at hd'
    subst hd'
    have t1 : ¬ (16 : Int) ≤ (m' : Int) := by omega
    go_wp2_with (first
     | (refine wpList_load_row rfl 45 (.tmp 4) rfl w.heap.size rfl 45 _ (0,0) _ hB' Tryz.underlying45 rfl (by rw [info_book]; rfl) ?_)
     | (refine wpList_store_all rfl 45 (.tmp 8) (.tmp 133) rfl (w.heap.size + 1) #[.slice (some ⟨gr, 0, none⟩) 1 cR, .slice A' m' c'] rfl rfl 45 #[.slice none 0 0, .slice none 0 0] hO' (by rw [info_book]; rfl) rfl (by simp [Value.oneCell']) ?_; intro w5 hB5 hO5)
     | (refine bodyPost_ret (results_cell3 rfl _ _ (w.heap.size + 1) 45 _ _ rfl hB5 Tryz.underlying45 rfl (by rw [info_book]; rfl)) rfl ?_))
    first | exact ⟨⟨_, _, _, _, _, _, rfl⟩, hO5.below hF' (by omega)⟩ | exact ⟨⟨_, rfl, ⟨_, _, _, _, _, _, rfl⟩⟩, hO5.below hF' (by omega)⟩
   ·
    obtain ⟨bt, ot, rfl, hBs⟩ := hA' (ne_nil hl' (by omega))
    have hbl := hBs.lt (ne_nil hl' (by omega))
    have h1 := hBs.sub 0 16
    rw [Nat.add_zero, List.drop_zero] at h1
    have h2 := hBs.sub 16 (m' - 16)
    rw [List.take_of_length_le (by rw [List.length_drop, hl']; exact Nat.le_refl _)] at h2
    have hyl : (T'.take 16).length = 16 := by rw [List.length_take]; omega
    have hdl : (T'.drop 16).length = m' - 16 := by rw [List.length_drop, hl']
    have bY : Byt (T'.take 16) := fun c hc => bT' c (List.mem_of_mem_take hc)
    have bD : Byt (T'.drop 16) := fun c hc => bT' c (List.mem_of_mem_drop hc)
    obtain ⟨kk, rfl⟩ : ∃ kk, gk = kk + 1 := ⟨gk - 1, by omega⟩
    unfold drawN at hd'
    rw [if_neg (by omega)] at hd'
    generalize T'.take 16 = Y at *
    generalize T'.drop 16 = D at *
    have HD := Lib.hid hd'; clear hd'
    have HH1 := Lib.hid h1; clear h1
    have HH2 := Lib.hid h2; clear h2
    have HDL := Lib.hid hdl; clear hdl
    clear hA' hBs hl'
    have t1 : (16 : Int) ≤ (m' : Int) := by omega
    have t2 : (16 : Int) ≤ (c' : Int) := by omega
    have t3 : (m' : Int) ≤ (c' : Int) := by omega
    have f1 := hB'.frozen 1
    go_wp2_with (first
     | (refine wpList_slice_from rfl 22 (.tmp 64) rfl bt ot m' c' rfl Tryz.underlying22 (size_u8 (by kernel_rfl)) (by omega) ?_; intro A3 hA3; have hB2 := hB'.set_ 1 (.slice A3 (m' - 16) (c' - 16)); have hO2 := hO'.far (p := ⟨w.heap.size, 1, none⟩) (by simp) (.slice A3 (m' - 16) (c' - 16)); have hF2 := below_setCell (Below.refl _ _) hF' (Nat.le_refl _) ⟨w.heap.size, 1, none⟩ (Nat.le_refl _) (.slice A3 (m' - 16) (c' - 16)); obtain ⟨w2, hw2⟩ : ∃ w2, wr.setCell ⟨w.heap.size, 1, none⟩ (.slice A3 (m' - 16) (c' - 16)) = w2 := ⟨_, rfl⟩; rw [hw2] at hB2 hO2 hF2; have hB2 : Blk w2 w.heap.size 45 #[.slice (some ⟨gr, 0, none⟩) 1 cR, .slice A3 (m' - 16) (c' - 16)] := hB2))
    clear hw2
    obtain ⟨z, zw2⟩ : ∃ z, w2.heap.size = z := ⟨_, rfl⟩
    have hz : w.heap.size + 2 ≤ z := by have := hO2.lt; omega
    obtain ⟨w3, hw3⟩ : ∃ x, w2.alloc (.cells #[.slice none 0 0, .slice none 0 0, .slice none 0 0] 163) = x := ⟨_, rfl⟩
    have bw3 : Blk w3 z 163 #[.slice none 0 0, .slice none 0 0, .slice none 0 0] := by have := Blk.new w2 163 #[.slice none 0 0, .slice none 0 0, .slice none 0 0]; rw [hw3, zw2] at this; exact this
    have kw3 : Below z w2 w3 := by rw [← hw3, ← zw2]; exact (Below.refl _ _).alloc (Nat.le_refl _) _
    obtain ⟨q0, q1, q2⟩ := HRC.out w2 hF2
    have s2 := hB2.cell 0
    clear s0 s1 f1
    refine wp_loop_rounds 2 ?_
    rw [rounds_succ]
    go_wp2_with (first
     | (refine wpList_store_all rfl 163 (.tmp 16) (.tmp 78) rfl z #[.slice AG kl cG, .slice AI 16 cI, .slice AO 16 cO] rfl rfl 163 #[.slice none 0 0, .slice none 0 0, .slice none 0 0] bw3 (by rw [info_rowR]; rfl) rfl (by simp [Value.oneCell']) ?_; intro w4 hB4 hO4; have kw4 := hO4.below kw3 (Nat.le_refl _); have kww : Below w.heap.size w w4 := hF2.trans (kw4.mono (by omega)); have e0 := hB4.cell 0; have e1 := hB4.cell 1; have e2 := hB4.cell 2))
    refine (HSK.out _ (HAG.out _ kww) (HAK.out _ kww)).mono ?_
    rintro e w5 ⟨rfl, k1, rfl⟩
    go_wp2_with fail
    have HY5 : Bs (w4.drewN k1) bt ot Y := HH1.out.below (below_drewN kww _) hbl
    refine (HSY.out tq _ _ Y (some ⟨bt, ot, none⟩) _ (by assumption) (by assumption) hyl bY _ (by first | exact HAO.out _ (below_drewN kww _) | exact HAI.out _ (below_drewN kww _)) (fun _ => ⟨_, _, rfl, HY5⟩)).mono ?_
    rintro e w6 ⟨rfl, k2, rfl⟩
    have fB0 := hB2.below kw4 (by omega)
    have fO0 := hO2.below kw4 (by omega)
    have fA : Below w.heap.size w ((w4.drewN k1).drewN k2) := below_drewN (below_drewN kww _) _
    have fB : Blk ((w4.drewN k1).drewN k2) w.heap.size 45 #[.slice (some ⟨gr, 0, none⟩) 1 cR, .slice A3 (m' - 16) (c' - 16)] := fB0
    have fO : Blk ((w4.drewN k1).drewN k2) (w.heap.size + 1) 45 #[.slice none 0 0, .slice none 0 0] := fO0
    clear fB0 fO0 HY5 e0 e1 e2 kww kw4 kw3 bw3 hw3 hB4 hO4 q0 q1 q2 s2 zw2
    generalize (w4.drewN k1).drewN k2 = w7 at *
    have v0 := fB.cell 0
    have v1 := fB.cell 1
    by_cases heq : tq = Y
    ·
     rw [decide_eq_true heq]
     have HDR' := Lib.hid (show drawN tq kk D = dr from by have h := HD.out; rwa [if_pos heq] at h)
     have hAD : At w A3 D := fun hne => by
      have h0 := HDL.out
      have h1 : D.length ≠ 0 := fun e => hne (List.length_eq_zero_iff.1 e)
      refine ⟨bt, ot + 16, hA3 (by omega) (by omega), HH2.out⟩
     have HEQ := Lib.hid heq; clear heq
     go_wp2_with fail
     rw [rounds_succ]
     go_wp2_with fail
     go_roundg kk
     case measure => omega
     case rel => exact ⟨A3, m' - 16, c' - 16, D, HDL.out, by omega, by omega, by omega, bD, HDR'.out, hAD, fB, fO, fA⟩
    ·
     rw [decide_eq_false heq]
     obtain rfl : some (Y, D) = dr := by have h := HD.out; rwa [if_neg heq] at h
     clear heq HD
     have HKA := Lib.hid (fun W (hW : Below w7.heap.size w7 W) => HAK.out W (fA.trans (hW.mono fA.size)))
     have HXA := Lib.hid (fun W (hW : Below w7.heap.size w7 W) => HAX.out W (fA.trans (hW.mono fA.size)))
     have HYA := Lib.hid (fun W (hW : Below w7.heap.size w7 W) => HH1.out.below (fA.trans (hW.mono fA.size)) hbl)
     have hl7 := fB.lt
     go_wp2_with fail
     rw [rounds_succ]
     go_wp2_with (first
      | (at_builtin; refine wpList_append_nums rfl (.tmp 103) (.tmp 104) 22 rfl .u8 5 1 Tryz.underlying22 info_byte w7.heap.size w7 _ [] rfl (OwnN.start 5 .u8 w7 w7.heap.size (Nat.le_refl _)) ((Below.refl _ _).alloc (Nat.le_refl _) _) (by simp) _ kl cK K rfl (by assumption) (HKA.out _ ((Below.refl _ _).alloc (Nat.le_refl _) _) (ne_nil (by assumption) hk0)) (by simp only [List.length_nil]; omega) (by omega) ?_; intro v w8 hown k8 hsz; rw [List.nil_append] at hown; obtain ⟨gK, cK', rfl, hatK, -, hgK⟩ := Own.at_ (OwnN.bytes hown) (by assumption) hk0; clear hown hsz)
      | (at_builtin; refine wpList_append_nums rfl (.tmp 106) (.tmp 107) 22 rfl .u8 5 1 Tryz.underlying22 info_byte w8.heap.size w8 _ [] rfl (OwnN.start 5 .u8 w8 w8.heap.size (Nat.le_refl _)) ((Below.refl _ _).alloc (Nat.le_refl _) _) (by simp) _ 16 cX X rfl hX (HXA.out _ (k8.alloc k8.size _) (ne_nil hX (by omega))) (by simp only [List.length_nil]; omega) (by omega) ?_; intro v w9 hown k9 hsz; rw [List.nil_append] at hown; obtain ⟨gX, cX', rfl, hatX, -, hgX⟩ := Own.at_ (OwnN.bytes hown) hX (by omega); clear hown hsz; have k79 := k8.trans (k9.mono k8.size))
      | (at_builtin; refine wpList_append_nums rfl (.tmp 109) (.tmp 110) 22 rfl .u8 5 1 Tryz.underlying22 info_byte w9.heap.size w9 _ [] rfl (OwnN.start 5 .u8 w9 w9.heap.size (Nat.le_refl _)) ((Below.refl _ _).alloc (Nat.le_refl _) _) (by simp) _ 16 c' Y rfl hyl (⟨_, _, rfl, HYA.out _ (k79.alloc k79.size _)⟩) (by simp only [List.length_nil]; omega) (by omega) ?_; intro v wx hown kx hsz; rw [List.nil_append] at hown; obtain ⟨gY, cY', rfl, hatY, -, hgY⟩ := Own.at_ (OwnN.bytes hown) hyl (by omega); clear hown hsz; have k7x := k79.trans (kx.mono k79.size))
      | (refine wpList_store_all rfl 163 (.tmp 17) (.tmp 112) rfl wx.heap.size #[.slice (some ⟨gK, 0, none⟩) kl cK', .slice (some ⟨gX, 0, none⟩) 16 cX', .slice (some ⟨gY, 0, none⟩) 16 cY'] rfl rfl 163 #[.slice none 0 0, .slice none 0 0, .slice none 0 0] (Blk.new wx _ _) (by rw [info_rowR]; rfl) rfl (by simp [Value.oneCell']) ?_; intro wz hBz hOz; have kz := hOz.below ((Below.refl wx.heap.size wx).alloc (Nat.le_refl _) _) (Nat.le_refl _); have e0 := hBz.cell 0; have e1 := hBz.cell 1; have e2 := hBz.cell 2)
      | (refine wpList_store_all rfl 163 (.tmp 17) (.tmp 120) rfl wx.heap.size #[.slice (some ⟨gK, 0, none⟩) kl cK', .slice (some ⟨gY, 0, none⟩) 16 cY', .slice (some ⟨gX, 0, none⟩) 16 cX'] rfl rfl 163 #[.slice (some ⟨gK, 0, none⟩) kl cK', .slice (some ⟨gX, 0, none⟩) 16 cX', .slice (some ⟨gY, 0, none⟩) 16 cY'] hBz (by rw [info_rowR]; rfl) rfl (by simp [Value.oneCell']) ?_; intro wz hBy hOy; have kz := hOy.below kz (Nat.le_refl _); clear hBz; have hBz := hBy; clear e0 e1 e2))
     have hEX : ∃ u0 u1 u2, Blk wz wx.heap.size 163 #[u0, u1, u2] ∧ (#[u0, u1, u2] : Array Value).all (·.oneCell') = true := ⟨_, _, _, hBz, by simp [Value.oneCell']⟩
     obtain ⟨u0, u1, u2, hBc, hco⟩ := hEX
     clear hBz
     try clear e0 e1 e2
     have k7z := k7x.trans (kz.mono k7x.size)
     have fAz : Below w.heap.size w wz := fA.trans (k7z.mono fA.size)
     have fBz := fB.below k7z fB.lt
     have fOz := fO.below k7z fO.lt
     have hlz := hBc.lt
     clear fB fO fA kz k8 k9 k79 kx k7x hatK hatX hatY v0 v1 hB2 hO2 hF2 hB' hO' hF'
     obtain ⟨i0, hi0, hz0, hz1, hz2⟩ := info_parts info_rowR3
     obtain ⟨zd, hzd⟩ : ∃ z, wz.drew.heap.size = z := ⟨_, rfl⟩
     refine wp_region_last (.q 1 (.q 2 (.q 4 (.e [0, 5] fun i => bif i == 0 then (.e [3, 5] fun j => bif j == 3 then (.e [5] fun _ => .e [6] fun _ => .q 7 (.e [8] fun _ => .done)) else (.e [3] fun _ => .e [6] fun _ => .q 7 (.e [8] fun _ => .done))) else (.e [0] fun _ => .e [3] fun _ => .e [6] fun _ => .q 7 (.e [8] fun _ => .done)))))) (fun V => Below zd wz.drew V) 8 rfl (by kernel_rfl) (fun _ _ d _ _ h => by cases d <;> exact h) ?_
     change wpS _ _ _ _ _ _ _ wz.drew
     have gB : Blk wz.drew w.heap.size 45 #[.slice (some ⟨gr, 0, none⟩) 1 cR, .slice A3 (m' - 16) (c' - 16)] := fBz
     have gO : Blk wz.drew (w.heap.size + 1) 45 #[.slice none 0 0, .slice none 0 0] := fOz
     have gC : Blk wz.drew wx.heap.size 163 #[u0, u1, u2] := hBc
     have gA : Below w.heap.size w wz.drew := below_drewN fAz 1
     have hlz' : wx.heap.size < wz.drew.heap.size := hlz
     clear fBz fOz hBc fAz hlz k7z
     generalize wz.drew = wd at *
     obtain ⟨zx, zwx⟩ : ∃ z, wx.heap.size = z := ⟨_, rfl⟩
     rw [zwx] at gC hlz' ⊢
     clear zwx
     have hS := Below.refl zd wd
     have hzs : zd ≤ wd.heap.size := Nat.le_of_eq hzd.symm
     have hlz2 : zx < zd := by omega
     have lB := gB.lt
     have lBz : w.heap.size < zd := by omega
     have lOz : w.heap.size + 1 < zd := by have := gO.lt; omega
     have HZD := Lib.hid hzd; clear hzd
     have lB := gB.lt
     have HB3 := Lib.hid (fun V (hV : Below zd wd V) => gB.below hV (by omega))
     have HC3 := Lib.hid (fun V (hV : Below zd wd V) => gC.below hV (by omega))
     have HR3 := Lib.hid (fun V (hV : Below zd wd V) => HRC.out V (gA.trans (hV.mono (by omega))))
     refine s_q rfl rfl hS _ (fun V hV => by (go_simp; rfl)) ?_
     go_simp
     refine s_q rfl rfl hS (.slice (some ⟨gr, 0, none⟩) 1 cR) (fun V hV => by (have hc := (HB3.out V hV).cell 0; go_simp)) ?_
     go_simp
     refine s_load_row rfl rfl 163 (.tmp 17) rfl zx rfl 163 #[u0, u1, u2] hS (fun W hW => HC3.out W hW) _ Tryz.underlying163 rfl (by rw [info_rowR]; rfl) ?_
     go_simp
     refine s_two rfl rfl rfl rfl (fun K hK => ?_) (fun K hK => ?_)
     rotate_left
     focus
      go_simp
      have hSn := hS.alloc (Nat.le_trans hzs hS.size) (.cells #[u0, u1, u2] 163)
      have hRn : Blk (wd.alloc (.cells #[u0, u1, u2] 163)) wd.heap.size 163 #[u0, u1, u2] := Blk.new _ _ _
      refine hK _ _ (fun _ => hSn) ?_
      clear hK K hS
      have hS := hSn
      clear hSn
      obtain ⟨gn, he⟩ : ∃ gn, wd.heap.size = gn := ⟨_, rfl⟩
      rw [he] at hRn ⊢
      clear he
      generalize wd.alloc (.cells #[u0, u1, u2] 163) = wq1 at *
      refine s_e rfl rfl fun K hK => ?_
      go_simp
      have hSn := hS.alloc (Nat.le_trans hzs hS.size) (.cells #[] 163)
      have hOn : (wq1.alloc (.cells #[] 163)).ownsRow zd 163 3 (.slice (some ⟨wq1.heap.size, 0, none⟩) 0 0) 0 [] := World.ownsRow_made wq1 #[] 0 (Nat.le_trans hzs hS.size) (by unfold maxLen; omega) rfl
      have hge := Nat.le_trans hzs hS.size
      have hRm := hRn.alloc (.cells #[] 163)
      have hgx := hRn.lt
      clear hRn
      have hRn := hRm
      clear hRm
      refine hK _ _ (fun _ => hSn) ?_
      clear hK K hS
      have hS := hSn
      clear hSn
      obtain ⟨ge, he⟩ : ∃ ge, wq1.heap.size = ge := ⟨_, rfl⟩
      rw [he] at hOn hge hgx ⊢
      have hgne : gn ≠ ge := by omega
      clear he
      generalize wq1.alloc (.cells #[] 163) = wq2 at *
      refine s_e rfl rfl fun K hK => ?_
      refine op_append_at (.tmp 121) (.tmp 123) 43 rfl zd 163 i0 (.agg #[.slice none 0 0, .slice none 0 0, .slice none 0 0]) 3 72 Tryz.underlying43 hi0 hz0 hz1 hz2 rfl (by decide) (.slice (some ⟨ge, 0, none⟩) 0 0) 0 [] rfl hOn ⟨gr, 0, none⟩ 1 cR [.slice AG kl cG, .slice AI 16 cI, .slice AO 16 cO] rfl rfl (fun j u hu => news3 (HR3.out _ hS) j u hu) (by simp [Value.oneCell']) (by unfold maxLen; omega) (by omega) (Nat.le_trans hzs hS.size) fun v3 wq3 hO3 hgr _ => ?_
      have hSn := hS.grown hgr (Nat.le_trans hzs hS.size) (fun k hk => by have : ge = k := Option.some.inj hk; omega)
      have hRm := hRn.grown hgr (fun e => hgne (Option.some.inj e))
      clear hRn
      have hRn := hRm
      clear hRm
      refine hK _ _ (fun _ => hSn) ?_
      clear hK K hS hgr hOn
      have hS := hSn
      clear hSn
     rotate_left
     go_simp
     have hSn := hS.alloc (Nat.le_trans hzs hS.size) (.cells #[] 163)
     have hOn : (wd.alloc (.cells #[] 163)).ownsRow zd 163 3 (.slice (some ⟨wd.heap.size, 0, none⟩) 0 0) 0 [] := World.ownsRow_made wd #[] 0 (Nat.le_trans hzs hS.size) (by unfold maxLen; omega) rfl
     have hge := Nat.le_trans hzs hS.size
     refine hK _ _ (fun _ => hSn) ?_
     clear hK K hS
     have hS := hSn
     clear hSn
     obtain ⟨ge, he⟩ : ∃ ge, wd.heap.size = ge := ⟨_, rfl⟩
     rw [he] at hOn hge ⊢
     skip
     clear he
     generalize wd.alloc (.cells #[] 163) = wq1 at *
     refine s_two rfl rfl rfl rfl (fun K hK => ?_) (fun K hK => ?_)
     rotate_left
     focus
      go_simp
      have hSn := hS.alloc (Nat.le_trans hzs hS.size) (.cells #[u0, u1, u2] 163)
      have hRn : Blk (wq1.alloc (.cells #[u0, u1, u2] 163)) wq1.heap.size 163 #[u0, u1, u2] := Blk.new _ _ _
      have hOm := hOn.alloc (.cells #[u0, u1, u2] 163)
      have hgx := (hOn.lt ge rfl).2
      refine hK _ _ (fun _ => hSn) ?_
      clear hK K hS
      have hS := hSn
      clear hSn
      clear hOn
      have hOn := hOm
      clear hOm
      obtain ⟨gn, he⟩ : ∃ gn, wq1.heap.size = gn := ⟨_, rfl⟩
      rw [he] at hRn hgx ⊢
      have hgne : gn ≠ ge := by omega
      clear he
      generalize wq1.alloc (.cells #[u0, u1, u2] 163) = wq2 at *
      refine s_e rfl rfl fun K hK => ?_
      refine op_append_at (.tmp 121) (.tmp 123) 43 rfl zd 163 i0 (.agg #[.slice none 0 0, .slice none 0 0, .slice none 0 0]) 3 72 Tryz.underlying43 hi0 hz0 hz1 hz2 rfl (by decide) (.slice (some ⟨ge, 0, none⟩) 0 0) 0 [] rfl hOn ⟨gr, 0, none⟩ 1 cR [.slice AG kl cG, .slice AI 16 cI, .slice AO 16 cO] rfl rfl (fun j u hu => news3 (HR3.out _ hS) j u hu) (by simp [Value.oneCell']) (by unfold maxLen; omega) (by omega) (Nat.le_trans hzs hS.size) fun v3 wq3 hO3 hgr _ => ?_
      have hSn := hS.grown hgr (Nat.le_trans hzs hS.size) (fun k hk => by have : ge = k := Option.some.inj hk; omega)
      have hRm := hRn.grown hgr (fun e => hgne (Option.some.inj e))
      clear hRn
      have hRn := hRm
      clear hRm
      refine hK _ _ (fun _ => hSn) ?_
      clear hK K hS hgr hOn
      have hS := hSn
      clear hSn
     rotate_left 2
     refine op_append_at (.tmp 121) (.tmp 123) 43 rfl zd 163 i0 (.agg #[.slice none 0 0, .slice none 0 0, .slice none 0 0]) 3 72 Tryz.underlying43 hi0 hz0 hz1 hz2 rfl (by decide) (.slice (some ⟨ge, 0, none⟩) 0 0) 0 [] rfl hOn ⟨gr, 0, none⟩ 1 cR [.slice AG kl cG, .slice AI 16 cI, .slice AO 16 cO] rfl rfl (fun j u hu => news3 (HR3.out _ hS) j u hu) (by simp [Value.oneCell']) (by unfold maxLen; omega) (by omega) (Nat.le_trans hzs hS.size) fun v3 wq2 hO3 hgr _ => ?_
     have hSn := hS.grown hgr (Nat.le_trans hzs hS.size) (fun k hk => by have : ge = k := Option.some.inj hk; omega)
     refine hK _ _ (fun _ => hSn) ?_
     clear hK K hS hgr hOn
     have hS := hSn
     clear hSn
     refine s_e rfl rfl fun K hK => ?_
     go_simp
     have hSn := hS.alloc (Nat.le_trans hzs hS.size) (.cells #[u0, u1, u2] 163)
     have hRn : Blk (wq2.alloc (.cells #[u0, u1, u2] 163)) wq2.heap.size 163 #[u0, u1, u2] := Blk.new _ _ _
     have hOm := hO3.alloc (.cells #[u0, u1, u2] 163)
     refine hK _ _ (fun _ => hSn) ?_
     clear hK K hS
     have hS := hSn
     clear hSn
     clear hO3
     have hO3 := hOm
     clear hOm
     obtain ⟨gn, he⟩ : ∃ gn, wq2.heap.size = gn := ⟨_, rfl⟩
     rw [he] at hRn ⊢
     clear he
     generalize wq2.alloc (.cells #[u0, u1, u2] 163) = wq3 at *
     all_goals
      refine s_e rfl rfl fun K hK => ?_
      refine op_append_at (.tmp 124) (.tmp 126) 43 rfl zd 163 i0 (.agg #[.slice none 0 0, .slice none 0 0, .slice none 0 0]) 3 72 Tryz.underlying43 hi0 hz0 hz1 hz2 rfl (by decide) v3 (0 + 1) ([] ++ [.slice AG kl cG, .slice AI 16 cI, .slice AO 16 cO]) rfl hO3 ⟨gn, 0, none⟩ 1 1 [u0, u1, u2] rfl rfl (fun j u hu => news3 ⟨hRn.cell 0, hRn.cell 1, hRn.cell 2⟩ j u hu) (fun u hu => Array.all_eq_true'.1 hco u (by simpa using hu)) (by unfold maxLen; omega) (by omega) (Nat.le_trans hzs hS.size) fun v6 wq4 hO6 hgr _ => ?_
      have hS6 := hS.grown hgr (Nat.le_trans hzs hS.size) (fun k hk => (hO3.lt k hk).1)
      refine hK _ _ (fun _ => hS6) ?_
      clear hK K hgr hO3 hRn hS
      refine s_q rfl rfl hS6 _ (fun V hV => by (go_simp; rfl)) ?_
      go_simp
      refine s_e rfl rfl fun K hK => ?_
      rcases hO6.2 with ⟨_, h0⟩ | ⟨g6, cap6, cur6, rfl, hg6, hB6, -, -, -, -⟩
      ·
       omega
      have hW := HB3.out _ hS6
      have hf := hW.frozen 0
      have hc := hW.cell 0
      go_simp
      refine hK _ _ (fun h => absurd rfl h) ?_
      refine s_done ?_
      clear hK K
      have hB7 := hW.set_ 0 (.slice (some ⟨g6, 0, none⟩) 2 cap6)
      have hO7 := (gO.below hS6 (by omega)).far (p := ⟨w.heap.size, 0, none⟩) (by simp) (.slice (some ⟨g6, 0, none⟩) 2 cap6)
      have hF7 := below_setCell (Below.refl _ _) (gA.trans (hS6.mono (by omega))) (Nat.le_refl _) ⟨w.heap.size, 0, none⟩ (Nat.le_refl _) (.slice (some ⟨g6, 0, none⟩) 2 cap6)
      generalize wq4.setCell ⟨w.heap.size, 0, none⟩ (.slice (some ⟨g6, 0, none⟩) 2 cap6) = w11 at *
      have hB7 : Blk w11 w.heap.size 45 #[.slice (some ⟨g6, 0, none⟩) 2 cap6, .slice A3 (m' - 16) (c' - 16)] := hB7
      clear hf hc hW hB6 hO6 gB gC hS6 HB3 HC3 HR3
      go_wp2_with fail
      refine wp_region_tree (.q 0 (.q 2 (.e [1] fun _ => .e [3] fun _ => .e [4] fun _ => .q 5 (.q 6 (.done))))) (fun V => Blk V w.heap.size 45 #[.slice (some ⟨g6, 0, none⟩) 2 cap6, .slice A3 (m' - 16) (c' - 16)]) rfl (by kernel_rfl) (fun _ _ d _ _ h => by cases d <;> exact h) ?_
      change wpT _ _ _ _ _ _ w11.drew
      have hSd : Blk w11.drew w.heap.size 45 #[.slice (some ⟨g6, 0, none⟩) 2 cap6, .slice A3 (m' - 16) (c' - 16)] := hB7
      have hRd : Blk w11.drew (w.heap.size + 1) 45 #[.slice none 0 0, .slice none 0 0] := hO7
      have hbd : Below w.heap.size w w11.drew := below_drewN hF7 1
      have hYd : Bs w11.drew bt ot Y := HH1.out.below hbd hbl
      clear hB7 hO7 hF7
      generalize w11.drew = w12 at *
      refine t_load_row rfl rfl 45 (.tmp 4) rfl w.heap.size rfl 45 _ hSd (fun W hW => hW) _ Tryz.underlying45 rfl (by rw [info_book]; rfl) ?_
      go_simp
      refine t_q rfl rfl hSd _ (fun W hW => by (go_simp; rfl)) ?_
      go_simp
      refine t_e rfl rfl fun K hK => ?_
      go_simp
      refine hK _ _ (hSd.alloc _) ?_
      clear hK K
      refine t_e rfl rfl fun K hK => ?_
      have hbu := (Below.refl w12.heap.size w12).alloc (Nat.le_refl _) (.cells #[] 5)
      refine op_append_nums (.tmp 130) (.tmp 131) 22 rfl .u8 5 1 Tryz.underlying22 info_byte w12.heap.size w12 _ [] rfl (OwnN.start 5 .u8 w12 w12.heap.size (Nat.le_refl _)) hbu hbu.size _ 16 c' Y rfl hyl ⟨_, _, rfl, hYd.below hbu (by have := hbd.size; omega)⟩ (by simp only [List.length_nil]; omega) (by omega) fun vY w13 hown13 hbel13 _ => ?_
      rw [List.nil_append] at hown13
      obtain ⟨gV, cV, rfl, hatV, -, hgV⟩ := Own.at_ (OwnN.bytes hown13) hyl (by omega)
      have hS13 := hSd.below hbel13 hSd.lt
      have hR13 := hRd.below hbel13 hRd.lt
      have hbd13 := hbd.trans (hbel13.mono hbd.size)
      refine hK _ _ hS13 ?_
      clear hK K
      refine t_e rfl rfl fun K hK => ?_
      refine op_store_row 45 (.tmp 8) (.tmp 129) rfl (w.heap.size + 1) #[.slice (some ⟨g6, 0, none⟩) 2 cap6, .slice A3 (m' - 16) (c' - 16)] rfl rfl 45 #[.slice none 0 0, .slice none 0 0] hR13 (by rw [info_book]; rfl) rfl (by simp [Value.oneCell']) fun w14 hB14 hO14 => ?_
      refine hK _ _ (hS13.only hO14 (by omega)) ?_
      clear hK K
      go_simp
      iterate 2 (refine t_q rfl rfl (hS13.only hO14 (by omega)) _ (fun W hW => by (go_simp; rfl)) ?_; go_simp)
      refine t_done ?_
      have hbF := hO14.below hbd13 (by omega)
      have hVl : w.heap.size + 1 < gV := by have := hRd.lt; omega
      have hVF := hatV.onlyG hO14 (by omega)
      go_wp2_with (first | (refine bodyPost_ret (results_cell3 rfl _ _ (w.heap.size + 1) 45 _ _ rfl hB14 Tryz.underlying45 rfl (by rw [info_book]; rfl)) rfl ?_))
      exact ⟨_, _, ⟨rfl, rfl⟩, ⟨_, _, _, _, _, _, rfl⟩, hVF⟩
end Go.Proofs.YthodpjcdmdbnoaaGreatDoor
