/- block.Book's ask of a book with one row: is a block taken? block.Book's draw, of a book with one row. -/
import Derived.Test.YthodpjcdmdbnoaaGreatDoorNTA
import Derived.Test.YthodpjcdmdbnoaaGreatDoorNArr
/- block.Book's ask of a book with one row: is a block taken? -/
namespace Go.Proofs.YthodpjcdmdbnoaaGreatDoor
open Go Go.RowKit Pr

section
variable {P : Program} {ops : Array Oper} {rest : List Oper} {o : Oper} {a : Act} {w : World} {Q : Exit → Act → World → Prop}
theorem wpList_eql_rows (hw : Region.wanted o (yielded ops a.tmps) = true) (ty rt : TypeId) (x y : Operand) (ho : o.op = .binOp .eql ty x y rt) (cs ds : Array Value) (b : Bool) (hx : a.eval x = .agg cs) (hy : a.eval y = .agg ds)
    (heq : (Op.equalIn 10000 ty (.agg cs) (.agg ds)).run P w = .ok b w) (hg : (eqGuard .eql ty x y (.agg cs) (.agg ds)).run P w = .ok () w) (h : wpList P ops Q rest (a.put o.dst (.bool b)) w) : wpList P ops Q (o :: rest) a w :=
 wpList_wanted hw fun _ hK => by
  have hrun : (execOp a.eval o).run P w = .ok (.value (.bool b)) w := by
   unfold execOp
   simp only [ho, hx, hy, Sem.run_bind, run_eql_struct, hg, heq, Result.andThen_ok]
   simp
  unfold Oper.wp
  rw [hrun]
  exact hK _ _ h
end

theorem eq16 (l m : List Nat) (hl : l.length = 16) (hm : m.length = 16) (h1 : Byt l) (h2 : Byt m) (w : World) : (Op.equalIn 10000 113 (.agg (byteCells l)) (.agg (byteCells m))).run Tryz.prog w = .ok (decide (l = m)) w :=
 eqBytes w 113 5 16 Tryz.underlying113 Tryz.underlying5 (size_u8 (by kernel_rfl)) l m hl hm h1 h2

/-- the variables that the closures of ask share -/
def AskVars (w : World) (gs gk gb : Nat) (key : ByteArray) (back : Bool) : Prop := w.cell? ⟨gs, 0, none⟩ = some (.func (.func 102) #[] #[.pointer (some ⟨gb, 0, none⟩)]) ∧ w.cell? ⟨gk, 0, none⟩ = some (.string key) ∧ w.cell? ⟨gb, 0, none⟩ = some (.bool back)
theorem AskVars.below {w w' : World} {gs gk gb : Nat} {key : ByteArray} {back : Bool} (h : AskVars w gs gk gb key back) (hb : Below w.heap.size w w') : AskVars w' gs gk gb key back :=
 ⟨(hb.cell (p := ⟨gs, 0, none⟩) (block_lt_of_cell h.1)).trans h.1, (hb.cell (p := ⟨gk, 0, none⟩) (block_lt_of_cell h.2.1)).trans h.2.1, (hb.cell (p := ⟨gb, 0, none⟩) (block_lt_of_cell h.2.2)).trans h.2.2⟩

set_option maxHeartbeats 4000000 in
set_option maxRecDepth 100000 in
theorem match1_any (key : ByteArray) (I O Y : List Nat) (hI : I.length = 16) (hO : O.length = 16) (hY : Y.length = 16) (bI : Byt I) (bO : Byt O) (bY : Byt Y) (back : Bool) (gs gk gb gy : Nat) (w : World) (hV : AskVars w gs gk gb key back) (hy : Blk w gy 113 (byteCells Y)) :
    Calls Tryz.prog 106 #[.agg (rowC key I O), .pointer (some ⟨gs, 0, none⟩), .pointer (some ⟨gk, 0, none⟩), .pointer (some ⟨gy, 0, none⟩)] w fun e w' =>
     e = .returned (.bool (decide ((if back then I else O) = Y))) ∧ Below w.heap.size w w' := by
 have HSD := Lib.hid (fun W h => sides_any key I O hI hO back gb W h)
 have HEQ := Lib.hid (fun W => eq16 (if back then I else O) Y (by split <;> assumption) hY (by split <;> assumption) bY W)
 have hrs := rowC_size key I O hI hO
 have hro := rowC_one key I O
 have hrk := rowC_key key I O
 have hTl : (if back then I else O).length = 16 := by split <;> assumption
 have hFl : (if back then O else I).length = 16 := by split <;> assumption
 generalize (if back then I else O) = T at *
 generalize (if back then O else I) = F at *
 generalize rowC key I O = row at *
 have hTs : (byteCells T).size = 16 := by rw [size_byteCells, hTl]
 have hFs : (byteCells F).size = 16 := by rw [size_byteCells, hFl]
 have hTo : (byteCells T).all (·.oneCell') = true := bytes_one _
 have hFo : (byteCells F).all (·.oneCell') = true := bytes_one _
 obtain ⟨cT, hcT⟩ : ∃ c, byteCells T = c := ⟨_, rfl⟩
 obtain ⟨cF, hcF⟩ : ∃ c, byteCells F = c := ⟨_, rfl⟩
 obtain ⟨cY, hcY⟩ : ∃ c, byteCells Y = c := ⟨_, rfl⟩
 have hYs : (byteCells Y).size = 16 := by rw [size_byteCells, hY]
 rw [hcT] at HEQ HSD hTs hTo
 rw [hcF] at HSD hFs hFo
 rw [hcY] at HEQ hy hYs
 obtain ⟨b, hb⟩ : ∃ b, decide (T = Y) = b := ⟨_, rfl⟩
 rw [hb] at HEQ ⊢
 have hkk : (key.toList == key.toList) = true := by simp
 obtain ⟨wa, hwa⟩ : ∃ x, w.alloc (.cells row 178) = x := ⟨_, rfl⟩
 have zwa : wa.heap.size = w.heap.size + 1 := by rw [← hwa]; simp
 have bwa : Blk wa w.heap.size 178 row := by have := Blk.new w 178 row; rw [hwa] at this; exact this
 have kwa : Below w.heap.size w wa := by rw [← hwa]; exact (Below.refl _ _).alloc (by omega) _
 have hVa := hV.below kwa
 have hyl := hy.lt
 have hya := hy.below kwa hyl
 obtain ⟨v1, v2, v3⟩ := hVa
 go_enter Tryz.func106, Tryz.ntmps106
 go_wp2_with (first
  | (refine wpList_load_row rfl 178 (.tmp 4) rfl w.heap.size rfl 178 row (0,0) _ bwa Tryz.underlying178 rfl (by rw [info_rowB, hrs]) ?_))
 refine (HSD.out _ v3).mono ?_
 rintro e wb ⟨rfl, kb⟩
 have bwb := bwa.below kb bwa.lt
 have hyb := hya.below kb hya.lt
 have k2 := kb.cell (p := ⟨gk, 0, none⟩) (block_lt_of_cell v2)
 rw [v2] at k2
 have kwb := kwa.trans (kb.mono kwa.size)
 have kz := bwb.cell 0
 rw [hrk] at kz
 have hZ : byteCells (List.replicate 16 0) = #[.int .u8 0, .int .u8 0, .int .u8 0, .int .u8 0, .int .u8 0, .int .u8 0, .int .u8 0, .int .u8 0, .int .u8 0, .int .u8 0, .int .u8 0, .int .u8 0, .int .u8 0, .int .u8 0, .int .u8 0, .int .u8 0] := rfl
 obtain ⟨wc, hwc⟩ : ∃ x, wb.alloc (.cells #[.int .u8 0, .int .u8 0, .int .u8 0, .int .u8 0, .int .u8 0, .int .u8 0, .int .u8 0, .int .u8 0, .int .u8 0, .int .u8 0, .int .u8 0, .int .u8 0, .int .u8 0, .int .u8 0, .int .u8 0, .int .u8 0] 113) = x := ⟨_, rfl⟩
 have zwc : wc.heap.size = wb.heap.size + 1 := by rw [← hwc]; simp
 have bwc : Blk wc wb.heap.size 113 #[.int .u8 0, .int .u8 0, .int .u8 0, .int .u8 0, .int .u8 0, .int .u8 0, .int .u8 0, .int .u8 0, .int .u8 0, .int .u8 0, .int .u8 0, .int .u8 0, .int .u8 0, .int .u8 0, .int .u8 0, .int .u8 0] := by rw [← hwc]; exact Blk.new wb _ _
 have kwc : Below wb.heap.size wb wc := by rw [← hwc]; exact (Below.refl _ _).alloc (Nat.le_refl _) _
 obtain ⟨wd, hwd⟩ : ∃ x, wc.alloc (.cells #[.int .u8 0, .int .u8 0, .int .u8 0, .int .u8 0, .int .u8 0, .int .u8 0, .int .u8 0, .int .u8 0, .int .u8 0, .int .u8 0, .int .u8 0, .int .u8 0, .int .u8 0, .int .u8 0, .int .u8 0, .int .u8 0] 113) = x := ⟨_, rfl⟩
 have bwd : Blk wd (wb.heap.size + 1) 113 #[.int .u8 0, .int .u8 0, .int .u8 0, .int .u8 0, .int .u8 0, .int .u8 0, .int .u8 0, .int .u8 0, .int .u8 0, .int .u8 0, .int .u8 0, .int .u8 0, .int .u8 0, .int .u8 0, .int .u8 0, .int .u8 0] := by rw [← hwd, ← zwc]; exact Blk.new wc _ _
 have bcd : Blk wd wb.heap.size 113 #[.int .u8 0, .int .u8 0, .int .u8 0, .int .u8 0, .int .u8 0, .int .u8 0, .int .u8 0, .int .u8 0, .int .u8 0, .int .u8 0, .int .u8 0, .int .u8 0, .int .u8 0, .int .u8 0, .int .u8 0, .int .u8 0] := by rw [← hwd]; exact bwc.alloc _
 have kwd : Below wb.heap.size wb wd := by rw [← hwd]; exact kwc.alloc (by omega) _
 clear bwc hwa v1 v2 v3 hZ
 go_wp2_with (first
  | (refine wpList_store_all rfl 113 (.tmp 6) (.tmp 12) rfl wb.heap.size cF rfl rfl 113 #[.int .u8 0, .int .u8 0, .int .u8 0, .int .u8 0, .int .u8 0, .int .u8 0, .int .u8 0, .int .u8 0, .int .u8 0, .int .u8 0, .int .u8 0, .int .u8 0, .int .u8 0, .int .u8 0, .int .u8 0, .int .u8 0] bcd (by rw [info_16u8, hFs]) (by rw [hFs]; rfl) hFo ?_; intro we hBe hOe)
  | (refine wpList_store_all rfl 113 (.tmp 7) (.tmp 13) rfl (wb.heap.size + 1) cT rfl rfl 113 #[.int .u8 0, .int .u8 0, .int .u8 0, .int .u8 0, .int .u8 0, .int .u8 0, .int .u8 0, .int .u8 0, .int .u8 0, .int .u8 0, .int .u8 0, .int .u8 0, .int .u8 0, .int .u8 0, .int .u8 0, .int .u8 0] (bwd.only hOe (by omega)) (by rw [info_16u8, hTs]) (by rw [hTs]; rfl) hTo ?_; intro wf hBf hOf; have kwf := hOf.below (hOe.below kwd (by omega)) (by omega); have k3 := (kwf.cell (p := ⟨gk, 0, none⟩) (block_lt_of_cell k2)).trans k2; have k4 := (kwf.cell (p := ⟨w.heap.size, 0, none⟩) bwb.lt).trans kz; have hyf := hyb.below kwf hyb.lt)
  | (refine wpList_load_rowG (by go_simp) 113 (.tmp 7) rfl (wb.heap.size + 1) rfl 113 cT hBf _ Tryz.underlying113 rfl (by rw [info_16u8, hTs]) ?_)
  | (refine wpList_load_rowG (by go_simp) 113 (.tmp 3) rfl gy rfl 113 cY hyf _ Tryz.underlying113 rfl (by rw [info_16u8, hYs]) ?_)
  | (refine wpList_eql_rows (by go_simp) 113 113 (.tmp 19) (.tmp 20) rfl cT cY b rfl rfl (HEQ.out wf) (by unfold eqGuard; go_simp; done) ?_))
 go_ret
 exact ⟨rfl, kwb.trans (kwf.mono kwb.size)⟩

/-- a row lies in the book's memory -/
def RowB (w : World) (gr : Nat) (key : ByteArray) (I O : List Nat) : Prop := w.rangeAt gr 0 (rowC key I O).toList
theorem RowB.below {w w' : World} {gr B : Nat} {key : ByteArray} {I O : List Nat} (h : RowB w gr key I O) (hb : Below B w w') (hB : gr < B) : RowB w' gr key I O :=
 fun j v hv => (hb.cell (p := ⟨gr, 0 + j, none⟩) hB).trans (h j v hv)
theorem RowB.same {w w' : World} {gr : Nat} {key : ByteArray} {I O : List Nat} (h : RowB w gr key I O) (h1 : w'.heap[gr]? = w.heap[gr]?) : RowB w' gr key I O :=
 fun j v hv => (World.cell?_of_block h1).trans (h j v hv)
theorem RowB.lt {w : World} {gr : Nat} {key : ByteArray} {I O : List Nat} (h : RowB w gr key I O) : gr < w.heap.size :=
 block_lt_of_cell (h 0 (.string key) (by rw [Array.getElem?_toList]; exact rowC_key key I O))

set_option maxHeartbeats 4000000 in
set_option maxRecDepth 100000 in
theorem index1_any (key : ByteArray) (I O Y : List Nat) (hI : I.length = 16) (hO : O.length = 16) (hY : Y.length = 16) (bI : Byt I) (bO : Byt O) (bY : Byt Y) (back : Bool) (gs gk gb gy gr cr : Nat) (w : World) (hV : AskVars w gs gk gb key back) (hy : Blk w gy 113 (byteCells Y)) (hR : RowB w gr key I O) :
    Calls Tryz.prog 129 #[.slice (some ⟨gr, 0, none⟩) 1 cr, .func (.func 106) #[] #[.pointer (some ⟨gs, 0, none⟩), .pointer (some ⟨gk, 0, none⟩), .pointer (some ⟨gy, 0, none⟩)]] w fun e w' =>
     e = .returned (.int .i64 (if decide ((if back then I else O) = Y) then 0 else -1)) ∧ Below w.heap.size w w' := by
 have HM := Lib.hid (match1_any key I O Y hI hO hY bI bO bY back gs gk gb gy w hV hy)
 have hrs := rowC_size key I O hI hO
 have hRl := hR.lt
 unfold RowB at hR
 generalize rowC key I O = row at *
 obtain ⟨b, hb⟩ : ∃ b, decide ((if back then I else O) = Y) = b := ⟨_, rfl⟩
 rw [hb] at HM ⊢
 clear hb
 have hrl : row.toList.length = 33 := by rw [Array.length_toList, hrs]
 cases b
 all_goals
  go_enter Tryz.func129, Tryz.ntmps129
  go_wp2
  refine wp_loop_rounds 2 ?_
  rw [rounds_succ]
  go_wp2_with (first
   | (refine wpList_load_mid rfl 178 (.tmp 14) rfl gr 0 rfl row.toList _ hR Tryz.underlying178 rfl (by rw [info_rowB, hrl]) ?_; rw [Array.toArray_toList]))
  refine (HM.out).mono ?_
  rintro e w1 ⟨rfl, kb⟩
  go_wp2
 ·
  rw [rounds_succ]
  go_wp2
  go_ret
  exact ⟨rfl, kb⟩
 ·
  go_ret
  exact ⟨rfl, kb⟩

set_option maxHeartbeats 4000000 in
set_option maxRecDepth 100000 in
/-- the closure that asks whether a block is taken, of a book with one row -/
theorem taken1_any (key : ByteArray) (I O Y : List Nat) (hI : I.length = 16) (hO : O.length = 16) (hY : Y.length = 16) (bI : Byt I) (bO : Byt O) (bY : Byt Y) (back : Bool) (gs gk gb gp gr cr bp : Nat) (tv : Value) (w : World) (hV : AskVars w gs gk gb key back)
    (hR : RowB w gr key I O) (hp : w.cell? ⟨gp, 0, none⟩ = some (.pointer (some ⟨bp, 0, none⟩))) (hB : Blk w bp 65 #[.slice (some ⟨gr, 0, none⟩) 1 cr, tv]) :
    Calls Tryz.prog 104 #[.agg (byteCells Y), .pointer (some ⟨gp, 0, none⟩), .pointer (some ⟨gs, 0, none⟩), .pointer (some ⟨gk, 0, none⟩)] w fun e w' => e = .returned (.bool (decide ((if back then I else O) = Y))) ∧ Below w.heap.size w w' := by
 have hmf : ∀ (fn : Fn) (first cap : Array Value) (W : World), (Instr.makeFunc fn first cap).run Tryz.prog W = .ok (.func fn first cap) W := fun _ _ _ _ => rfl
 obtain ⟨wa, hwa⟩ : ∃ x, w.alloc (.cells (byteCells Y) 113) = x := ⟨_, rfl⟩
 have zwa : wa.heap.size = w.heap.size + 1 := by rw [← hwa]; simp
 have bwa : Blk wa w.heap.size 113 (byteCells Y) := by rw [← hwa]; exact Blk.new w _ _
 have kwa : Below w.heap.size w wa := by rw [← hwa]; exact (Below.refl _ _).alloc (Nat.le_refl _) _
 have HI := Lib.hid (index1_any key I O Y hI hO hY bI bO bY back gs gk gb w.heap.size gr cr wa (hV.below kwa) bwa (hR.below kwa hR.lt))
 have hp1 := (kwa.cell (p := ⟨gp, 0, none⟩) (block_lt_of_cell hp)).trans hp
 have hc1 := (hB.below kwa hB.lt).cell 0
 generalize byteCells Y = cy at *
 generalize decide ((if back then I else O) = Y) = b at *
 have HC := Lib.hid (show Calls Tryz.prog 105 #[.slice (some ⟨gr, 0, none⟩) 1 cr, .func (.func 106) #[] #[.pointer (some ⟨gs, 0, none⟩), .pointer (some ⟨gk, 0, none⟩), .pointer (some ⟨w.heap.size, 0, none⟩)]] wa fun e w' => e = .returned (.bool b) ∧ Below wa.heap.size wa w' from by
  cases b
  all_goals
   go_enter Tryz.func105, Tryz.ntmps105
   go_wp2_with fail
   refine (HI.out).mono ?_
   rintro e w1 ⟨rfl, kb⟩
   go_wp2
   go_ret
   exact ⟨rfl, kb⟩)
 clear HI
 go_enter Tryz.func104, Tryz.ntmps104
 go_wp2_with fail
 refine (HC.out).mono ?_
 rintro e w1 ⟨rfl, kb⟩
 go_wp2
 go_ret
 exact ⟨rfl, kwa.trans (kb.mono kwa.size)⟩
end Go.Proofs.YthodpjcdmdbnoaaGreatDoor

/- block.Book's draw, of a book with one row. -/
namespace Go.Proofs.YthodpjcdmdbnoaaGreatDoor
open Go Go.RowKit Pr

/-- the first block of T that isn't tq, and what is behind it; n rounds at most -/
def drawN (tq : List Nat) : Nat → List Nat → Option (List Nat × List Nat)
 | 0, _ => none
 | n + 1, T => if T.length < 16 then none else if tq = T.take 16 then drawN tq n (T.drop 16) else some (T.take 16, T.drop 16)
theorem drawN_len {tq : List Nat} : ∀ {n : Nat} {T y D : List Nat}, drawN tq n T = some (y, D) → y.length = 16
 | 0, _, _, _, h => by cases h
 | n + 1, T, y, D, h => by
  unfold drawN at h
  by_cases h1 : T.length < 16
  ·
   rw [if_pos h1] at h; cases h
  ·
   rw [if_neg h1] at h
   by_cases h2 : tq = T.take 16
   ·
    rw [if_pos h2] at h; exact drawN_len h
   ·
    rw [if_neg h2] at h
    injection h with h
    injection h with h _
    rw [← h, List.length_take]
    omega
theorem drawN_byt {tq : List Nat} : ∀ {n : Nat} {T y D : List Nat}, Byt T → drawN tq n T = some (y, D) → Byt y
 | 0, _, _, _, _, h => by cases h
 | n + 1, T, y, D, hT, h => by
  unfold drawN at h
  by_cases h1 : T.length < 16
  ·
   rw [if_pos h1] at h; cases h
  ·
   rw [if_neg h1] at h
   by_cases h2 : tq = T.take 16
   ·
    rw [if_pos h2] at h; exact drawN_byt (fun c hc => hT c (List.mem_of_mem_drop hc)) h
   ·
    rw [if_neg h2] at h
    injection h with h
    injection h with h _
    rw [← h]
    exact fun c hc => hT c (List.mem_of_mem_take hc)

/-- what a draw needs: the closures' variables, the book and its row, all apart from the tape -/
def AskSt (w : World) (gs gk gb gp bp tp gr cr : Nat) (key : ByteArray) (I O : List Nat) (back : Bool) : Prop :=
 AskVars w gs gk gb key back ∧ w.cell? ⟨gp, 0, none⟩ = some (.pointer (some ⟨bp, 0, none⟩)) ∧ Blk w bp 65 #[.slice (some ⟨gr, 0, none⟩) 1 cr, .pointer (some ⟨tp, 0, none⟩)] ∧ RowB w gr key I O
 ∧ gs ≠ tp ∧ gk ≠ tp ∧ gb ≠ tp ∧ gp ≠ tp ∧ bp ≠ tp ∧ gr ≠ tp
theorem AskSt.keep {w w' : World} {gs gk gb gp bp tp gr cr : Nat} {key : ByteArray} {I O : List Nat} {back : Bool} (h : AskSt w gs gk gb gp bp tp gr cr key I O back) (hk : Keep tp w w') : AskSt w' gs gk gb gp bp tp gr cr key I O back := by
 obtain ⟨⟨a1, a2, a3⟩, a4, a5, a6, n1, n2, n3, n4, n5, n6⟩ := h
 have hc : ∀ (g : Nat) (v : Value), w.cell? ⟨g, 0, none⟩ = some v → g ≠ tp → w'.cell? ⟨g, 0, none⟩ = some v := fun g v hv hn => (World.cell?_of_block (hk.block g (block_lt_of_cell hv) hn)).trans hv
 exact ⟨⟨hc _ _ a1 n1, hc _ _ a2 n2, hc _ _ a3 n3⟩, hc _ _ a4 n4, (hk.block _ a5.lt n5).trans a5, a6.same (hk.block _ a6.lt n6), n1, n2, n3, n4, n5, n6⟩

set_option maxHeartbeats 8000000 in
set_option maxRecDepth 100000 in
theorem draw1_any (n : Nat) (T : List Nat) (hn : T.length ≤ n) (hm : n ≤ 100000) (bT : Byt T) (key : ByteArray) (I O : List Nat) (hI : I.length = 16) (hO : O.length = 16) (bI : Byt I) (bO : Byt O) (back : Bool) (gs gk gb gp bp tp tb gr cr : Nat) (w : World)
    (hA : AskSt w gs gk gb gp bp tp gr cr key I O back) (hTp : TapeAt w tp tb T) :
    Calls Tryz.prog 103 #[.pointer (some ⟨bp, 0, none⟩), .func (.func 104) #[] #[.pointer (some ⟨gp, 0, none⟩), .pointer (some ⟨gs, 0, none⟩), .pointer (some ⟨gk, 0, none⟩)]] w fun e w' =>
     (match drawN (if back then I else O) n T with
     | some (y, _) => e = .returned (.tuple #[.agg (byteCells y), .nilIface])
     | none => ∃ v k, e = .returned (.tuple #[.agg (byteCells (List.replicate 16 0)), v]) ∧ ErIs w' w.heap.size v (.fa k 13)) ∧ Keep tp w w' := by
 have HTK := Lib.hid (fun Y hY bY W hW => taken1_any key I O Y hI hO hY bI bO bY back gs gk gb gp gr cr bp (.pointer (some ⟨tp, 0, none⟩)) W (AskSt.keep hA hW).1 (AskSt.keep hA hW).2.2.2.1 (AskSt.keep hA hW).2.1 (AskSt.keep hA hW).2.2.1)
 have HAK := Lib.hid (fun W hW => (AskSt.keep hA hW : AskSt W gs gk gb gp bp tp gr cr key I O back))
 have htl := hTp.lt.1
 have hbl := hA.2.2.1.lt
 have hnb := hA.2.2.2.2.2.2.2.2.1
 have hTO : (if back then I else O).length = 16 := by split <;> assumption
 generalize (if back then I else O) = tq at *
 obtain ⟨w1, hw1⟩ : ∃ x, w.alloc (.cells #[.int .u8 0, .int .u8 0, .int .u8 0, .int .u8 0, .int .u8 0, .int .u8 0, .int .u8 0, .int .u8 0, .int .u8 0, .int .u8 0, .int .u8 0, .int .u8 0, .int .u8 0, .int .u8 0, .int .u8 0, .int .u8 0] 113) = x := ⟨_, rfl⟩
 have hsz : w1.heap.size = w.heap.size + 1 := by rw [← hw1]; simp
 have hR1 : Blk w1 w.heap.size 113 #[.int .u8 0, .int .u8 0, .int .u8 0, .int .u8 0, .int .u8 0, .int .u8 0, .int .u8 0, .int .u8 0, .int .u8 0, .int .u8 0, .int .u8 0, .int .u8 0, .int .u8 0, .int .u8 0, .int .u8 0, .int .u8 0] := by rw [← hw1]; exact Blk.new w _ _
 have hk1 : Keep tp w w1 := by rw [← hw1]; exact Keep.ofBelow ((Below.refl w.heap.size w).alloc (Nat.le_refl _) _)
 have hT1 : TapeAt w1 tp tb T := by rw [← hw1]; exact hTp.below ((Below.refl w.heap.size w).alloc (Nat.le_refl _) _)
 have harr : ∀ a c W, (Instr.arrayAt 113 (.slice a 16 c)).run Tryz.prog W = .ok (.pointer a) W := fun a c W => run_arrayAt _ 5 16 Tryz.underlying113 a 16 c (Nat.le_refl _) W
 obtain ⟨res, hres⟩ : ∃ r, drawN tq n T = r := ⟨_, rfl⟩
 rw [hres]
 have HRES := Lib.hid hres; clear hres
 have HBT := Lib.hid bT; clear bT
 have HN := Lib.hid hn; clear hn
 have HSZ := Lib.hid hsz; clear hsz
 clear hTp hA
 go_enter Tryz.func103, Tryz.ntmps103
 go_wp2
 clear hw1
 go_loopg [] n (fun gk wr => ∃ T', T'.length ≤ gk ∧ gk ≤ 100000 ∧ Byt T' ∧ drawN tq gk T' = res ∧ TapeAt wr tp tb T' ∧ Keep tp w wr ∧ Blk wr w.heap.size 113 #[.int .u8 0, .int .u8 0, .int .u8 0, .int .u8 0, .int .u8 0, .int .u8 0, .int .u8 0, .int .u8 0, .int .u8 0, .int .u8 0, .int .u8 0, .int .u8 0, .int .u8 0, .int .u8 0, .int .u8 0, .int .u8 0])
 case atStart => exact ⟨T, HN.out, hm, HBT.out, HRES.out, hT1, hk1, hR1⟩
 case round =>
  obtain ⟨T', hn', hm', bT', hr', hT', hk', hR'⟩ := hrel
  have hc1 := (HAK.out _ hk').2.2.1.cell 1
  have hz' := hk'.size
  have hRl := hR'.lt
  by_cases h16 : T'.length < 16
  ·
   have hdn : drawN tq gk T' = none := by
    cases gk with
    | zero => rfl
    | succ k => unfold drawN; rw [if_pos h16]
   rw [hdn] at hr'
   subst hr'
   go_wp2_with fail
   refine (take_end T' T'.length rfl h16 tp tb wr hT').mono ?_
   rintro e w2 ⟨⟨v, rfl, g, rfl, hg, hF⟩, hb2⟩
   have hR2 : Blk w2 w.heap.size 113 #[.int .u8 0, .int .u8 0, .int .u8 0, .int .u8 0, .int .u8 0, .int .u8 0, .int .u8 0, .int .u8 0, .int .u8 0, .int .u8 0, .int .u8 0, .int .u8 0, .int .u8 0, .int .u8 0, .int .u8 0, .int .u8 0] := hR'.below hb2 hRl
   have hk2 := hk'.trans (Keep.ofBelow hb2)
   go_wp2_with (first
    | (refine wpList_store_all rfl 113 (.tmp 4) (.tmp 19) rfl w.heap.size #[.int .u8 0, .int .u8 0, .int .u8 0, .int .u8 0, .int .u8 0, .int .u8 0, .int .u8 0, .int .u8 0, .int .u8 0, .int .u8 0, .int .u8 0, .int .u8 0, .int .u8 0, .int .u8 0, .int .u8 0, .int .u8 0] rfl rfl 113 #[.int .u8 0, .int .u8 0, .int .u8 0, .int .u8 0, .int .u8 0, .int .u8 0, .int .u8 0, .int .u8 0, .int .u8 0, .int .u8 0, .int .u8 0, .int .u8 0, .int .u8 0, .int .u8 0, .int .u8 0, .int .u8 0] hR2 (by rw [info_16u8]; rfl) rfl (by simp [Value.oneCell']) ?_; intro w5 hB5 hO5)
    | (refine bodyPost_ret (results_cell2 rfl _ _ w.heap.size 113 _ _ rfl hB5 Tryz.underlying113 rfl (by rw [info_16u8]; rfl)) rfl ?_))
   have hgw : w.heap.size < g := by omega
   exact ⟨⟨_, ⟨rfl, rfl⟩, _, g, rfl, by omega, hF.only hO5 (by omega)⟩, ⟨hO5.os.trans hk2.os, hO5.tape.trans hk2.tape, hO5.output.trans hk2.output, by have := hk2.size; have := hO5.size; omega, fun i hi hn => (hO5.block i (by omega)).trans (hk2.block i hi hn)⟩⟩
  ·
   have hl16 : (T'.take 16).length = 16 := by rw [List.length_take]; omega
   have bY : Byt (T'.take 16) := fun c hc => bT' c (List.mem_of_mem_take hc)
   have bD : Byt (T'.drop 16) := fun c hc => bT' c (List.mem_of_mem_drop hc)
   have hDl : (T'.drop 16).length ≤ gk - 1 := by rw [List.length_drop]; omega
   obtain ⟨kk, rfl⟩ : ∃ kk, gk = kk + 1 := ⟨gk - 1, by omega⟩
   unfold drawN at hr'
   rw [if_neg h16] at hr'
   have HTA := Lib.hid (take_ok T' T'.length rfl (by omega) (by omega) tp tb wr hT')
   generalize T'.take 16 = Y at *
   generalize T'.drop 16 = D at *
   have HTY := Lib.hid (fun W h => HTK.out Y hl16 bY W h)
   have HR := Lib.hid hr'; clear hr'
   have hone : (byteCells Y).all (·.oneCell') = true := bytes_one _
   have hbs : (byteCells Y).size = 16 := by rw [size_byteCells, hl16]
   go_wp2_with fail
   refine (HTA.out).mono ?_
   rintro e w2 ⟨⟨v, rfl, hv⟩, hT2, hk2⟩
   obtain ⟨gx, cx, rfl, hBx, hcx, hgx⟩ := hv.at_ hl16 (by omega)
   have hBx2 : Bs w2 gx 0 Y := by
    obtain ⟨b, o, e, h⟩ := hBx (ne_nil hl16 (by omega))
    injection e with e
    injection e with e1 e2
    rw [e1, e2]
    exact h
   have hR2 : Blk w2 w.heap.size 113 #[.int .u8 0, .int .u8 0, .int .u8 0, .int .u8 0, .int .u8 0, .int .u8 0, .int .u8 0, .int .u8 0, .int .u8 0, .int .u8 0, .int .u8 0, .int .u8 0, .int .u8 0, .int .u8 0, .int .u8 0, .int .u8 0] := (hk2.block _ hRl (by omega)).trans hR'
   have hk12 := hk'.trans hk2
   have hs2 := hk2.size
   have hba2 := (Below.refl w2.heap.size w2).alloc (Nat.le_refl _) (.cells #[.int .u8 0, .int .u8 0, .int .u8 0, .int .u8 0, .int .u8 0, .int .u8 0, .int .u8 0, .int .u8 0, .int .u8 0, .int .u8 0, .int .u8 0, .int .u8 0, .int .u8 0, .int .u8 0, .int .u8 0, .int .u8 0] 113)
   go_wp2_with (first
    | (refine wpList_load_bs rfl 113 (.tmp 22) rfl gx 0 rfl Y hBx2 _ Tryz.underlying113 rfl (by rw [info_16u8, hl16]) ?_)
    | (refine wpList_store_all rfl 113 (.tmp 8) (.tmp 23) rfl w2.heap.size (byteCells Y) rfl rfl 113 #[.int .u8 0, .int .u8 0, .int .u8 0, .int .u8 0, .int .u8 0, .int .u8 0, .int .u8 0, .int .u8 0, .int .u8 0, .int .u8 0, .int .u8 0, .int .u8 0, .int .u8 0, .int .u8 0, .int .u8 0, .int .u8 0] (Blk.new w2 _ _) (by rw [info_16u8, hbs]) (by rw [hbs]; rfl) hone ?_; intro w3 hB3 hO3; have hb3 := hO3.below hba2 (Nat.le_refl _))
    | (refine wpList_load_row rfl 113 (.tmp 8) rfl w2.heap.size rfl 113 (byteCells Y) (0,0) _ hB3 Tryz.underlying113 rfl (by rw [info_16u8, hbs]) ?_))
   have hR3 := hR2.below hb3 hR2.lt
   have hT3 : TapeAt w3 tp tb D := hT2.below hb3
   have hk3 := hk12.trans (Keep.ofBelow hb3)
   have hs3 := hb3.size
   refine (HTY.out _ hk3).mono ?_
   rintro e w4 ⟨rfl, hb4⟩
   have hR4 := hR3.below hb4 hR3.lt
   have hB4 := hB3.below hb4 hB3.lt
   have hT4 : TapeAt w4 tp tb D := hT3.below hb4
   have hk4 := hk3.trans (Keep.ofBelow hb4)
   have hr4 := hR4.lt
   by_cases heq : tq = Y
   ·
    have hde : decide (tq = Y) = true := decide_eq_true heq
    rw [hde]
    have HRR := Lib.hid (show drawN tq kk D = res from by have h := HR.out; rwa [if_pos heq] at h)
    have HEQ := Lib.hid heq; clear heq hde
    go_wp2_with fail
    go_roundg kk
    case measure => omega
    case rel => exact ⟨D, by omega, by omega, bD, HRR.out, hT4, hk4, hR4⟩
   ·
    have hde : decide (tq = Y) = false := decide_eq_false heq
    rw [hde]
    obtain rfl : some (Y, D) = res := by have h := HR.out; rwa [if_neg heq] at h
    clear HR heq hde
    go_wp2_with (first
     | (refine wpList_load_row rfl 113 (.tmp 8) rfl w2.heap.size rfl 113 (byteCells Y) (0,0) _ hB4 Tryz.underlying113 rfl (by rw [info_16u8, hbs]) ?_)
     | (refine wpList_store_all rfl 113 (.tmp 4) (.tmp 28) rfl w.heap.size (byteCells Y) rfl rfl 113 #[.int .u8 0, .int .u8 0, .int .u8 0, .int .u8 0, .int .u8 0, .int .u8 0, .int .u8 0, .int .u8 0, .int .u8 0, .int .u8 0, .int .u8 0, .int .u8 0, .int .u8 0, .int .u8 0, .int .u8 0, .int .u8 0] hR4 (by rw [info_16u8, hbs]) (by rw [hbs]; rfl) hone ?_; intro w5 hB5 hO5)
     | (refine bodyPost_ret (results_cell2 rfl _ _ w.heap.size 113 _ _ rfl hB5 Tryz.underlying113 rfl (by rw [info_16u8, hbs])) rfl ?_))
    exact ⟨hO5.os.trans hk4.os, hO5.tape.trans hk4.tape, hO5.output.trans hk4.output, by have := hk4.size; have := hO5.size; omega, fun i hi hn => (hO5.block i (by omega)).trans (hk4.block i hi hn)⟩
end Go.Proofs.YthodpjcdmdbnoaaGreatDoor
