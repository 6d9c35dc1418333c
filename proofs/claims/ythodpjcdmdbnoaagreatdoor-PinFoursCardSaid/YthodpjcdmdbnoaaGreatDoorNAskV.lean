/- block.Book's ask, of a book with one row. -/
import Derived.Test.YthodpjcdmdbnoaaGreatDoorNTU
import Derived.Test.YthodpjcdmdbnoaaGreatDoorNAskE
namespace Go.Proofs.YthodpjcdmdbnoaaGreatDoor
open Go Go.RowKit Pr

/-- what a book of one row answers: fr to tq -/
def askN (fr tq X : List Nat) (n : Nat) (T : List Nat) : Option (List Nat) := if fr = X then some tq else (drawN tq n T).map (·.1)
/-- all but the book, its tape and its rows is as it was -/
structure Fr3 (x y z : Nat) (w w' : World) : Prop where
 os : w'.os = w.os
 tape : w'.tape = w.tape
 output : w'.output = w.output
 size : w.heap.size ≤ w'.heap.size
 block : ∀ k, k < w.heap.size → k ≠ x → k ≠ y → k ≠ z → w'.heap[k]? = w.heap[k]?
theorem Keep.fr3 {x y z : Nat} {w w' : World} (h : Keep y w w') : Fr3 x y z w w' := ⟨h.os, h.tape, h.output, h.size, fun k h1 _ h3 _ => h.block k h1 h3⟩
theorem fr3_below {x y z : Nat} {w w' : World} (h : Below w.heap.size w w') : Fr3 x y z w w' := ⟨h.os, h.tape, h.output, h.size, fun k h1 _ _ _ => h.block k h1⟩
theorem Fr3.below {x y z B : Nat} {w a b : World} (h : Fr3 x y z w a) (hb : Below B a b) (hB : w.heap.size ≤ B) : Fr3 x y z w b := ⟨hb.os.trans h.os, hb.tape.trans h.tape, hb.output.trans h.output, Nat.le_trans h.size hb.size, fun k h1 h2 h3 h4 => (hb.block k (by omega)).trans (h.block k h1 h2 h3 h4)⟩
theorem Fr3.only {x y z g : Nat} {w a b : World} (h : Fr3 x y z w a) (ho : Only g a b) (hg : w.heap.size ≤ g ∨ g = x ∨ g = y ∨ g = z) : Fr3 x y z w b := ⟨ho.os.trans h.os, ho.tape.trans h.tape, ho.output.trans h.output, by have := h.size; have := ho.size; omega, fun k h1 h2 h3 h4 => (ho.block k (by omega)).trans (h.block k h1 h2 h3 h4)⟩
theorem Fr3.grown {x y z : Nat} {w a b : World} {row : Option Nat} (h : Fr3 x y z w a) (hg : a.grownBy b row) (hr : ∀ k, row = some k → w.heap.size ≤ k ∨ k = x ∨ k = y ∨ k = z) : Fr3 x y z w b := ⟨hg.os.trans h.os, hg.tape.trans h.tape, hg.output.trans h.output, Nat.le_trans h.size hg.size, fun k h1 h2 h3 h4 => (hg.block k (Nat.lt_of_lt_of_le h1 h.size) (fun e => by have := hr k e.symm; omega)).trans (h.block k h1 h2 h3 h4)⟩
theorem ownsRow_same {w w' : World} {base e k n : Nat} {g n' c : Nat} {xs : List Value} (h : w.ownsRow base e k (.slice (some ⟨g, 0, none⟩) n' c) n xs) (h1 : w'.heap[g]? = w.heap[g]?) : w'.ownsRow base e k (.slice (some ⟨g, 0, none⟩) n' c) n xs := by
 refine ⟨h.1, ?_⟩
 rcases h.2 with ⟨h0, _⟩ | ⟨g', cap, cur, e', hb, hB, h2⟩
 ·
  cases h0
 ·
  have eg : g = g' := by injection e' with e' _ _; injection e' with e'; injection e' with e'
  subst eg
  exact .inr ⟨g, cap, cur, e', hb, h1.trans hB, h2⟩
theorem RowB.of {w : World} {base gr cr : Nat} {key : ByteArray} {I O : List Nat} (h : w.ownsRow base 178 33 (.slice (some ⟨gr, 0, none⟩) 1 cr) 1 (rowC key I O).toList) : RowB w gr key I O := by
 rcases h.2 with ⟨_, h0⟩ | ⟨g, cap, cur, e, _, hB, _, _, _, ht⟩
 ·
  omega
 ·
  injection e with e _ _
  injection e with e
  injection e with e
  subst e
  intro j v hv
  rw [← ht, List.getElem?_take] at hv
  by_cases hj : j < 1 * 33
  ·
   rw [if_pos hj, Array.getElem?_toList] at hv
   rw [Nat.zero_add]
   exact (Blk.cell (hB : Blk w gr 178 cur) j).trans hv
  ·
   rw [if_neg hj] at hv; cases hv

set_option maxHeartbeats 8000000 in
set_option maxRecDepth 100000 in
theorem ask1_any (n : Nat) (T : List Nat) (hn : T.length ≤ n) (hm : n ≤ 100000) (bT : Byt T) (bp tp tb gr cr : Nat) (key : ByteArray) (I O X : List Nat) (hI : I.length = 16) (hO : O.length = 16) (hX : X.length = 16) (bI : Byt I) (bO : Byt O) (bX : Byt X) (back : Bool) (w : World)
    (hB : Blk w bp 65 #[.slice (some ⟨gr, 0, none⟩) 1 cr, .pointer (some ⟨tp, 0, none⟩)]) (hown : w.ownsRow 0 178 33 (.slice (some ⟨gr, 0, none⟩) 1 cr) 1 (rowC key I O).toList) (hTp : TapeAt w tp tb T) (hne : bp ≠ tp) (hne2 : gr ≠ tp) (hne3 : gr ≠ bp) :
    Calls Tryz.prog 82 #[.pointer (some ⟨bp, 0, none⟩), .string key, .agg (byteCells X), .bool back] w fun e w' =>
     (match askN (if back then O else I) (if back then I else O) X n T with
     | some y => e = .returned (.tuple #[.agg (byteCells y), .nilIface])
     | none => ∃ v k, e = .returned (.tuple #[.agg (byteCells (List.replicate 16 0)), v]) ∧ ErIs w' w.heap.size v (.fa k 13)) ∧ Fr3 bp tp gr w w' := by
 have hmf : ∀ (fn : Fn) (first cap : Array Value) (W : World), (Instr.makeFunc fn first cap).run Tryz.prog W = .ok (.func fn first cap) W := fun _ _ _ _ => rfl
 have hsf : ∀ (a : Addr) (fn : Fn) (fs cs : Array Value) (W : World), (store a (.func fn fs cs)).run Tryz.prog W = stored Tryz.prog W a (.func fn fs cs) .plain := fun a fn fs cs W => run_store _ W a _ .plain rfl
 have hR := RowB.of hown
 have hRl := hR.lt
 have htl := hTp.lt.1
 have hbl := hB.lt
 have HDR := Lib.hid (fun gs gk gb gp W hA hT => draw1_any n T hn hm bT key I O hI hO bI bO back gs gk gb gp bp tp tb gr cr W hA hT)
 have HSD := Lib.hid (fun gb W h => sides_any key I O hI hO back gb W h)
 have HEQ := Lib.hid (fun W => eq16 (if back then O else I) X (by split <;> assumption) hX (by split <;> assumption) bX W)
 have hrs := rowC_size key I O hI hO
 have hro := rowC_one key I O
 have hrk := rowC_key key I O
 have hTl : (if back then I else O).length = 16 := by split <;> assumption
 have hFl : (if back then O else I).length = 16 := by split <;> assumption
 have HRW := Lib.hid (fun W (h : Below w.heap.size w W) => (hR.below h hRl : RowB W gr key I O))
 have HRB := Lib.hid hR; clear hR
 have HOWN := Lib.hid hown; clear hown
 unfold RowB at HRW
 generalize (if back then I else O) = tq at *
 generalize (if back then O else I) = fr at *
 generalize hrow : rowC key I O = row at *
 have HROW := Lib.hid hrow; clear hrow
 have hrl : row.toList.length = 33 := by rw [Array.length_toList, hrs]
 have hTs : (byteCells tq).size = 16 := by rw [size_byteCells, hTl]
 have hFs : (byteCells fr).size = 16 := by rw [size_byteCells, hFl]
 have hTo : (byteCells tq).all (·.oneCell') = true := bytes_one _
 have hFo : (byteCells fr).all (·.oneCell') = true := bytes_one _
 have hxs : (byteCells X).size = 16 := by rw [size_byteCells, hX]
 have hxo : (byteCells X).all (·.oneCell') = true := bytes_one _
 obtain ⟨b, hb⟩ : ∃ b, decide (fr = X) = b := ⟨_, rfl⟩
 rw [hb] at HEQ
 have HB := Lib.hid hb; clear hb
 obtain ⟨dr, hdr⟩ : ∃ r, drawN tq n T = r := ⟨_, rfl⟩
 rw [hdr] at HDR
 have hans : askN fr tq X n T = bif b then some tq else dr.map (·.1) := by
  unfold askN
  rw [hdr, ← HB.out]
  by_cases h : fr = X
  ·
   rw [if_pos h, decide_eq_true h]; rfl
  ·
   rw [if_neg h, decide_eq_false h]; rfl
 rw [hans]
 have hyl : ∀ y D, dr = some (y, D) → y.length = 16 := fun y D h => drawN_len (hdr.trans h)
 clear hdr hans
 obtain ⟨cx, hcx⟩ : ∃ c, byteCells X = c := ⟨_, rfl⟩
 rw [hcx] at hxs hxo HEQ ⊢
 have HCX := Lib.hid hcx; clear hcx
 obtain ⟨cT, hcT⟩ : ∃ c, byteCells tq = c := ⟨_, rfl⟩
 rw [hcT] at hTs hTo HSD
 have HCT := Lib.hid hcT; clear hcT
 obtain ⟨cF, hcF⟩ : ∃ c, byteCells fr = c := ⟨_, rfl⟩
 rw [hcF] at hFs hFo HSD HEQ
 have HCF := Lib.hid hcF; clear hcF
 have hkk : (key.toList == key.toList) = true := by simp
 obtain ⟨wa, hwa⟩ : ∃ x, w.alloc (.cells #[.pointer (some ⟨bp, 0, none⟩)] 34) = x := ⟨_, rfl⟩
 have zwa : wa.heap.size = w.heap.size + 1 := by rw [← hwa]; simp
 have bwa : Blk wa (w.heap.size) 34 #[.pointer (some ⟨bp, 0, none⟩)] := by have := Blk.new w 34 #[.pointer (some ⟨bp, 0, none⟩)]; rw [hwa] at this; exact this
 have kwa : Below w.heap.size w wa := by rw [← hwa]; exact (Below.refl _ _).alloc (by omega) _
 obtain ⟨wb, hwb⟩ : ∃ x, wa.alloc (.cells #[.string key] 9) = x := ⟨_, rfl⟩
 have zwb : wb.heap.size = w.heap.size + 1 + 1 := by rw [← hwb]; simp [zwa]
 have bwb : Blk wb (w.heap.size + 1) 9 #[.string key] := by have := Blk.new wa 9 #[.string key]; rw [hwb, zwa] at this; exact this
 have kwb : Below w.heap.size w wb := by rw [← hwb]; exact kwa.alloc (by omega) _
 have bwawb : Blk wb (w.heap.size) 34 #[.pointer (some ⟨bp, 0, none⟩)] := by rw [← hwb]; exact bwa.alloc _
 obtain ⟨wc, hwc⟩ : ∃ x, wb.alloc (.cells cx 113) = x := ⟨_, rfl⟩
 have zwc : wc.heap.size = w.heap.size + 1 + 1 + 1 := by rw [← hwc]; simp [zwb]
 have bwc : Blk wc (w.heap.size + 1 + 1) 113 cx := by have := Blk.new wb 113 cx; rw [hwc, zwb] at this; exact this
 have kwc : Below w.heap.size w wc := by rw [← hwc]; exact kwb.alloc (by omega) _
 have bwawc : Blk wc (w.heap.size) 34 #[.pointer (some ⟨bp, 0, none⟩)] := by rw [← hwc]; exact bwawb.alloc _
 have bwbwc : Blk wc (w.heap.size + 1) 9 #[.string key] := by rw [← hwc]; exact bwb.alloc _
 obtain ⟨wd, hwd⟩ : ∃ x, wc.alloc (.cells #[.bool back] 4) = x := ⟨_, rfl⟩
 have zwd : wd.heap.size = w.heap.size + 1 + 1 + 1 + 1 := by rw [← hwd]; simp [zwc]
 have bwd : Blk wd (w.heap.size + 1 + 1 + 1) 4 #[.bool back] := by have := Blk.new wc 4 #[.bool back]; rw [hwd, zwc] at this; exact this
 have kwd : Below w.heap.size w wd := by rw [← hwd]; exact kwc.alloc (by omega) _
 have bwawd : Blk wd (w.heap.size) 34 #[.pointer (some ⟨bp, 0, none⟩)] := by rw [← hwd]; exact bwawc.alloc _
 have bwbwd : Blk wd (w.heap.size + 1) 9 #[.string key] := by rw [← hwd]; exact bwbwc.alloc _
 have bwcwd : Blk wd (w.heap.size + 1 + 1) 113 cx := by rw [← hwd]; exact bwc.alloc _
 obtain ⟨we, hwe⟩ : ∃ x, wd.alloc (.cells #[.int .u8 0, .int .u8 0, .int .u8 0, .int .u8 0, .int .u8 0, .int .u8 0, .int .u8 0, .int .u8 0, .int .u8 0, .int .u8 0, .int .u8 0, .int .u8 0, .int .u8 0, .int .u8 0, .int .u8 0, .int .u8 0] 113) = x := ⟨_, rfl⟩
 have zwe : we.heap.size = w.heap.size + 1 + 1 + 1 + 1 + 1 := by rw [← hwe]; simp [zwd]
 have bwe : Blk we (w.heap.size + 1 + 1 + 1 + 1) 113 #[.int .u8 0, .int .u8 0, .int .u8 0, .int .u8 0, .int .u8 0, .int .u8 0, .int .u8 0, .int .u8 0, .int .u8 0, .int .u8 0, .int .u8 0, .int .u8 0, .int .u8 0, .int .u8 0, .int .u8 0, .int .u8 0] := by have := Blk.new wd 113 #[.int .u8 0, .int .u8 0, .int .u8 0, .int .u8 0, .int .u8 0, .int .u8 0, .int .u8 0, .int .u8 0, .int .u8 0, .int .u8 0, .int .u8 0, .int .u8 0, .int .u8 0, .int .u8 0, .int .u8 0, .int .u8 0]; rw [hwe, zwd] at this; exact this
 have kwe : Below w.heap.size w we := by rw [← hwe]; exact kwd.alloc (by omega) _
 have bwawe : Blk we (w.heap.size) 34 #[.pointer (some ⟨bp, 0, none⟩)] := by rw [← hwe]; exact bwawd.alloc _
 have bwbwe : Blk we (w.heap.size + 1) 9 #[.string key] := by rw [← hwe]; exact bwbwd.alloc _
 have bwcwe : Blk we (w.heap.size + 1 + 1) 113 cx := by rw [← hwe]; exact bwcwd.alloc _
 have bwdwe : Blk we (w.heap.size + 1 + 1 + 1) 4 #[.bool back] := by rw [← hwe]; exact bwd.alloc _
 obtain ⟨wf, hwf⟩ : ∃ x, we.alloc (.cells #[.nilFunc] 179) = x := ⟨_, rfl⟩
 have zwf : wf.heap.size = w.heap.size + 1 + 1 + 1 + 1 + 1 + 1 := by rw [← hwf]; simp [zwe]
 have bwf : Blk wf (w.heap.size + 1 + 1 + 1 + 1 + 1) 179 #[.nilFunc] := by have := Blk.new we 179 #[.nilFunc]; rw [hwf, zwe] at this; exact this
 have kwf : Below w.heap.size w wf := by rw [← hwf]; exact kwe.alloc (by omega) _
 have bwawf : Blk wf (w.heap.size) 34 #[.pointer (some ⟨bp, 0, none⟩)] := by rw [← hwf]; exact bwawe.alloc _
 have bwbwf : Blk wf (w.heap.size + 1) 9 #[.string key] := by rw [← hwf]; exact bwbwe.alloc _
 have bwcwf : Blk wf (w.heap.size + 1 + 1) 113 cx := by rw [← hwf]; exact bwcwe.alloc _
 have bwdwf : Blk wf (w.heap.size + 1 + 1 + 1) 4 #[.bool back] := by rw [← hwf]; exact bwdwe.alloc _
 have bwewf : Blk wf (w.heap.size + 1 + 1 + 1 + 1) 113 #[.int .u8 0, .int .u8 0, .int .u8 0, .int .u8 0, .int .u8 0, .int .u8 0, .int .u8 0, .int .u8 0, .int .u8 0, .int .u8 0, .int .u8 0, .int .u8 0, .int .u8 0, .int .u8 0, .int .u8 0, .int .u8 0] := by rw [← hwf]; exact bwe.alloc _
 have c5 := bwf.cell 0
 have f5 := bwf.frozen 0
 obtain ⟨wg, hwg⟩ : ∃ x, wf.setCell ⟨w.heap.size + 1 + 1 + 1 + 1 + 1, 0, none⟩ (.func (.func 102) #[] #[.pointer (some ⟨w.heap.size + 1 + 1 + 1, 0, none⟩)]) = x := ⟨_, rfl⟩
 have kwg : Below w.heap.size w wg := by rw [← hwg]; exact below_setCell (Below.refl _ _) kwf (Nat.le_refl _) _ (by show w.heap.size ≤ w.heap.size + 1 + 1 + 1 + 1 + 1; omega) _
 have zwg : wg.heap.size = w.heap.size + 1 + 1 + 1 + 1 + 1 + 1 := by rw [← hwg]; simp [World.setCell, zwf]
 have g0 : Blk wg (w.heap.size) 34 #[.pointer (some ⟨bp, 0, none⟩)] := by rw [← hwg]; exact bwawf.far (by simp; omega) _
 have g1 : Blk wg (w.heap.size + 1) 9 #[.string key] := by rw [← hwg]; exact bwbwf.far (by simp) _
 have g2 : Blk wg (w.heap.size + 1 + 1) 113 cx := by rw [← hwg]; exact bwcwf.far (by simp) _
 have g3 : Blk wg (w.heap.size + 1 + 1 + 1) 4 #[.bool back] := by rw [← hwg]; exact bwdwf.far (by simp) _
 have g4 : Blk wg (w.heap.size + 1 + 1 + 1 + 1) 113 #[.int .u8 0, .int .u8 0, .int .u8 0, .int .u8 0, .int .u8 0, .int .u8 0, .int .u8 0, .int .u8 0, .int .u8 0, .int .u8 0, .int .u8 0, .int .u8 0, .int .u8 0, .int .u8 0, .int .u8 0, .int .u8 0] := by rw [← hwg]; exact bwewf.far (by simp) _
 have g5 : Blk wg (w.heap.size + 1 + 1 + 1 + 1 + 1) 179 #[.func (.func 102) #[] #[.pointer (some ⟨w.heap.size + 1 + 1 + 1, 0, none⟩)]] := by rw [← hwg]; exact bwf.set_ 0 _
 clear bwawb bwawc bwbwc bwawd bwbwd bwcwd bwawe bwbwe bwcwe bwdwe bwawf bwbwf bwcwf bwdwf bwewf bwa bwb bwc bwd bwe bwf
 have hBg := hB.below kwg hbl
 have hTg := hTp.below kwg
 have hRg := HRW.out wg kwg
 have d0 := g0.cell 0
 have d1 := hBg.cell 0
 have d2 := g5.cell 0
 have d3 := g3.cell 0
 have d4 := g1.cell 0
 obtain ⟨wn, hwn⟩ : ∃ x, wg.alloc (.cells #[.string ⟨#[]⟩, .int .u8 0, .int .u8 0, .int .u8 0, .int .u8 0, .int .u8 0, .int .u8 0, .int .u8 0, .int .u8 0, .int .u8 0, .int .u8 0, .int .u8 0, .int .u8 0, .int .u8 0, .int .u8 0, .int .u8 0, .int .u8 0, .int .u8 0, .int .u8 0, .int .u8 0, .int .u8 0, .int .u8 0, .int .u8 0, .int .u8 0, .int .u8 0, .int .u8 0, .int .u8 0, .int .u8 0, .int .u8 0, .int .u8 0, .int .u8 0, .int .u8 0, .int .u8 0] 178) = x := ⟨_, rfl⟩
 have bwn : Blk wn (w.heap.size + 1 + 1 + 1 + 1 + 1 + 1) 178 #[.string ⟨#[]⟩, .int .u8 0, .int .u8 0, .int .u8 0, .int .u8 0, .int .u8 0, .int .u8 0, .int .u8 0, .int .u8 0, .int .u8 0, .int .u8 0, .int .u8 0, .int .u8 0, .int .u8 0, .int .u8 0, .int .u8 0, .int .u8 0, .int .u8 0, .int .u8 0, .int .u8 0, .int .u8 0, .int .u8 0, .int .u8 0, .int .u8 0, .int .u8 0, .int .u8 0, .int .u8 0, .int .u8 0, .int .u8 0, .int .u8 0, .int .u8 0, .int .u8 0, .int .u8 0] := by have := Blk.new wg 178 #[.string ⟨#[]⟩, .int .u8 0, .int .u8 0, .int .u8 0, .int .u8 0, .int .u8 0, .int .u8 0, .int .u8 0, .int .u8 0, .int .u8 0, .int .u8 0, .int .u8 0, .int .u8 0, .int .u8 0, .int .u8 0, .int .u8 0, .int .u8 0, .int .u8 0, .int .u8 0, .int .u8 0, .int .u8 0, .int .u8 0, .int .u8 0, .int .u8 0, .int .u8 0, .int .u8 0, .int .u8 0, .int .u8 0, .int .u8 0, .int .u8 0, .int .u8 0, .int .u8 0, .int .u8 0]; rw [hwn, zwg] at this; exact this
 have kwn : Below wg.heap.size wg wn := by rw [← hwn]; exact (Below.refl _ _).alloc (Nat.le_refl _) _
 have zwn := kwn.size
 go_enter Tryz.func82, Tryz.ntmps82
 go_wp2
 refine wp_loop_rounds 2 ?_
 rw [rounds_succ]
 go_wp2_with (first
  | (refine wpList_load_mid rfl 178 (.tmp 26) rfl gr 0 rfl row.toList _ hRg Tryz.underlying178 rfl (by rw [info_rowB, hrl]) ?_; rw [Array.toArray_toList])
  | (refine wpList_store_all rfl 178 (.tmp 12) (.tmp 27) rfl (w.heap.size + 1 + 1 + 1 + 1 + 1 + 1) row rfl rfl 178 #[.string ⟨#[]⟩, .int .u8 0, .int .u8 0, .int .u8 0, .int .u8 0, .int .u8 0, .int .u8 0, .int .u8 0, .int .u8 0, .int .u8 0, .int .u8 0, .int .u8 0, .int .u8 0, .int .u8 0, .int .u8 0, .int .u8 0, .int .u8 0, .int .u8 0, .int .u8 0, .int .u8 0, .int .u8 0, .int .u8 0, .int .u8 0, .int .u8 0, .int .u8 0, .int .u8 0, .int .u8 0, .int .u8 0, .int .u8 0, .int .u8 0, .int .u8 0, .int .u8 0, .int .u8 0] bwn (by rw [info_rowB, hrs]) (by rw [hrs]; rfl) hro ?_; intro wh hBh hOh; have hbwh := hOh.below kwn (by omega); have e2 := (g5.below hbwh (by omega)).cell 0; have e3 := (g3.below hbwh (by omega)).cell 0)
  | (refine wpList_load_row rfl 178 (.tmp 12) rfl (w.heap.size + 1 + 1 + 1 + 1 + 1 + 1) rfl 178 row (0,0) _ hBh Tryz.underlying178 rfl (by rw [info_rowB, hrs]) ?_))
 refine (HSD.out _ _ e3).mono ?_
 rintro e wi ⟨rfl, kwi⟩
 have kw : Below w.heap.size w wi := kwg.trans ((hbwh.mono kwg.size).trans (kwi.mono (by have := kwg.size; have := hbwh.size; omega)))
 have kgi : Below wg.heap.size wg wi := hbwh.trans (kwi.mono hbwh.size)
 obtain ⟨z, zwi⟩ : ∃ z, wi.heap.size = z := ⟨_, rfl⟩
 have hz7 : w.heap.size + 7 ≤ z := by have := kwi.size; have := hOh.size; have h1 := hBh.lt; omega
 obtain ⟨wj, hwj⟩ : ∃ x, wi.alloc (.cells #[.int .u8 0, .int .u8 0, .int .u8 0, .int .u8 0, .int .u8 0, .int .u8 0, .int .u8 0, .int .u8 0, .int .u8 0, .int .u8 0, .int .u8 0, .int .u8 0, .int .u8 0, .int .u8 0, .int .u8 0, .int .u8 0] 113) = x := ⟨_, rfl⟩
 have zwj : wj.heap.size = z + 1 := by rw [← hwj]; simp [zwi]
 have bwj : Blk wj z 113 #[.int .u8 0, .int .u8 0, .int .u8 0, .int .u8 0, .int .u8 0, .int .u8 0, .int .u8 0, .int .u8 0, .int .u8 0, .int .u8 0, .int .u8 0, .int .u8 0, .int .u8 0, .int .u8 0, .int .u8 0, .int .u8 0] := by have := Blk.new wi 113 #[.int .u8 0, .int .u8 0, .int .u8 0, .int .u8 0, .int .u8 0, .int .u8 0, .int .u8 0, .int .u8 0, .int .u8 0, .int .u8 0, .int .u8 0, .int .u8 0, .int .u8 0, .int .u8 0, .int .u8 0, .int .u8 0]; rw [hwj, zwi] at this; exact this
 obtain ⟨wk, hwk⟩ : ∃ x, wj.alloc (.cells #[.int .u8 0, .int .u8 0, .int .u8 0, .int .u8 0, .int .u8 0, .int .u8 0, .int .u8 0, .int .u8 0, .int .u8 0, .int .u8 0, .int .u8 0, .int .u8 0, .int .u8 0, .int .u8 0, .int .u8 0, .int .u8 0] 113) = x := ⟨_, rfl⟩
 have bwk : Blk wk (z + 1) 113 #[.int .u8 0, .int .u8 0, .int .u8 0, .int .u8 0, .int .u8 0, .int .u8 0, .int .u8 0, .int .u8 0, .int .u8 0, .int .u8 0, .int .u8 0, .int .u8 0, .int .u8 0, .int .u8 0, .int .u8 0, .int .u8 0] := by have := Blk.new wj 113 #[.int .u8 0, .int .u8 0, .int .u8 0, .int .u8 0, .int .u8 0, .int .u8 0, .int .u8 0, .int .u8 0, .int .u8 0, .int .u8 0, .int .u8 0, .int .u8 0, .int .u8 0, .int .u8 0, .int .u8 0, .int .u8 0]; rw [hwk, zwj] at this; exact this
 have bwjk : Blk wk z 113 #[.int .u8 0, .int .u8 0, .int .u8 0, .int .u8 0, .int .u8 0, .int .u8 0, .int .u8 0, .int .u8 0, .int .u8 0, .int .u8 0, .int .u8 0, .int .u8 0, .int .u8 0, .int .u8 0, .int .u8 0, .int .u8 0] := by rw [← hwk]; exact bwj.alloc _
 have kik : Below z wi wk := by rw [← hwk, ← hwj]; exact ((Below.refl _ _).alloc (by omega) _).alloc (by simp; omega) _
 clear bwj hwn hwg hwf hwe hwd hwc hwb hwa c5 f5 d0 d1 d2 d3 d4 e2 e3
 have m1 : Blk wi (w.heap.size + 1 + 1 + 1 + 1 + 1 + 1) 178 row := hBh.below kwi hBh.lt
 have m2 : Blk wi (w.heap.size + 1) 9 #[.string key] := g1.below kgi (by omega)
 have m3 : Blk wi (w.heap.size + 1 + 1) 113 cx := g2.below kgi (by omega)
 cases b
 rotate_left
 go_wp2_with (first
  | (refine wpList_store_all rfl 113 (.tmp 13) (.tmp 32) rfl z cF rfl rfl 113 #[.int .u8 0, .int .u8 0, .int .u8 0, .int .u8 0, .int .u8 0, .int .u8 0, .int .u8 0, .int .u8 0, .int .u8 0, .int .u8 0, .int .u8 0, .int .u8 0, .int .u8 0, .int .u8 0, .int .u8 0, .int .u8 0] bwjk (by rw [info_16u8, hFs]) (by rw [hFs]; rfl) hFo ?_; intro wl hBl hOl)
  | (refine wpList_store_all rfl 113 (.tmp 14) (.tmp 33) rfl (z + 1) cT rfl rfl 113 #[.int .u8 0, .int .u8 0, .int .u8 0, .int .u8 0, .int .u8 0, .int .u8 0, .int .u8 0, .int .u8 0, .int .u8 0, .int .u8 0, .int .u8 0, .int .u8 0, .int .u8 0, .int .u8 0, .int .u8 0, .int .u8 0] (bwk.only hOl (by omega)) (by rw [info_16u8, hTs]) (by rw [hTs]; rfl) hTo ?_; intro wm hBm hOm; have kim : Below z wi wm := hOm.below (hOl.below kik (by omega)) (by omega); have hBlm := hBl.only hOm (by omega); have n1 := m1.below kim (by omega); have n2 := m2.below kim (by omega); have n3 := m3.below kim (by omega); have q1 := n1.cell 0; rw [hrk] at q1; have q2 := n2.cell 0)
  | (refine wpList_load_rowG (by go_simp) 113 (.tmp 13) rfl z rfl 113 cF hBlm _ Tryz.underlying113 rfl (by rw [info_16u8, hFs]) ?_)
  | (refine wpList_load_rowG (by go_simp) 113 (.tmp 6) rfl (w.heap.size + 1 + 1) rfl 113 cx n3 _ Tryz.underlying113 rfl (by rw [info_16u8, hxs]) ?_)
  | (refine wpList_eql_rows (by go_simp) 113 113 (.tmp 39) (.tmp 40) rfl cF cx _ rfl rfl (HEQ.out wm) (by unfold eqGuard; go_simp; done) ?_)
  | (refine wpList_load_row rfl 113 (.tmp 14) rfl (z + 1) rfl 113 cT (0,0) _ hBm Tryz.underlying113 rfl (by rw [info_16u8, hTs]) ?_)
  | (refine wpList_store_all rfl 113 (.tmp 8) (.tmp 43) rfl (w.heap.size + 1 + 1 + 1 + 1) cT rfl rfl 113 #[.int .u8 0, .int .u8 0, .int .u8 0, .int .u8 0, .int .u8 0, .int .u8 0, .int .u8 0, .int .u8 0, .int .u8 0, .int .u8 0, .int .u8 0, .int .u8 0, .int .u8 0, .int .u8 0, .int .u8 0, .int .u8 0] (g4.below (kgi.trans (kim.mono (by have := kgi.size; omega))) (by omega)) (by rw [info_16u8, hTs]) (by rw [hTs]; rfl) hTo ?_; intro wq hBq hOq)
  | (refine bodyPost_ret (results_cell2 rfl _ _ (w.heap.size + 1 + 1 + 1 + 1) 113 _ _ rfl hBq Tryz.underlying113 rfl (by rw [info_16u8, hTs])) rfl ?_))
 exact ⟨HCT.out.symm, fr3_below (hOq.below (kw.trans (kim.mono (by omega))) (by omega))⟩
 go_wp2_with (first
  | (refine wpList_store_all rfl 113 (.tmp 13) (.tmp 32) rfl z cF rfl rfl 113 #[.int .u8 0, .int .u8 0, .int .u8 0, .int .u8 0, .int .u8 0, .int .u8 0, .int .u8 0, .int .u8 0, .int .u8 0, .int .u8 0, .int .u8 0, .int .u8 0, .int .u8 0, .int .u8 0, .int .u8 0, .int .u8 0] bwjk (by rw [info_16u8, hFs]) (by rw [hFs]; rfl) hFo ?_; intro wl hBl hOl)
  | (refine wpList_store_all rfl 113 (.tmp 14) (.tmp 33) rfl (z + 1) cT rfl rfl 113 #[.int .u8 0, .int .u8 0, .int .u8 0, .int .u8 0, .int .u8 0, .int .u8 0, .int .u8 0, .int .u8 0, .int .u8 0, .int .u8 0, .int .u8 0, .int .u8 0, .int .u8 0, .int .u8 0, .int .u8 0, .int .u8 0] (bwk.only hOl (by omega)) (by rw [info_16u8, hTs]) (by rw [hTs]; rfl) hTo ?_; intro wm hBm hOm; have kim : Below z wi wm := hOm.below (hOl.below kik (by omega)) (by omega); have hBlm := hBl.only hOm (by omega); have n1 := m1.below kim (by omega); have n2 := m2.below kim (by omega); have n3 := m3.below kim (by omega); have q1 := n1.cell 0; rw [hrk] at q1; have q2 := n2.cell 0)
  | (refine wpList_load_rowG (by go_simp) 113 (.tmp 13) rfl z rfl 113 cF hBlm _ Tryz.underlying113 rfl (by rw [info_16u8, hFs]) ?_)
  | (refine wpList_load_rowG (by go_simp) 113 (.tmp 6) rfl (w.heap.size + 1 + 1) rfl 113 cx n3 _ Tryz.underlying113 rfl (by rw [info_16u8, hxs]) ?_)
  | (refine wpList_eql_rows (by go_simp) 113 113 (.tmp 39) (.tmp 40) rfl cF cx _ rfl rfl (HEQ.out wm) (by unfold eqGuard; go_simp; done) ?_))
 rw [rounds_succ]
 have kwm : Below w.heap.size w wm := kw.trans (kim.mono (by omega))
 have kgm : Below wg.heap.size wg wm := kgi.trans (kim.mono (by have := kgi.size; omega))
 have g5m := g5.below kgm (by omega)
 have g3m := g3.below kgm (by omega)
 have g0m := g0.below kgm (by omega)
 have g4m := g4.below kgm (by omega)
 have hA : AskSt wm (w.heap.size + 1 + 1 + 1 + 1 + 1) (w.heap.size + 1) (w.heap.size + 1 + 1 + 1) w.heap.size bp tp gr cr key I O back := ⟨⟨g5m.cell 0, n2.cell 0, g3m.cell 0⟩, g0m.cell 0, hB.below kwm hbl, HRB.out.below kwm hRl, by omega, by omega, by omega, by omega, hne, hne2⟩
 have HA := Lib.hid hA; clear hA
 have hzm : w.heap.size + 9 ≤ wm.heap.size := by have := hBm.lt; omega
 have hTm := hTp.below kwm
 have x0 := g0m.cell 0
 have zwm := kwm.size
 clear g0 g1 g2 g3 g4 g5 hBg hTg hRg m1 m2 m3 hwj hwk bwk bwjk kik
 go_wp2_with fail
 refine (HDR.out _ _ _ _ _ HA.out hTm).mono ?_
 rintro e wo ⟨hres, hko⟩
 have o4 : Blk wo (w.heap.size + 1 + 1 + 1 + 1) 113 #[.int .u8 0, .int .u8 0, .int .u8 0, .int .u8 0, .int .u8 0, .int .u8 0, .int .u8 0, .int .u8 0, .int .u8 0, .int .u8 0, .int .u8 0, .int .u8 0, .int .u8 0, .int .u8 0, .int .u8 0, .int .u8 0] := (hko.block _ g4m.lt (by omega)).trans g4m
 have o0 : Blk wo w.heap.size 34 #[.pointer (some ⟨bp, 0, none⟩)] := (hko.block _ g0m.lt (by omega)).trans g0m
 have o1 : Blk wo (w.heap.size + 1) 9 #[.string key] := (hko.block _ n2.lt (by omega)).trans n2
 have o2 : Blk wo (w.heap.size + 1 + 1) 113 cx := (hko.block _ n3.lt (by omega)).trans n3
 have o3 : Blk wo (w.heap.size + 1 + 1 + 1) 4 #[.bool back] := (hko.block _ g3m.lt (by omega)).trans g3m
 have hkw : Keep tp w wo := (Keep.ofBelow kwm).trans hko
 obtain ⟨z2, zwo⟩ : ∃ z, wo.heap.size = z := ⟨_, rfl⟩
 have hz9 : w.heap.size + 9 ≤ z2 := by have := hko.size; have := hBm.lt; omega
 obtain ⟨wp, hwp⟩ : ∃ x, wo.alloc (.cells #[.int .u8 0, .int .u8 0, .int .u8 0, .int .u8 0, .int .u8 0, .int .u8 0, .int .u8 0, .int .u8 0, .int .u8 0, .int .u8 0, .int .u8 0, .int .u8 0, .int .u8 0, .int .u8 0, .int .u8 0, .int .u8 0] 113) = x := ⟨_, rfl⟩
 have bwp : Blk wp z2 113 #[.int .u8 0, .int .u8 0, .int .u8 0, .int .u8 0, .int .u8 0, .int .u8 0, .int .u8 0, .int .u8 0, .int .u8 0, .int .u8 0, .int .u8 0, .int .u8 0, .int .u8 0, .int .u8 0, .int .u8 0, .int .u8 0] := by have := Blk.new wo 113 #[.int .u8 0, .int .u8 0, .int .u8 0, .int .u8 0, .int .u8 0, .int .u8 0, .int .u8 0, .int .u8 0, .int .u8 0, .int .u8 0, .int .u8 0, .int .u8 0, .int .u8 0, .int .u8 0, .int .u8 0, .int .u8 0]; rw [hwp, zwo] at this; exact this
 have kop : Below z2 wo wp := by rw [← hwp, ← zwo]; exact (Below.refl _ _).alloc (Nat.le_refl _) _
 clear g5m g3m g0m g4m n1 n2 n3 x0 q1 q2 hBm hOm hBl hOl hBlm hTm hBh hOh hbwh kwi kwn
 rcases dr with _ | ⟨y, D⟩
 ·
  obtain ⟨v, k, rfl, gE, rfl, hgE, hFE⟩ := hres
  go_wp2_with (first
   | (refine wpList_store_all rfl 113 (.tmp 15) (.tmp 49) rfl z2 #[.int .u8 0, .int .u8 0, .int .u8 0, .int .u8 0, .int .u8 0, .int .u8 0, .int .u8 0, .int .u8 0, .int .u8 0, .int .u8 0, .int .u8 0, .int .u8 0, .int .u8 0, .int .u8 0, .int .u8 0, .int .u8 0] rfl rfl 113 #[.int .u8 0, .int .u8 0, .int .u8 0, .int .u8 0, .int .u8 0, .int .u8 0, .int .u8 0, .int .u8 0, .int .u8 0, .int .u8 0, .int .u8 0, .int .u8 0, .int .u8 0, .int .u8 0, .int .u8 0, .int .u8 0] bwp (by rw [info_16u8]; rfl) rfl (by simp [Value.oneCell']) ?_; intro wq hBq hOq)
   | (refine wpList_load_row rfl 113 (.tmp 15) rfl z2 rfl 113 #[.int .u8 0, .int .u8 0, .int .u8 0, .int .u8 0, .int .u8 0, .int .u8 0, .int .u8 0, .int .u8 0, .int .u8 0, .int .u8 0, .int .u8 0, .int .u8 0, .int .u8 0, .int .u8 0, .int .u8 0, .int .u8 0] (0,0) _ hBq Tryz.underlying113 rfl (by rw [info_16u8]; rfl) ?_)
   | (refine wpList_store_all rfl 113 (.tmp 8) (.tmp 53) rfl (w.heap.size + 1 + 1 + 1 + 1) #[.int .u8 0, .int .u8 0, .int .u8 0, .int .u8 0, .int .u8 0, .int .u8 0, .int .u8 0, .int .u8 0, .int .u8 0, .int .u8 0, .int .u8 0, .int .u8 0, .int .u8 0, .int .u8 0, .int .u8 0, .int .u8 0] rfl rfl 113 #[.int .u8 0, .int .u8 0, .int .u8 0, .int .u8 0, .int .u8 0, .int .u8 0, .int .u8 0, .int .u8 0, .int .u8 0, .int .u8 0, .int .u8 0, .int .u8 0, .int .u8 0, .int .u8 0, .int .u8 0, .int .u8 0] ((o4.below kop (by omega)).only hOq (by omega)) (by rw [info_16u8]; rfl) rfl (by simp [Value.oneCell']) ?_; intro wr hBr hOr)
   | (refine bodyPost_ret (results_cell2 rfl _ _ (w.heap.size + 1 + 1 + 1 + 1) 113 _ _ rfl hBr Tryz.underlying113 rfl (by rw [info_16u8]; rfl)) rfl ?_))
  have hFl := hFE.lt
  exact ⟨⟨_, ⟨rfl, rfl⟩, _, gE, rfl, by omega, ((hFE.below kop (by omega)).only hOq (by omega)).only hOr (by omega)⟩, ((hkw.fr3.below kop (by omega)).only hOq (.inl (by omega))).only hOr (.inl (by omega))⟩
 ·
  have hyl := hyl y D rfl
  obtain rfl : e = _ := hres
  have hys : (byteCells y).size = 16 := by rw [size_byteCells, hyl]
  have hyo : (byteCells y).all (·.oneCell') = true := bytes_one _
  obtain ⟨cy, hcy⟩ : ∃ c, byteCells y = c := ⟨_, rfl⟩
  rw [hcy] at hys hyo ⊢
  have HCY := Lib.hid hcy; clear hcy
  have hrow1 := build_row (.string key) cx cy hxs hys
  have hrsz1 := build_size (.string key) cx hxs
  have hrow2 := build_row (.string key) cy cx hys hxs
  have hrsz2 := build_size (.string key) cy hys
  have hr1s : (#[Value.string key] ++ (cx ++ cy)).size = 33 := by rw [Array.size_append, Array.size_append, hxs, hys]; rfl
  have hr2s : (#[Value.string key] ++ (cy ++ cx)).size = 33 := by rw [Array.size_append, Array.size_append, hxs, hys]; rfl
  have hr1o : (#[Value.string key] ++ (cx ++ cy)).all (·.oneCell') = true := by rw [Array.all_append, Array.all_append, hxo, hyo]; simp [Value.oneCell']
  have hr2o : (#[Value.string key] ++ (cy ++ cx)).all (·.oneCell') = true := by rw [Array.all_append, Array.all_append, hxo, hyo]; simp [Value.oneCell']
  have x1 := o1.below kop (by omega)
  have x2 := o2.below kop (by omega)
  have x3 := o3.below kop (by omega)
  have x0 := o0.below kop (by omega)
  have x4 := o4.below kop (by omega)
  have xBo : Blk wo bp 65 #[.slice (some ⟨gr, 0, none⟩) 1 cr, .pointer (some ⟨tp, 0, none⟩)] := (hko.block _ (by omega) hne).trans (hB.below kwm hbl)
  have xB := xBo.below kop (by omega)
  have xO : wp.ownsRow 0 178 33 (.slice (some ⟨gr, 0, none⟩) 1 cr) 1 row.toList := ownsRow_same (ownsRow_same (ownsRow_same HOWN.out (kwm.block _ hRl)) (hko.block _ (by omega) hne2)) (kop.block _ (by omega))
  have hF0 : Fr3 bp tp gr w wp := hkw.fr3.below kop (by omega)
  cases back
  rotate_left
  focus
   go_wp2_with (first
    | (refine wpList_store_all rfl 113 (.tmp 15) (.tmp 49) rfl z2 cy rfl rfl 113 #[.int .u8 0, .int .u8 0, .int .u8 0, .int .u8 0, .int .u8 0, .int .u8 0, .int .u8 0, .int .u8 0, .int .u8 0, .int .u8 0, .int .u8 0, .int .u8 0, .int .u8 0, .int .u8 0, .int .u8 0, .int .u8 0] bwp (by rw [info_16u8, hys]) (by rw [hys]; rfl) hyo ?_; intro wq hBq hOq; have y0 := x0.only hOq (by omega); have y1 := x1.only hOq (by omega); have y2 := x2.only hOq (by omega); have y3 := x3.only hOq (by omega); have y4 := x4.only hOq (by omega); have yB := xB.only hOq (by omega); have c1 := y1.cell 0; have c3 := y3.cell 0; obtain ⟨z3, zwq⟩ : ∃ z, wq.heap.size = z := ⟨_, rfl⟩; obtain ⟨ws, hws⟩ : ∃ x, wq.alloc (.cells #[.string ⟨#[]⟩, .int .u8 0, .int .u8 0, .int .u8 0, .int .u8 0, .int .u8 0, .int .u8 0, .int .u8 0, .int .u8 0, .int .u8 0, .int .u8 0, .int .u8 0, .int .u8 0, .int .u8 0, .int .u8 0, .int .u8 0, .int .u8 0, .int .u8 0, .int .u8 0, .int .u8 0, .int .u8 0, .int .u8 0, .int .u8 0, .int .u8 0, .int .u8 0, .int .u8 0, .int .u8 0, .int .u8 0, .int .u8 0, .int .u8 0, .int .u8 0, .int .u8 0, .int .u8 0] 178) = x := ⟨_, rfl⟩; have bws : Blk ws z3 178 #[.string ⟨#[]⟩, .int .u8 0, .int .u8 0, .int .u8 0, .int .u8 0, .int .u8 0, .int .u8 0, .int .u8 0, .int .u8 0, .int .u8 0, .int .u8 0, .int .u8 0, .int .u8 0, .int .u8 0, .int .u8 0, .int .u8 0, .int .u8 0, .int .u8 0, .int .u8 0, .int .u8 0, .int .u8 0, .int .u8 0, .int .u8 0, .int .u8 0, .int .u8 0, .int .u8 0, .int .u8 0, .int .u8 0, .int .u8 0, .int .u8 0, .int .u8 0, .int .u8 0, .int .u8 0] := (by have := Blk.new wq 178 #[.string ⟨#[]⟩, .int .u8 0, .int .u8 0, .int .u8 0, .int .u8 0, .int .u8 0, .int .u8 0, .int .u8 0, .int .u8 0, .int .u8 0, .int .u8 0, .int .u8 0, .int .u8 0, .int .u8 0, .int .u8 0, .int .u8 0, .int .u8 0, .int .u8 0, .int .u8 0, .int .u8 0, .int .u8 0, .int .u8 0, .int .u8 0, .int .u8 0, .int .u8 0, .int .u8 0, .int .u8 0, .int .u8 0, .int .u8 0, .int .u8 0, .int .u8 0, .int .u8 0, .int .u8 0]; rw [hws, zwq] at this; exact this); have kqs : Below z3 wq ws := (by rw [← hws, ← zwq]; exact (Below.refl _ _).alloc (Nat.le_refl _) _); have hz23 : z2 < z3 := (by have := hBq.lt; omega))
    | (refine wpList_load_row rfl 113 (.tmp 6) rfl (w.heap.size + 1 + 1) rfl 113 cx (0,0) _ y2 Tryz.underlying113 rfl (by rw [info_16u8, hxs]) ?_)
    | (refine wpList_load_row rfl 113 (.tmp 15) rfl z2 rfl 113 cy (0,0) _ hBq Tryz.underlying113 rfl (by rw [info_16u8, hys]) ?_)
    | (refine wpList_store_all rfl 178 (.tmp 17) (.tmp 58) rfl z3 (#[Value.string key] ++ (cx ++ cy)) rfl (by rfl) 178 #[.string ⟨#[]⟩, .int .u8 0, .int .u8 0, .int .u8 0, .int .u8 0, .int .u8 0, .int .u8 0, .int .u8 0, .int .u8 0, .int .u8 0, .int .u8 0, .int .u8 0, .int .u8 0, .int .u8 0, .int .u8 0, .int .u8 0, .int .u8 0, .int .u8 0, .int .u8 0, .int .u8 0, .int .u8 0, .int .u8 0, .int .u8 0, .int .u8 0, .int .u8 0, .int .u8 0, .int .u8 0, .int .u8 0, .int .u8 0, .int .u8 0, .int .u8 0, .int .u8 0, .int .u8 0] bws (by rw [info_rowB, hr1s]) (by rw [hr1s]; rfl) hr1o ?_; intro wt hBt hOt; have kwt : Below z3 wq wt := hOt.below kqs (Nat.le_refl _); have t3 := (y3.below kwt (by omega)).cell 0; have t1 := (y1.below kwt (by omega)).cell 0)
    | (refine wpList_load_row rfl 113 (.tmp 15) rfl z2 rfl 113 cy (0,0) _ (hBq.below kwt (by omega)) Tryz.underlying113 rfl (by rw [info_16u8, hys]) ?_)
    | (refine wpList_load_row rfl 113 (.tmp 6) rfl (w.heap.size + 1 + 1) rfl 113 cx (0,0) _ (y2.below kwt (by omega)) Tryz.underlying113 rfl (by rw [info_16u8, hxs]) ?_)
    | (refine wpList_store_all rfl 178 (.tmp 17) (.tmp 63) rfl z3 (#[Value.string key] ++ (cy ++ cx)) rfl (by rfl) 178 (#[Value.string key] ++ (cx ++ cy)) hBt (by rw [info_rowB, hr2s]) (by rw [hr2s, hr1s]) hr2o ?_; intro wu hBu hOu; have kwu : Below z3 wq wu := hOu.below kwt (Nat.le_refl _)))
   obtain ⟨rx, hrx⟩ : ∃ r, #[Value.string key] ++ (cy ++ cx) = r := ⟨_, rfl⟩
   rw [hrx] at hBu hr2s hr2o
   have hrs5 := hr2s
   have hro5 := hr2o
   clear hrx hr1s hr1o hr2s hr2o hBt hOt hOu kwt t1 t3
  rotate_left
  focus
   go_wp2_with (first
    | (refine wpList_store_all rfl 113 (.tmp 15) (.tmp 49) rfl z2 cy rfl rfl 113 #[.int .u8 0, .int .u8 0, .int .u8 0, .int .u8 0, .int .u8 0, .int .u8 0, .int .u8 0, .int .u8 0, .int .u8 0, .int .u8 0, .int .u8 0, .int .u8 0, .int .u8 0, .int .u8 0, .int .u8 0, .int .u8 0] bwp (by rw [info_16u8, hys]) (by rw [hys]; rfl) hyo ?_; intro wq hBq hOq; have y0 := x0.only hOq (by omega); have y1 := x1.only hOq (by omega); have y2 := x2.only hOq (by omega); have y3 := x3.only hOq (by omega); have y4 := x4.only hOq (by omega); have yB := xB.only hOq (by omega); have c1 := y1.cell 0; have c3 := y3.cell 0; obtain ⟨z3, zwq⟩ : ∃ z, wq.heap.size = z := ⟨_, rfl⟩; obtain ⟨ws, hws⟩ : ∃ x, wq.alloc (.cells #[.string ⟨#[]⟩, .int .u8 0, .int .u8 0, .int .u8 0, .int .u8 0, .int .u8 0, .int .u8 0, .int .u8 0, .int .u8 0, .int .u8 0, .int .u8 0, .int .u8 0, .int .u8 0, .int .u8 0, .int .u8 0, .int .u8 0, .int .u8 0, .int .u8 0, .int .u8 0, .int .u8 0, .int .u8 0, .int .u8 0, .int .u8 0, .int .u8 0, .int .u8 0, .int .u8 0, .int .u8 0, .int .u8 0, .int .u8 0, .int .u8 0, .int .u8 0, .int .u8 0, .int .u8 0] 178) = x := ⟨_, rfl⟩; have bws : Blk ws z3 178 #[.string ⟨#[]⟩, .int .u8 0, .int .u8 0, .int .u8 0, .int .u8 0, .int .u8 0, .int .u8 0, .int .u8 0, .int .u8 0, .int .u8 0, .int .u8 0, .int .u8 0, .int .u8 0, .int .u8 0, .int .u8 0, .int .u8 0, .int .u8 0, .int .u8 0, .int .u8 0, .int .u8 0, .int .u8 0, .int .u8 0, .int .u8 0, .int .u8 0, .int .u8 0, .int .u8 0, .int .u8 0, .int .u8 0, .int .u8 0, .int .u8 0, .int .u8 0, .int .u8 0, .int .u8 0] := (by have := Blk.new wq 178 #[.string ⟨#[]⟩, .int .u8 0, .int .u8 0, .int .u8 0, .int .u8 0, .int .u8 0, .int .u8 0, .int .u8 0, .int .u8 0, .int .u8 0, .int .u8 0, .int .u8 0, .int .u8 0, .int .u8 0, .int .u8 0, .int .u8 0, .int .u8 0, .int .u8 0, .int .u8 0, .int .u8 0, .int .u8 0, .int .u8 0, .int .u8 0, .int .u8 0, .int .u8 0, .int .u8 0, .int .u8 0, .int .u8 0, .int .u8 0, .int .u8 0, .int .u8 0, .int .u8 0, .int .u8 0]; rw [hws, zwq] at this; exact this); have kqs : Below z3 wq ws := (by rw [← hws, ← zwq]; exact (Below.refl _ _).alloc (Nat.le_refl _) _); have hz23 : z2 < z3 := (by have := hBq.lt; omega))
    | (refine wpList_load_row rfl 113 (.tmp 6) rfl (w.heap.size + 1 + 1) rfl 113 cx (0,0) _ y2 Tryz.underlying113 rfl (by rw [info_16u8, hxs]) ?_)
    | (refine wpList_load_row rfl 113 (.tmp 15) rfl z2 rfl 113 cy (0,0) _ hBq Tryz.underlying113 rfl (by rw [info_16u8, hys]) ?_)
    | (refine wpList_store_all rfl 178 (.tmp 17) (.tmp 58) rfl z3 (#[Value.string key] ++ (cx ++ cy)) rfl (by rfl) 178 #[.string ⟨#[]⟩, .int .u8 0, .int .u8 0, .int .u8 0, .int .u8 0, .int .u8 0, .int .u8 0, .int .u8 0, .int .u8 0, .int .u8 0, .int .u8 0, .int .u8 0, .int .u8 0, .int .u8 0, .int .u8 0, .int .u8 0, .int .u8 0, .int .u8 0, .int .u8 0, .int .u8 0, .int .u8 0, .int .u8 0, .int .u8 0, .int .u8 0, .int .u8 0, .int .u8 0, .int .u8 0, .int .u8 0, .int .u8 0, .int .u8 0, .int .u8 0, .int .u8 0, .int .u8 0] bws (by rw [info_rowB, hr1s]) (by rw [hr1s]; rfl) hr1o ?_; intro wu hBu hOu; have kwu : Below z3 wq wu := hOu.below kqs (Nat.le_refl _); have t3 := (y3.below kwu (by omega)).cell 0; have t1 := (y1.below kwu (by omega)).cell 0))
   obtain ⟨rx, hrx⟩ : ∃ r, #[Value.string key] ++ (cx ++ cy) = r := ⟨_, rfl⟩
   rw [hrx] at hBu hr1s hr1o
   have hrs5 := hr1s
   have hro5 := hr1o
   clear hrx hr1s hr1o hr2s hr2o hOu t1 t3
  all_goals
   have hrbo := build_one #[.string ⟨#[]⟩, .int .u8 0, .int .u8 0, .int .u8 0, .int .u8 0, .int .u8 0, .int .u8 0, .int .u8 0, .int .u8 0, .int .u8 0, .int .u8 0, .int .u8 0, .int .u8 0, .int .u8 0, .int .u8 0, .int .u8 0, .int .u8 0, .int .u8 0, .int .u8 0, .int .u8 0, .int .u8 0, .int .u8 0, .int .u8 0, .int .u8 0, .int .u8 0, .int .u8 0, .int .u8 0, .int .u8 0, .int .u8 0, .int .u8 0, .int .u8 0, .int .u8 0, .int .u8 0] rx rfl hrs5
   obtain ⟨i0, hi0, hz0, hz1, hz2⟩ := info_parts info_rowB3
   refine wp_region_last (.q 0 (.q 1 (.q 2 (.q 3 (.q 4 (.q 5 (.e [6] fun _ => .e [7] fun _ => .e [8] fun _ => .q 9 (.e [10] fun _ => .done))))))))
    (fun V => Blk V w.heap.size 34 #[.pointer (some ⟨bp, 0, none⟩)] ∧ Blk V bp 65 #[.slice (some ⟨gr, 0, none⟩) 1 cr, .pointer (some ⟨tp, 0, none⟩)] ∧ Blk V z3 178 rx) 10 rfl (by kernel_rfl) (fun _ _ d _ _ h => by cases d <;> exact h) ?_
   change wpS _ _ _ _ _ _ _ wu.drew
   have a0 := y0.below kwu (by omega)
   have aB := yB.below kwu (by omega)
   have a4 := y4.below kwu (by omega)
   have aI := hBq.below kwu (by omega)
   have aO := ownsRow_same (ownsRow_same xO (hOq.block _ (by omega))) (kwu.block _ (by omega))
   have aF := (hF0.only hOq (.inl (by omega))).below kwu (by omega)
   have hS : Blk wu.drew w.heap.size 34 #[.pointer (some ⟨bp, 0, none⟩)] ∧ Blk wu.drew bp 65 #[.slice (some ⟨gr, 0, none⟩) 1 cr, .pointer (some ⟨tp, 0, none⟩)] ∧ Blk wu.drew z3 178 rx := ⟨a0, aB, hBu⟩
   have u4 : Blk wu.drew (w.heap.size + 1 + 1 + 1 + 1) 113 #[.int .u8 0, .int .u8 0, .int .u8 0, .int .u8 0, .int .u8 0, .int .u8 0, .int .u8 0, .int .u8 0, .int .u8 0, .int .u8 0, .int .u8 0, .int .u8 0, .int .u8 0, .int .u8 0, .int .u8 0, .int .u8 0] := a4
   have uI : Blk wu.drew z2 113 cy := aI
   have uO : wu.drew.ownsRow 0 178 33 (.slice (some ⟨gr, 0, none⟩) 1 cr) 1 row.toList := aO
   have hFu : Fr3 bp tp gr w wu.drew := ⟨aF.os, aF.tape, aF.output, aF.size, aF.block⟩
   generalize wu.drew = wv at *
   refine s_q rfl rfl hS (.pointer (some ⟨bp, 0, none⟩)) (fun V hV => by (have hc := hV.1.cell 0; go_simp)) ?_
   go_simp
   refine s_q rfl rfl hS (.pointer (some ⟨bp, 0, none⟩)) (fun V hV => by (have hc := hV.1.cell 0; go_simp)) ?_
   go_simp
   iterate 2 (refine s_q rfl rfl hS _ (fun V hV => by (go_simp; rfl)) ?_; go_simp)
   refine s_q rfl rfl hS (.slice (some ⟨gr, 0, none⟩) 1 cr) (fun V hV => by (have hc := Blk.cell hV.2.1 0; go_simp)) ?_
   go_simp
   refine s_load_row rfl rfl 178 (.tmp 17) rfl z3 rfl 178 rx hS (fun W hW => hW.2.2) _ Tryz.underlying178 rfl (by rw [info_rowB, hrs5]) ?_
   go_simp
   refine s_e rfl rfl fun K hK => ?_
   go_simp
   have hSn : Blk (wv.alloc (.cells rx 178)) w.heap.size 34 #[.pointer (some ⟨bp, 0, none⟩)] ∧ Blk (wv.alloc (.cells rx 178)) bp 65 #[.slice (some ⟨gr, 0, none⟩) 1 cr, .pointer (some ⟨tp, 0, none⟩)] ∧ Blk (wv.alloc (.cells rx 178)) z3 178 rx := ⟨hS.1.alloc _, hS.2.1.alloc _, hS.2.2.alloc _⟩
   have hRw : Blk (wv.alloc (.cells rx 178)) wv.heap.size 178 rx := Blk.new _ _ _
   refine hK _ _ (fun _ => hSn) ?_
   clear hK K
   refine s_e rfl rfl fun K hK => ?_
   refine op_append_at (.tmp 68) (.tmp 70) 63 rfl 0 178 i0 (.agg #[.string ⟨#[]⟩, .int .u8 0, .int .u8 0, .int .u8 0, .int .u8 0, .int .u8 0, .int .u8 0, .int .u8 0, .int .u8 0, .int .u8 0, .int .u8 0, .int .u8 0, .int .u8 0, .int .u8 0, .int .u8 0, .int .u8 0, .int .u8 0, .int .u8 0, .int .u8 0, .int .u8 0, .int .u8 0, .int .u8 0, .int .u8 0, .int .u8 0, .int .u8 0, .int .u8 0, .int .u8 0, .int .u8 0, .int .u8 0, .int .u8 0, .int .u8 0, .int .u8 0, .int .u8 0]) 33 48 Tryz.underlying63 hi0 hz0 hz1 hz2 rfl (by decide) (.slice (some ⟨gr, 0, none⟩) 1 cr) 1 row.toList rfl (uO.alloc _) ⟨wv.heap.size, 0, none⟩ 1 1 rx.toList rfl (by rw [Array.length_toList, hrs5]) (fun j u hu => by rw [Addr.add_mid, Nat.zero_add, hRw.cell j, ← Array.getElem?_toList]; exact hu) (fun u hu => Array.all_eq_true'.1 hro5 u (by simpa using hu)) (by unfold maxLen; omega) (by omega) (Nat.zero_le _) fun v' wl hown hgr _ => ?_
   have hgn : ∀ q, q ≠ gr → some q ≠ (Value.slice (some ⟨gr, 0, none⟩) 1 cr).ownBlock := fun q hq e => by injection e with e; exact hq e
   have hSl : Blk wl w.heap.size 34 #[.pointer (some ⟨bp, 0, none⟩)] ∧ Blk wl bp 65 #[.slice (some ⟨gr, 0, none⟩) 1 cr, .pointer (some ⟨tp, 0, none⟩)] ∧ Blk wl z3 178 rx := ⟨hSn.1.grown hgr (hgn _ (by omega)), hSn.2.1.grown hgr (hgn _ (by omega)), hSn.2.2.grown hgr (hgn _ (by omega))⟩
   refine hK _ _ (fun _ => hSl) ?_
   clear hK K hSn hRw
   refine s_e rfl rfl fun K hK => ?_
   go_simp
   refine hK _ _ (fun _ => hSl) ?_
   clear hK K
   refine s_q rfl rfl hSl _ (fun V hV => by (go_simp; rfl)) ?_
   go_simp
   refine s_e rfl rfl fun K hK => ?_
   rcases hown.2 with ⟨_, h0⟩ | ⟨g10, cap10, cur10, rfl, -, -, -, -, -, -⟩
   ·
    omega
   have hf := hSl.2.1.frozen 0
   have hc := hSl.2.1.cell 0
   go_simp
   refine hK _ _ (fun h => absurd rfl h) ?_
   refine s_done ?_
   clear hK K
   have hFl : Fr3 bp tp gr w wl := Fr3.grown (hFu.below ((Below.refl _ _).alloc (Nat.le_refl _) _) hFu.size) hgr (fun k hk => by injection hk with hk; exact .inr (.inr (.inr hk.symm)))
   have v4 : Blk wl (w.heap.size + 1 + 1 + 1 + 1) 113 #[.int .u8 0, .int .u8 0, .int .u8 0, .int .u8 0, .int .u8 0, .int .u8 0, .int .u8 0, .int .u8 0, .int .u8 0, .int .u8 0, .int .u8 0, .int .u8 0, .int .u8 0, .int .u8 0, .int .u8 0, .int .u8 0] := (u4.alloc _).grown hgr (hgn _ (by omega))
   have vI : Blk wl z2 113 cy := (uI.alloc _).grown hgr (hgn _ (by omega))
   have hO := Only.setCell wl bp 0 (.slice (some ⟨g10, 0, none⟩) 2 cap10)
   have o4 := v4.only hO (by omega)
   have oI := vI.only hO (by omega)
   have hFo := hFl.only hO (.inr (.inl rfl))
   generalize wl.setCell ⟨bp, 0, none⟩ (.slice (some ⟨g10, 0, none⟩) 2 cap10) = wm5 at *
   go_wp2_with (first
    | (refine wpList_load_row rfl 113 (.tmp 15) rfl z2 rfl 113 cy (0,0) _ oI Tryz.underlying113 rfl (by rw [info_16u8, hys]) ?_)
    | (refine wpList_store_all rfl 113 (.tmp 8) (.tmp 74) rfl (w.heap.size + 1 + 1 + 1 + 1) cy rfl rfl 113 #[.int .u8 0, .int .u8 0, .int .u8 0, .int .u8 0, .int .u8 0, .int .u8 0, .int .u8 0, .int .u8 0, .int .u8 0, .int .u8 0, .int .u8 0, .int .u8 0, .int .u8 0, .int .u8 0, .int .u8 0, .int .u8 0] o4 (by rw [info_16u8, hys]) (by rw [hys]; rfl) hyo ?_; intro wn5 hBn hOn)
    | (refine bodyPost_ret (results_cell2 rfl _ _ (w.heap.size + 1 + 1 + 1 + 1) 113 _ _ rfl hBn Tryz.underlying113 rfl (by rw [info_16u8, hys])) rfl ?_))
   exact ⟨HCY.out.symm, hFo.only hOn (.inl (by omega))⟩
end Go.Proofs.YthodpjcdmdbnoaaGreatDoor
