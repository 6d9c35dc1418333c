/- The contract of block.Book's ask, of a book without a row, deciphering. -/
import Derived.Test.YthodpjcdmdbnoaaGreatDoorNCD
namespace Go.Proofs.YthodpjcdmdbnoaaGreatDoor
open Go Go.RowKit Pr

set_option maxHeartbeats 4000000 in
set_option maxRecDepth 100000 in
theorem ask0_back (T : List Nat) (m : Nat) (hT : T.length = m) (h16 : 16 ≤ m) (hm : m ≤ 100000) (bp tp tb : Nat) (key : ByteArray) (X : List Nat) (hX : X.length = 16) (back : Bool) (hback : back = true) (w : World) (hB : Book0 w bp tp) (hTp : TapeAt w tp tb T) (hne2 : bp ≠ tp) (hne3 : tb ≠ bp) (htb : tb < w.heap.size) :
    Calls Tryz.prog 82 #[.pointer (some ⟨bp, 0, none⟩), .string key, .agg (byteCells X), .bool back] w fun e w' => e = .returned (.tuple #[.agg (byteCells (T.take 16)), .nilIface]) ∧ Asked w w' bp tp tb key (T.take 16) X (T.drop 16) := by
 subst hback
 have hmf : ∀ (fn : Fn) (first cap : Array Value) (W : World), (Instr.makeFunc fn first cap).run Tryz.prog W = .ok (.func fn first cap) W := fun _ _ _ _ => rfl
 have hsf : ∀ (a : Addr) (fn : Fn) (fs cs : Array Value) (W : World), (store a (.func fn fs cs)).run Tryz.prog W = stored Tryz.prog W a (.func fn fs cs) .plain := fun a fn fs cs W => run_store _ W a _ .plain rfl
 have HDR := Lib.hid (fun gb c2 c3 W h1 h2 h3 h4 => draw0_ok T m hT h16 hm bp tp tb gb c2 c3 W h1 h2 h3 h4 hne2)
 have hyl : (T.take 16).length = 16 := by rw [List.length_take]; omega
 have htl := hTp.lt.1
 generalize T.take 16 = Y at *
 generalize T.drop 16 = D at *
 have hxs : (byteCells X).size = 16 := by rw [size_byteCells, hX]
 have hys : (byteCells Y).size = 16 := by rw [size_byteCells, hyl]
 have hxo : (byteCells X).all (·.oneCell') = true := bytes_one _
 have hyo : (byteCells Y).all (·.oneCell') = true := bytes_one _
 obtain ⟨cx, hcx⟩ : ∃ c, byteCells X = c := ⟨_, rfl⟩
 rw [hcx] at hxs hxo ⊢
 obtain ⟨wa, hwa⟩ : ∃ x, w.alloc (.cells #[.pointer (some ⟨bp, 0, none⟩)] 34) = x := ⟨_, rfl⟩
 have zwa : wa.heap.size = w.heap.size + 1 := by rw [← hwa]; simp
 have bwa : Blk wa (w.heap.size) 34 #[.pointer (some ⟨bp, 0, none⟩)] := by have := Blk.new w 34 #[.pointer (some ⟨bp, 0, none⟩)]; rw [hwa] at this; exact this
 have kwa : Below w.heap.size w wa := by rw [← hwa]; exact (Below.refl _ _).alloc (by omega) _
 obtain ⟨wb, hwb⟩ : ∃ x, wa.alloc (.cells #[.string key] 9) = x := ⟨_, rfl⟩
 have zwb : wb.heap.size = w.heap.size + 1 + 1 := by rw [← hwb]; simp [zwa]
 have bwb : Blk wb (w.heap.size + 1) 9 #[.string key] := by have := Blk.new wa 9 #[.string key]; rw [hwb, zwa] at this; exact this
 have kwb : Below w.heap.size w wb := by rw [← hwb]; exact kwa.alloc (by omega) _
 have bwawb : Blk wb (w.heap.size) 34 #[.pointer (some ⟨bp, 0, none⟩)] := by rw [← hwb]; exact bwa.alloc _
 obtain ⟨wc, hwc⟩ : ∃ x, wb.alloc (.cells cx 113) = x := ⟨_, rfl⟩
 have zwc : wc.heap.size = w.heap.size + 1 + 1 + 1 := by rw [← hwc]; simp [zwb]
 have bwc : Blk wc (w.heap.size + 1 + 1) 113 cx := by have := Blk.new wb 113 cx; rw [hwc, zwb] at this; exact this
 have kwc : Below w.heap.size w wc := by rw [← hwc]; exact kwb.alloc (by omega) _
 have bwawc : Blk wc (w.heap.size) 34 #[.pointer (some ⟨bp, 0, none⟩)] := by rw [← hwc]; exact bwawb.alloc _
 have bwbwc : Blk wc (w.heap.size + 1) 9 #[.string key] := by rw [← hwc]; exact bwb.alloc _
 obtain ⟨wd, hwd⟩ : ∃ x, wc.alloc (.cells #[.bool true] 4) = x := ⟨_, rfl⟩
 have zwd : wd.heap.size = w.heap.size + 1 + 1 + 1 + 1 := by rw [← hwd]; simp [zwc]
 have bwd : Blk wd (w.heap.size + 1 + 1 + 1) 4 #[.bool true] := by have := Blk.new wc 4 #[.bool true]; rw [hwd, zwc] at this; exact this
 have kwd : Below w.heap.size w wd := by rw [← hwd]; exact kwc.alloc (by omega) _
 have bwawd : Blk wd (w.heap.size) 34 #[.pointer (some ⟨bp, 0, none⟩)] := by rw [← hwd]; exact bwawc.alloc _
 have bwbwd : Blk wd (w.heap.size + 1) 9 #[.string key] := by rw [← hwd]; exact bwbwc.alloc _
 have bwcwd : Blk wd (w.heap.size + 1 + 1) 113 cx := by rw [← hwd]; exact bwc.alloc _
 obtain ⟨we, hwe⟩ : ∃ x, wd.alloc (.cells #[.int .u8 0, .int .u8 0, .int .u8 0, .int .u8 0, .int .u8 0, .int .u8 0, .int .u8 0, .int .u8 0, .int .u8 0, .int .u8 0, .int .u8 0, .int .u8 0, .int .u8 0, .int .u8 0, .int .u8 0, .int .u8 0] 113) = x := ⟨_, rfl⟩
 have zwe : we.heap.size = w.heap.size + 1 + 1 + 1 + 1 + 1 := by rw [← hwe]; simp [zwd]
 have bwe : Blk we (w.heap.size + 1 + 1 + 1 + 1) 113 #[.int .u8 0, .int .u8 0, .int .u8 0, .int .u8 0, .int .u8 0, .int .u8 0, .int .u8 0, .int .u8 0, .int .u8 0, .int .u8 0, .int .u8 0, .int .u8 0, .int .u8 0, .int .u8 0, .int .u8 0, .int .u8 0] := by have := Blk.new wd 113 #[.int .u8 0, .int .u8 0, .int .u8 0, .int .u8 0, .int .u8 0, .int .u8 0, .int .u8 0, .int .u8 0, .int .u8 0, .int .u8 0, .int .u8 0, .int .u8 0, .int .u8 0, .int .u8 0, .int .u8 0, .int .u8 0]; rw [hwe, zwd] at this; exact this
 have kwe : Below w.heap.size w we := by rw [← hwe]; exact kwd.alloc (by omega) _
 have bwawe : Blk we (w.heap.size) 34 #[.pointer (some ⟨bp, 0, none⟩)] := by rw [← hwe]; exact bwawd.alloc _
 have bwbwe : Blk we (w.heap.size + 1) 9 #[.string key] := by rw [← hwe]; exact bwbwd.alloc _
 have bwcwe : Blk we (w.heap.size + 1 + 1) 113 cx := by rw [← hwe]; exact bwcwd.alloc _
 have bwdwe : Blk we (w.heap.size + 1 + 1 + 1) 4 #[.bool true] := by rw [← hwe]; exact bwd.alloc _
 obtain ⟨wf, hwf⟩ : ∃ x, we.alloc (.cells #[.nilFunc] 179) = x := ⟨_, rfl⟩
 have zwf : wf.heap.size = w.heap.size + 1 + 1 + 1 + 1 + 1 + 1 := by rw [← hwf]; simp [zwe]
 have bwf : Blk wf (w.heap.size + 1 + 1 + 1 + 1 + 1) 179 #[.nilFunc] := by have := Blk.new we 179 #[.nilFunc]; rw [hwf, zwe] at this; exact this
 have kwf : Below w.heap.size w wf := by rw [← hwf]; exact kwe.alloc (by omega) _
 have bwawf : Blk wf (w.heap.size) 34 #[.pointer (some ⟨bp, 0, none⟩)] := by rw [← hwf]; exact bwawe.alloc _
 have bwbwf : Blk wf (w.heap.size + 1) 9 #[.string key] := by rw [← hwf]; exact bwbwe.alloc _
 have bwcwf : Blk wf (w.heap.size + 1 + 1) 113 cx := by rw [← hwf]; exact bwcwe.alloc _
 have bwdwf : Blk wf (w.heap.size + 1 + 1 + 1) 4 #[.bool true] := by rw [← hwf]; exact bwdwe.alloc _
 have bwewf : Blk wf (w.heap.size + 1 + 1 + 1 + 1) 113 #[.int .u8 0, .int .u8 0, .int .u8 0, .int .u8 0, .int .u8 0, .int .u8 0, .int .u8 0, .int .u8 0, .int .u8 0, .int .u8 0, .int .u8 0, .int .u8 0, .int .u8 0, .int .u8 0, .int .u8 0, .int .u8 0] := by rw [← hwf]; exact bwe.alloc _
 have c5 := bwf.cell 0
 have f5 := bwf.frozen 0
 obtain ⟨wg, hwg⟩ : ∃ x, wf.setCell ⟨w.heap.size + 1 + 1 + 1 + 1 + 1, 0, none⟩ (.func (.func 102) #[] #[.pointer (some ⟨w.heap.size + 1 + 1 + 1, 0, none⟩)]) = x := ⟨_, rfl⟩
 have kwg : Below w.heap.size w wg := by rw [← hwg]; exact below_setCell (Below.refl _ _) kwf (Nat.le_refl _) _ (by show w.heap.size ≤ w.heap.size + 1 + 1 + 1 + 1 + 1; omega) _
 have zwg : wg.heap.size = w.heap.size + 1 + 1 + 1 + 1 + 1 + 1 := by rw [← hwg]; simp [World.setCell, zwf]
 have g0 : Blk wg (w.heap.size) 34 #[.pointer (some ⟨bp, 0, none⟩)] := by rw [← hwg]; exact bwawf.far (by simp; omega) _
 have g4 : Blk wg (w.heap.size + 1 + 1 + 1 + 1) 113 #[.int .u8 0, .int .u8 0, .int .u8 0, .int .u8 0, .int .u8 0, .int .u8 0, .int .u8 0, .int .u8 0, .int .u8 0, .int .u8 0, .int .u8 0, .int .u8 0, .int .u8 0, .int .u8 0, .int .u8 0, .int .u8 0] := by rw [← hwg]; exact bwewf.far (by simp) _
 have g1 : Blk wg (w.heap.size + 1) 9 #[.string key] := by rw [← hwg]; exact bwbwf.far (by simp) _
 have g2 : Blk wg (w.heap.size + 1 + 1) 113 cx := by rw [← hwg]; exact bwcwf.far (by simp) _
 have g3 : Blk wg (w.heap.size + 1 + 1 + 1) 4 #[.bool true] := by rw [← hwg]; exact bwdwf.far (by simp) _
 have hBg : Book0 wg bp tp := Blk.below hB kwg hB.lt
 have hTg := hTp.below kwg
 have d0 := g0.cell 0
 have d1 := hBg.cell 0
 clear bwawb bwawc bwawd bwawe bwbwc bwbwd bwbwe bwcwd bwcwe bwdwe
 go_enter Tryz.func82, Tryz.ntmps82
 go_wp2
 refine wp_loop_rounds 1 ?_
 rw [rounds_succ]
 go_wp2_with fail
 refine (HDR.out _ _ _ _ d0 hBg hTg (by omega)).mono ?_
 rintro e wh ⟨rfl, hTh, hkh⟩
 obtain ⟨cy, hcy⟩ : ∃ c, byteCells Y = c := ⟨_, rfl⟩
 rw [hcy] at hys hyo ⊢
 have hrow := build_row (.string key) cx cy hxs hys
 have hrow2 := build_row (.string key) cy cx hys hxs
 have hrsz2 := build_size (.string key) cy hys
 have hrsz := build_size (.string key) cx hxs
 have hrs2 : (#[Value.string key] ++ (cy ++ cx)).size = 33 := by rw [Array.size_append, Array.size_append, hxs, hys]; rfl
 have hrone2 : (#[Value.string key] ++ (cy ++ cx)).all (·.oneCell') = true := by rw [Array.all_append, Array.all_append, hxo, hyo]; simp [Value.oneCell']
 have hrs : (#[Value.string key] ++ (cx ++ cy)).size = 33 := by rw [Array.size_append, Array.size_append, hxs, hys]; rfl
 have hrbo2 := build_one #[.string ⟨#[]⟩, .int .u8 0, .int .u8 0, .int .u8 0, .int .u8 0, .int .u8 0, .int .u8 0, .int .u8 0, .int .u8 0, .int .u8 0, .int .u8 0, .int .u8 0, .int .u8 0, .int .u8 0, .int .u8 0, .int .u8 0, .int .u8 0, .int .u8 0, .int .u8 0, .int .u8 0, .int .u8 0, .int .u8 0, .int .u8 0, .int .u8 0, .int .u8 0, .int .u8 0, .int .u8 0, .int .u8 0, .int .u8 0, .int .u8 0, .int .u8 0, .int .u8 0, .int .u8 0] (#[Value.string key] ++ (cy ++ cx)) rfl (by rw [Array.size_append, Array.size_append, hxs, hys]; rfl)
 have hrbo := build_one #[.string ⟨#[]⟩, .int .u8 0, .int .u8 0, .int .u8 0, .int .u8 0, .int .u8 0, .int .u8 0, .int .u8 0, .int .u8 0, .int .u8 0, .int .u8 0, .int .u8 0, .int .u8 0, .int .u8 0, .int .u8 0, .int .u8 0, .int .u8 0, .int .u8 0, .int .u8 0, .int .u8 0, .int .u8 0, .int .u8 0, .int .u8 0, .int .u8 0, .int .u8 0, .int .u8 0, .int .u8 0, .int .u8 0, .int .u8 0, .int .u8 0, .int .u8 0, .int .u8 0, .int .u8 0] (#[Value.string key] ++ (cx ++ cy)) rfl (by rw [Array.size_append, Array.size_append, hxs, hys]; rfl)
 have hrone : (#[Value.string key] ++ (cx ++ cy)).all (·.oneCell') = true := by rw [Array.all_append, Array.all_append, hxo, hyo]; simp [Value.oneCell']
 have hbn := (Below.refl wh.heap.size wh).alloc (Nat.le_refl _) (.cells #[.int .u8 0, .int .u8 0, .int .u8 0, .int .u8 0, .int .u8 0, .int .u8 0, .int .u8 0, .int .u8 0, .int .u8 0, .int .u8 0, .int .u8 0, .int .u8 0, .int .u8 0, .int .u8 0, .int .u8 0, .int .u8 0] 113)
 have p1 : Blk wh (w.heap.size + 1) 9 #[.string key] := (hkh.block _ (by omega) (by omega)).trans g1
 have p2 : Blk wh (w.heap.size + 1 + 1) 113 cx := (hkh.block _ (by omega) (by omega)).trans g2
 have p3 : Blk wh (w.heap.size + 1 + 1 + 1) 4 #[.bool true] := (hkh.block _ (by omega) (by omega)).trans g3
 have p4 : Blk wh (w.heap.size + 1 + 1 + 1 + 1) 113 #[.int .u8 0, .int .u8 0, .int .u8 0, .int .u8 0, .int .u8 0, .int .u8 0, .int .u8 0, .int .u8 0, .int .u8 0, .int .u8 0, .int .u8 0, .int .u8 0, .int .u8 0, .int .u8 0, .int .u8 0, .int .u8 0] := (hkh.block _ (by omega) (by omega)).trans g4
 have p0 : Blk wh w.heap.size 34 #[.pointer (some ⟨bp, 0, none⟩)] := (hkh.block _ (by omega) (by omega)).trans g0
 have pB : Book0 wh bp tp := (hkh.block _ (by have := hBg.lt; omega) hne2).trans hBg
 clear hwg hwf hwe hwd hwc hwb hwa g0 g1 g2 g3 g4
 go_wp2_with (first
  | (refine wpList_store_all rfl 113 (.tmp 15) (.tmp 49) rfl wh.heap.size cy rfl rfl 113 #[.int .u8 0, .int .u8 0, .int .u8 0, .int .u8 0, .int .u8 0, .int .u8 0, .int .u8 0, .int .u8 0, .int .u8 0, .int .u8 0, .int .u8 0, .int .u8 0, .int .u8 0, .int .u8 0, .int .u8 0, .int .u8 0] (Blk.new wh _ _) (by rw [info_16u8, hys]) (by rw [hys]; rfl) hyo ?_; intro wi hBi hOi; have hbi := hOi.below hbn (Nat.le_refl _); have q0 := p0.below hbi p0.lt; have q1 := p1.below hbi p1.lt; have q2 := p2.below hbi p2.lt; have q3 := p3.below hbi p3.lt; have q4 := p4.below hbi p4.lt; have qB : Book0 wi bp tp := Blk.below pB hbi pB.lt; have qT := hTh.below hbi; have e1 := q1.cell 0; have e3 := q3.cell 0)
  | (refine wpList_load_row rfl 113 (.tmp 6) rfl (w.heap.size + 1 + 1) rfl 113 cx (0,0) _ q2 Tryz.underlying113 rfl (by rw [info_16u8, hxs]) ?_)
  | (refine wpList_load_row rfl 113 (.tmp 15) rfl wh.heap.size rfl 113 cy (0,0) _ hBi Tryz.underlying113 rfl (by rw [info_16u8, hys]) ?_)
  | (refine wpList_store_all rfl 178 (.tmp 17) (.tmp 58) rfl wi.heap.size (#[Value.string key] ++ (cx ++ cy)) rfl (by rfl) 178 #[.string ⟨#[]⟩, .int .u8 0, .int .u8 0, .int .u8 0, .int .u8 0, .int .u8 0, .int .u8 0, .int .u8 0, .int .u8 0, .int .u8 0, .int .u8 0, .int .u8 0, .int .u8 0, .int .u8 0, .int .u8 0, .int .u8 0, .int .u8 0, .int .u8 0, .int .u8 0, .int .u8 0, .int .u8 0, .int .u8 0, .int .u8 0, .int .u8 0, .int .u8 0, .int .u8 0, .int .u8 0, .int .u8 0, .int .u8 0, .int .u8 0, .int .u8 0, .int .u8 0, .int .u8 0] (Blk.new wi _ _) (by rw [info_rowB, hrs]) (by rw [hrs]; rfl) hrone ?_; intro wj0 hBj0 hOj0; have hbj := hOj0.below ((Below.refl wi.heap.size wi).alloc (Nat.le_refl _) _) (Nat.le_refl _); have r0i := q0.below hbj q0.lt; have r1i := q1.below hbj q1.lt; have r2i := q2.below hbj q2.lt; have r3i := q3.below hbj q3.lt; have r4i := q4.below hbj q4.lt; have rBi : Book0 wj0 bp tp := Blk.below qB hbj qB.lt; have rTi := qT.below hbj; have rIi := hBi.below hbj hBi.lt; have x0 := r0i.cell 0; have x1 := r1i.cell 0; have x3 := r3i.cell 0; have hwl := hBi.lt)
  | (refine wpList_load_row rfl 113 (.tmp 15) rfl wh.heap.size rfl 113 cy (0,0) _ rIi Tryz.underlying113 rfl (by rw [info_16u8, hys]) ?_)
  | (refine wpList_load_row rfl 113 (.tmp 6) rfl (w.heap.size + 1 + 1) rfl 113 cx (0,0) _ r2i Tryz.underlying113 rfl (by rw [info_16u8, hxs]) ?_)
  | (refine wpList_store_all rfl 178 (.tmp 17) (.tmp 63) rfl wi.heap.size (#[Value.string key] ++ (cy ++ cx)) rfl (by rfl) 178 (#[Value.string key] ++ (cx ++ cy)) hBj0 (by rw [info_rowB, hrs2]) (by rw [hrs, hrs2]) hrone2 ?_; intro wj hBj hOj; have r0 := r0i.only hOj (by have := r0i.lt; have := q0.lt; omega); have r4 := r4i.only hOj (by have := q4.lt; omega); have rB : Book0 wj bp tp := Blk.only rBi hOj (by have := Blk.lt qB; omega); have rI := rIi.only hOj (by omega); have rT := rTi.same (hOj.block _ (by have := qT.lt.1; omega)) (fun hn => hOj.block _ (by have := qT.lt.2 hn; omega))))
 obtain ⟨i0, hi0, hz0, hz1, hz2⟩ := info_parts info_rowB3
 refine wp_region_last (.q 0 (.q 1 (.q 2 (.q 3 (.q 4 (.q 5 (.e [6] fun _ => .e [7] fun _ => .e [8] fun _ => .q 9 (.e [10] fun _ => .done))))))))
  (fun V => Blk V w.heap.size 34 #[.pointer (some ⟨bp, 0, none⟩)] ∧ Book0 V bp tp ∧ Blk V wi.heap.size 178 (#[Value.string key] ++ (cy ++ cx))) 10 rfl (by kernel_rfl) (fun _ _ d _ _ h => by cases d <;> exact h) ?_
 have hS : Blk wj.drew w.heap.size 34 #[.pointer (some ⟨bp, 0, none⟩)] ∧ Book0 wj.drew bp tp ∧ Blk wj.drew wi.heap.size 178 (#[Value.string key] ++ (cy ++ cx)) := ⟨r0, rB, hBj⟩
 change wpS _ _ _ _ _ _ _ wj.drew
 have u4 : Blk wj.drew (w.heap.size + 1 + 1 + 1 + 1) 113 #[.int .u8 0, .int .u8 0, .int .u8 0, .int .u8 0, .int .u8 0, .int .u8 0, .int .u8 0, .int .u8 0, .int .u8 0, .int .u8 0, .int .u8 0, .int .u8 0, .int .u8 0, .int .u8 0, .int .u8 0, .int .u8 0] := r4
 have uI : Blk wj.drew wh.heap.size 113 cy := rI
 have uT : TapeAt wj.drew tp tb D := rT.same rfl (fun _ => rfl)
 have hk0 := ((((Keep.ofBelow (g := tp) kwg).trans hkh).trans (Keep.ofBelow hbi)).trans (Keep.ofBelow hbj))
 have hwi : w.heap.size ≤ wi.heap.size := by have := kwg.size; have := hkh.size; have := hbi.size; omega
 have hk1 : Keep tp w wj := ⟨hOj.os.trans hk0.os, hOj.tape.trans hk0.tape, hOj.output.trans hk0.output, by have := hk0.size; have := hOj.size; omega, fun k h1 h2 => (hOj.block k (by omega)).trans (hk0.block k h1 h2)⟩
 have hkj : Keep tp w wj.drew := hk1.drewN 1
 generalize wj.drew = wk at *
 refine s_q rfl rfl hS (.pointer (some ⟨bp, 0, none⟩)) (fun V hV => by (have hc := hV.1.cell 0; go_simp)) ?_
 go_simp
 refine s_q rfl rfl hS (.pointer (some ⟨bp, 0, none⟩)) (fun V hV => by (have hc := hV.1.cell 0; go_simp)) ?_
 go_simp
 iterate 2 (refine s_q rfl rfl hS _ (fun V hV => by (go_simp; rfl)) ?_; go_simp)
 refine s_q rfl rfl hS (.slice none 0 0) (fun V hV => by (have hc := Blk.cell hV.2.1 0; go_simp)) ?_
 go_simp
 refine s_load_row rfl rfl 178 (.tmp 17) rfl wi.heap.size rfl 178 (#[Value.string key] ++ (cy ++ cx)) hS (fun W hW => hW.2.2) _ Tryz.underlying178 rfl (by rw [info_rowB, hrs2]) ?_
 go_simp
 refine s_e rfl rfl fun K hK => ?_
 go_simp
 have hSn : Blk (wk.alloc (.cells (#[Value.string key] ++ (cy ++ cx)) 178)) w.heap.size 34 #[.pointer (some ⟨bp, 0, none⟩)] ∧ Book0 (wk.alloc (.cells (#[Value.string key] ++ (cy ++ cx)) 178)) bp tp ∧ Blk (wk.alloc (.cells (#[Value.string key] ++ (cy ++ cx)) 178)) wi.heap.size 178 (#[Value.string key] ++ (cy ++ cx)) := ⟨hS.1.alloc _, Blk.alloc hS.2.1 _, hS.2.2.alloc _⟩
 have hRw : Blk (wk.alloc (.cells (#[Value.string key] ++ (cy ++ cx)) 178)) wk.heap.size 178 (#[Value.string key] ++ (cy ++ cx)) := Blk.new _ _ _
 refine hK _ _ (fun _ => hSn) ?_
 clear hK K
 refine s_e rfl rfl fun K hK => ?_
 refine op_append_at (.tmp 68) (.tmp 70) 63 rfl wk.heap.size 178 i0 (.agg #[.string ⟨#[]⟩, .int .u8 0, .int .u8 0, .int .u8 0, .int .u8 0, .int .u8 0, .int .u8 0, .int .u8 0, .int .u8 0, .int .u8 0, .int .u8 0, .int .u8 0, .int .u8 0, .int .u8 0, .int .u8 0, .int .u8 0, .int .u8 0, .int .u8 0, .int .u8 0, .int .u8 0, .int .u8 0, .int .u8 0, .int .u8 0, .int .u8 0, .int .u8 0, .int .u8 0, .int .u8 0, .int .u8 0, .int .u8 0, .int .u8 0, .int .u8 0, .int .u8 0, .int .u8 0]) 33 48 Tryz.underlying63 hi0 hz0 hz1 hz2 rfl (by decide) (.slice none 0 0) 0 [] rfl (World.ownsRow_nil _ _ _ _) ⟨wk.heap.size, 0, none⟩ 1 1 (#[Value.string key] ++ (cy ++ cx)).toList rfl (by rw [Array.length_toList, hrs2]) (fun j u hu => by rw [Addr.add_mid, Nat.zero_add, hRw.cell j, ← Array.getElem?_toList]; exact hu) (fun u hu => Array.all_eq_true'.1 hrone2 u (by simpa using hu)) (by unfold maxLen; omega) (by omega) (by simp) fun v' wl hown hgr _ => ?_
 have hSl : Blk wl w.heap.size 34 #[.pointer (some ⟨bp, 0, none⟩)] ∧ Book0 wl bp tp ∧ Blk wl wi.heap.size 178 (#[Value.string key] ++ (cy ++ cx)) := ⟨hSn.1.grown hgr (fun e => by cases e), Blk.grown hSn.2.1 hgr (fun e => by cases e), hSn.2.2.grown hgr (fun e => by cases e)⟩
 refine hK _ _ (fun _ => hSl) ?_
 clear hK K hSn hRw
 refine s_e rfl rfl fun K hK => ?_
 go_simp
 refine hK _ _ (fun _ => hSl) ?_
 clear hK K
 refine s_q rfl rfl hSl _ (fun V hV => by (go_simp; rfl)) ?_
 go_simp
 refine s_e rfl rfl fun K hK => ?_
 rcases hown.2 with ⟨_, h0⟩ | ⟨g10, cap10, cur10, rfl, hg10, hB10, hc10, hm10, hs10, ht10⟩
 ·
  omega
 have hf := Blk.frozen hSl.2.1 0
 have hc := Blk.cell hSl.2.1 0
 go_simp
 refine hK _ _ (fun h => absurd rfl h) ?_
 refine s_done ?_
 clear hK K
 have hkl : Keep tp w wl := (hkj.alloc _).grown hgr (fun k hk => by cases hk)
 have v4 : Blk wl (w.heap.size + 1 + 1 + 1 + 1) 113 #[.int .u8 0, .int .u8 0, .int .u8 0, .int .u8 0, .int .u8 0, .int .u8 0, .int .u8 0, .int .u8 0, .int .u8 0, .int .u8 0, .int .u8 0, .int .u8 0, .int .u8 0, .int .u8 0, .int .u8 0, .int .u8 0] := (u4.alloc _).grown hgr (fun e => by cases e)
 have vI : Blk wl wh.heap.size 113 cy := (uI.alloc _).grown hgr (fun e => by cases e)
 have hba : Below wk.heap.size wk (wk.alloc (.cells (#[Value.string key] ++ (cy ++ cx)) 178)) := (Below.refl _ _).alloc (Nat.le_refl _) _
 have vT : TapeAt wl tp tb D := (uT.below hba).same (hgr.block _ (uT.below hba).lt.1 (fun e => by cases e)) (fun hn => hgr.block _ ((uT.below hba).lt.2 hn) (fun e => by cases e))
 have hB10' : Blk wl g10 178 cur10 := hB10
 have hbpl : bp < w.heap.size := hB.lt
 have hge : w.heap.size ≤ wh.heap.size := by have := kwg.size; have := hkh.size; omega
 have hO := Only.setCell wl bp 0 (.slice (some ⟨g10, 0, none⟩) 1 cap10)
 have hgk : wk.heap.size ≤ g10 := hg10
 have hu4 := u4.lt
 have hbn4 : bp ≠ w.heap.size + 1 + 1 + 1 + 1 := by omega
 have hgn4 : g10 ≠ w.heap.size + 1 + 1 + 1 + 1 := by omega
 have hwk : w.heap.size ≤ wk.heap.size := hkj.size
 have o4 := v4.only hO (by omega)
 have oI := vI.only hO (by omega)
 have oT := vT.same (hO.block _ (fun e => hne2 e.symm)) (fun _ => hO.block _ hne3)
 have oB := Blk.set_ hSl.2.1 0 (.slice (some ⟨g10, 0, none⟩) 1 cap10)
 have oR := hB10'.only hO (by omega)
 generalize wl.setCell ⟨bp, 0, none⟩ (.slice (some ⟨g10, 0, none⟩) 1 cap10) = wm at *
 go_wp2_with (first
  | (refine wpList_load_row rfl 113 (.tmp 15) rfl wh.heap.size rfl 113 cy (0,0) _ oI Tryz.underlying113 rfl (by rw [info_16u8, hys]) ?_)
  | (refine wpList_store_all rfl 113 (.tmp 8) (.tmp 74) rfl (w.heap.size + 1 + 1 + 1 + 1) cy rfl rfl 113 #[.int .u8 0, .int .u8 0, .int .u8 0, .int .u8 0, .int .u8 0, .int .u8 0, .int .u8 0, .int .u8 0, .int .u8 0, .int .u8 0, .int .u8 0, .int .u8 0, .int .u8 0, .int .u8 0, .int .u8 0, .int .u8 0] o4 (by rw [info_16u8, hys]) (by rw [hys]; rfl) hyo ?_; intro wn hBn hOn)
  | (refine bodyPost_ret (results_cell2 rfl _ _ (w.heap.size + 1 + 1 + 1 + 1) 113 _ _ rfl hBn Tryz.underlying113 rfl (by rw [info_16u8, hys])) rfl ?_; refine ⟨rfl, ?_⟩))
 refine ⟨oT.same (hOn.block _ (by omega)) (fun _ => hOn.block _ (by omega)), ⟨g10, cap10, Blk.only oB hOn hbn4, (by rw [Array.length_toList, rowC_size _ _ _ hyl hX]), .inr ⟨g10, cap10, cur10, rfl, by omega, oR.only hOn hgn4, hc10, hm10, hs10, by unfold rowC; rw [hcx, hcy]; exact ht10⟩⟩, hOn.os.trans (hO.os.trans hkl.os), hOn.tape.trans (hO.tape.trans hkl.tape), hOn.output.trans (hO.output.trans hkl.output), by have := hOn.size; have := hO.size; have := hkl.size; omega, fun k h1 h2 h3 => (hOn.block k (by omega)).trans ((hO.block k h2).trans (hkl.block k h1 h3))⟩
end Go.Proofs.YthodpjcdmdbnoaaGreatDoor
