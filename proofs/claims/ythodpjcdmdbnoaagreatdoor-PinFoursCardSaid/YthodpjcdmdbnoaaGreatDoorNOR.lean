/- block.Cipher's wide and Do with an oracle, whatever its book answers. An oracle's cipher: its two states, and what it answers first and then. -/
import Derived.Test.YthodpjcdmdbnoaaGreatDoorNAskV
import Derived.Test.YthodpjcdmdbnoaaGreatDoorNCD
import Derived.Test.YthodpjcdmdbnoaaGreatDoorNPF
/- block.Cipher's wide and Do with an oracle, whatever its book answers. -/
namespace Go.Proofs.YthodpjcdmdbnoaaGreatDoor
open Go Go.RowKit Pr

def keyS (key : List Nat) : ByteArray := ⟨(key.map UInt8.ofNat).toArray⟩
/-- what the oracle answers, and what holds then -/
def AskOut (w : World) (bp tp gr : Nat) (r : Option (List Nat)) (E : World → Prop) (none_ : Value) (some_ : List Nat → World → Value → Prop) (e : Ending) (w' : World) : Prop :=
 (match r with
 | some y => (∃ u, e = .returned (.tuple #[u, .nilIface]) ∧ some_ y w' u) ∧ E w'
 | none => ∃ v k, e = .returned (.tuple #[none_, v]) ∧ ErIs w' w.heap.size v (.fa k 13)) ∧ Fr3 bp tp gr w w'

section
variable {P : Program} {ops : Array Oper} {Q : Exit → Act → World → Prop} {S : World → Prop} {i : Nat} {o : Oper} {n : Sch} {a : Act} {w : World}
theorem t_to_key (ho : ops[i]? = some o) (hw : Region.wanted o (yielded ops a.tmps) = true) (src dst e : TypeId) (x : Operand) (hop : o.op = .convert src dst x) (hs : P.underlying src = some (.slice e)) (he : P.underlying e = some (.int .u8)) (hd : P.underlying dst = some .string)
    (b k cp m : Nat) (hx : a.eval x = .slice (some ⟨b, k, none⟩) m cp) (key : List Nat) (hm : key.length = m) (hb : Byt key) (hS : S w) (hB : ∀ W, S W → Bs W b k key)
    (h : wpT P ops Q S n (a.put o.dst (.string (keyS key))) w) : wpT P ops Q S (.q i n) a w :=
 t_q ho hw hS _ (fun W hW => by
  have hr := run_convert_bytes_back (P := P) W src dst e ⟨b, k, none⟩ cp (key.map UInt8.ofNat) hs he hd (fun j hj => by
   have hj' : j < key.length := by simpa using hj
   rw [Addr.add_mid, (hB W hW).cell j hj']
   simp [UInt8.toNat_ofNat_of_lt' (hb _ (List.getElem_mem hj'))])
  rw [List.length_map, hm] at hr
  unfold execOp
  simp only [hop, hx, Sem.run_bind, hr, Result.andThen_ok]
  rfl) h
end

set_option maxHeartbeats 4000000 in
set_option maxRecDepth 100000 in
theorem wide3_any (g gk cp bp tp gr : Nat) (key : List Nat) (kl : Nat) (hkl : key.length = kl) (hk0 : 0 < kl) (hkb : Byt key) (x : List Nat) (hx : x.length = 16) (back : Bool) (r : Option (List Nat)) (hr : ∀ y, r = some y → y.length = 16) (E : World → Prop) (w : World)
    (hB : Blk w g 62 #[.int .i64 3, .slice (some ⟨gk, 0, none⟩) kl cp, .pointer (some ⟨bp, 0, none⟩)]) (hK : Bs w gk 0 key) (n1 : g ≠ bp ∧ g ≠ tp ∧ g ≠ gr) (n2 : gk ≠ bp ∧ gk ≠ tp ∧ gk ≠ gr) (n3 : bp < w.heap.size ∧ tp < w.heap.size ∧ gr < w.heap.size)
    (hE : ∀ A B : World, E A → A.heap.size ≤ B.heap.size → (∀ k, k < A.heap.size → k ≠ w.heap.size + 1 → B.heap[k]? = A.heap[k]?) → E B)
    (hask : ∀ W, Below w.heap.size w W → W.heap.size = w.heap.size + 2 → Calls Tryz.prog 82 #[.pointer (some ⟨bp, 0, none⟩), .string (keyS key), .agg (byteCells x), .bool back] W
     (AskOut W bp tp gr r E (.agg (byteCells (List.replicate 16 0))) (fun y _ u => u = .agg (byteCells y)))) :
    Calls Tryz.prog 59 #[.pointer (some ⟨g, 0, none⟩), .agg (byteCells x), .bool back] w (AskOut w bp tp gr r E (.agg (byteCells (List.replicate 16 0))) (fun y _ u => u = .agg (byteCells y))) := by
 have hgl := hB.lt
 have hgk := hK.lt (ne_nil hkl hk0)
 obtain ⟨cx, hcx⟩ : ∃ cx, byteCells x = cx := ⟨_, rfl⟩
 have hxs : cx.size = 16 := by rw [← hcx, size_byteCells, hx]
 have hbx : ∀ W t, Blk W w.heap.size t cx → Bs W w.heap.size 0 x := fun W t hW => by
  rw [← hcx] at hW
  exact Bs.of_blk hW (fun j c hj => by rw [Nat.zero_add]; exact hj)
 have HBX := Lib.hid hbx; clear hbx
 have HASK := Lib.hid hask; clear hask
 have HE := Lib.hid hE; clear hE
 rw [hcx]
 have HX := Lib.hid hx
 clear hx hcx
 have hzl : (byteCells (List.replicate 16 0)).size = 16 := rfl
 have hzo : (byteCells (List.replicate 16 0)).all (·.oneCell') = true := bytes_one _
 have hZ : byteCells (List.replicate 16 0) = #[.int .u8 0, .int .u8 0, .int .u8 0, .int .u8 0, .int .u8 0, .int .u8 0, .int .u8 0, .int .u8 0, .int .u8 0, .int .u8 0, .int .u8 0, .int .u8 0, .int .u8 0, .int .u8 0, .int .u8 0, .int .u8 0] := rfl
 rw [hZ]
 obtain ⟨wa, hwa⟩ : ∃ x, w.alloc (.cells cx 113) = x := ⟨_, rfl⟩
 have zwa : wa.heap.size = w.heap.size + 1 := by rw [← hwa]; simp
 have bwa : Blk wa w.heap.size 113 cx := by rw [← hwa]; exact Blk.new w _ _
 have kwa : Below w.heap.size w wa := by rw [← hwa]; exact (Below.refl _ _).alloc (Nat.le_refl _) _
 obtain ⟨wb, hwb⟩ : ∃ x, wa.alloc (.cells #[.int .u8 0, .int .u8 0, .int .u8 0, .int .u8 0, .int .u8 0, .int .u8 0, .int .u8 0, .int .u8 0, .int .u8 0, .int .u8 0, .int .u8 0, .int .u8 0, .int .u8 0, .int .u8 0, .int .u8 0, .int .u8 0] 113) = x := ⟨_, rfl⟩
 have zwb : wb.heap.size = w.heap.size + 1 + 1 := by rw [← hwb]; simp [zwa]
 have bwb : Blk wb (w.heap.size + 1) 113 #[.int .u8 0, .int .u8 0, .int .u8 0, .int .u8 0, .int .u8 0, .int .u8 0, .int .u8 0, .int .u8 0, .int .u8 0, .int .u8 0, .int .u8 0, .int .u8 0, .int .u8 0, .int .u8 0, .int .u8 0, .int .u8 0] := by have := Blk.new wa 113 #[.int .u8 0, .int .u8 0, .int .u8 0, .int .u8 0, .int .u8 0, .int .u8 0, .int .u8 0, .int .u8 0, .int .u8 0, .int .u8 0, .int .u8 0, .int .u8 0, .int .u8 0, .int .u8 0, .int .u8 0, .int .u8 0]; rw [hwb, zwa] at this; exact this
 have bwab : Blk wb w.heap.size 113 cx := by rw [← hwb]; exact bwa.alloc _
 have kwb : Below w.heap.size w wb := by rw [← hwb]; exact kwa.alloc (by omega) _
 have c0 := (hB.below kwb hgl).cell 0
 clear bwa
 go_enter Tryz.func59, Tryz.ntmps59
 go_wp2_with fail
 refine wp_region_tree (.q 0 (.q 1 (.q 2 (.q 3 (.q 4 (.q 5 (.q 6 (.q 7 (.q 8 (.q 9 (.q 10 (.e [11] fun _ => .q 12 (.q 13 (.e [14] fun _ => .q 15 (.done)))))))))))))))
  (fun V => Blk V g 62 #[.int .i64 3, .slice (some ⟨gk, 0, none⟩) kl cp, .pointer (some ⟨bp, 0, none⟩)] ∧ Bs V gk 0 key ∧ Blk V w.heap.size 113 cx) rfl (by kernel_rfl) (fun _ _ d _ _ h => by cases d <;> exact h) ?_
 change wpT _ _ _ _ _ _ wb.drew
 have e1 := hB.below kwb hgl
 have e2 := hK.below kwb hgk
 have hS : Blk wb.drew g 62 #[.int .i64 3, .slice (some ⟨gk, 0, none⟩) kl cp, .pointer (some ⟨bp, 0, none⟩)] ∧ Bs wb.drew gk 0 key ∧ Blk wb.drew w.heap.size 113 cx := ⟨e1, e2, bwab⟩
 have hz1 : Blk wb.drew (w.heap.size + 1) 113 #[.int .u8 0, .int .u8 0, .int .u8 0, .int .u8 0, .int .u8 0, .int .u8 0, .int .u8 0, .int .u8 0, .int .u8 0, .int .u8 0, .int .u8 0, .int .u8 0, .int .u8 0, .int .u8 0, .int .u8 0, .int .u8 0] := bwb
 have hk1 := below_drewN kwb 1
 have hs1 : wb.drew.heap.size = w.heap.size + 2 := zwb
 change Below w.heap.size w wb.drew at hk1
 clear kwb bwab bwb e1 e2 c0 zwb hwb hwa
 generalize wb.drew = wc at *
 have HS1 := Lib.hid hs1; clear hs1
 iterate 3 (refine t_q rfl rfl hS _ (fun W hW => by (go_simp; rfl)) ?_; go_simp)
 refine t_q rfl rfl hS (.pointer (some ⟨bp, 0, none⟩)) (fun W hW => by (have hc := hW.1.cell 2; go_simp)) ?_
 go_simp
 iterate 3 (refine t_q rfl rfl hS _ (fun W hW => by (go_simp; rfl)) ?_; go_simp)
 refine t_q rfl rfl hS (.slice (some ⟨gk, 0, none⟩) kl cp) (fun W hW => by (have hc := hW.1.cell 1; go_simp)) ?_
 go_simp
 refine t_to_key rfl rfl 22 9 5 (.tmp 21) rfl Tryz.underlying22 Tryz.underlying5 Tryz.underlying9 gk 0 cp kl rfl key hkl hkb hS (fun W hW => hW.2.1) ?_
 go_simp
 refine t_load_bs rfl rfl 113 (.tmp 4) rfl w.heap.size 0 rfl x hS (fun W hW => HBX.out W _ hW.2.2) _ Tryz.underlying113 rfl (by rw [info_16u8, HX.out]) ?_
 go_simp
 refine t_q rfl rfl hS _ (fun W hW => by (go_simp; rfl)) ?_
 go_simp
 refine t_e rfl rfl fun K hK => ?_
 go_simp
 refine (HASK.out _ hk1 HS1.out).mono ?_
 rintro e wd ⟨hres, hF⟩
 have hsz := HS1.out
 have hg1 := hS.1.lt
 have hS3 : Blk wd g 62 #[.int .i64 3, .slice (some ⟨gk, 0, none⟩) kl cp, .pointer (some ⟨bp, 0, none⟩)] ∧ Bs wd gk 0 key ∧ Blk wd w.heap.size 113 cx :=
  ⟨(hF.block g (by omega) n1.1 n1.2.1 n1.2.2).trans hS.1, fun j v hv => (World.cell?_of_block (hF.block gk (by omega) n2.1 n2.2.1 n2.2.2)).trans (hS.2.1 j v hv), (hF.block _ (by omega) (by omega) (by omega) (by omega)).trans hS.2.2⟩
 have hz3 : Blk wd (w.heap.size + 1) 113 #[.int .u8 0, .int .u8 0, .int .u8 0, .int .u8 0, .int .u8 0, .int .u8 0, .int .u8 0, .int .u8 0, .int .u8 0, .int .u8 0, .int .u8 0, .int .u8 0, .int .u8 0, .int .u8 0, .int .u8 0, .int .u8 0] := (hF.block _ (by omega) (by omega) (by omega) (by omega)).trans hz1
 have hFw : Fr3 bp tp gr w wd := ⟨hF.os.trans hk1.os, hF.tape.trans hk1.tape, hF.output.trans hk1.output, Nat.le_trans hk1.size hF.size, fun k h1 h2 h3 h4 => (hF.block k (by omega) h2 h3 h4).trans (hk1.block k h1)⟩
 have hsd := hF.size
 have hcc : ∃ cy v, e = .returned (.tuple #[.agg cy, v]) ∧ cy.size = 16 ∧ cy.all (·.oneCell') = true ∧ ∀ w5, Only (w.heap.size + 1) wd w5 → AskOut w bp tp gr r E (.agg #[.int .u8 0, .int .u8 0, .int .u8 0, .int .u8 0, .int .u8 0, .int .u8 0, .int .u8 0, .int .u8 0, .int .u8 0, .int .u8 0, .int .u8 0, .int .u8 0, .int .u8 0, .int .u8 0, .int .u8 0, .int .u8 0]) (fun y _ u => u = .agg (byteCells y)) (.returned (.tuple #[.agg cy, v])) w5 := by
  cases r with
  | none =>
   obtain ⟨v, k, rfl, g1, rfl, hg1, hB1⟩ := hres
   exact ⟨_, _, rfl, hzl, hzo, fun w5 h5 => ⟨⟨_, _, rfl, g1, rfl, by omega, hB1.only h5 (by omega)⟩, hFw.only h5 (.inl (by omega))⟩⟩
  | some y =>
   obtain ⟨⟨u, rfl, rfl⟩, hEd⟩ := hres
   exact ⟨_, _, rfl, by rw [size_byteCells, hr y rfl], bytes_one _, fun w5 h5 => ⟨⟨⟨_, rfl, rfl⟩, HE.out wd w5 hEd (by have := h5.size; omega) (fun k _ hk => h5.block k hk)⟩, hFw.only h5 (.inl (by omega))⟩⟩
 obtain ⟨cy, v, rfl, hcs, hco, hfin⟩ := hcc
 have HFIN := Lib.hid hfin; clear hfin hres
 refine hK _ _ hS3 ?_
 clear hK K hS hz1
 go_simp
 iterate 2 (refine t_q rfl rfl hS3 _ (fun W hW => by (go_simp; rfl)) ?_; go_simp)
 refine t_e rfl rfl fun K hK => ?_
 refine op_store_row 113 (.tmp 6) (.tmp 26) rfl (w.heap.size + 1) cy rfl rfl 113 _ hz3 (by rw [info_16u8, hcs]) (by rw [hcs]; rfl) hco fun w5 hB5 hO5 => ?_
 have hS5 : Blk w5 g 62 #[.int .i64 3, .slice (some ⟨gk, 0, none⟩) kl cp, .pointer (some ⟨bp, 0, none⟩)] ∧ Bs w5 gk 0 key ∧ Blk w5 w.heap.size 113 cx := ⟨hS3.1.only hO5 (by omega), hS3.2.1.only hO5 (by omega), hS3.2.2.only hO5 (by omega)⟩
 refine hK _ _ hS5 ?_
 clear hK K hS3 hz3
 go_simp
 refine t_q rfl rfl hS5 _ (fun W hW => by (go_simp; rfl)) ?_
 go_simp
 refine t_done ?_
 have hq := HFIN.out _ hO5
 have HQ := Lib.hid hq; clear hq
 go_wp2_with (first | (refine bodyPost_ret (results_agg_tmp rfl _ _ (w.heap.size + 1) 113 cy _ (by rfl) hB5 Tryz.underlying113 rfl (by rw [info_16u8, hcs]) _ (by rfl)) rfl ?_; exact HQ.out))

set_option maxHeartbeats 4000000 in
set_option maxRecDepth 100000 in
theorem do3_any (g gk cp bp tp gr : Nat) (key : List Nat) (kl : Nat) (hkl : key.length = kl) (hk0 : 0 < kl) (hkb : Byt key) (x : List Nat) (hx : x.length = 16) (back : Bool) (A : Option Addr) (cx : Nat) (r : Option (List Nat)) (hr : ∀ y, r = some y → y.length = 16) (E : World → Prop) (w : World)
    (hB : Blk w g 62 #[.int .i64 3, .slice (some ⟨gk, 0, none⟩) kl cp, .pointer (some ⟨bp, 0, none⟩)]) (hcp : kl ≤ cp) (hK : Bs w gk 0 key) (n1 : g ≠ bp ∧ g ≠ tp ∧ g ≠ gr) (n2 : gk ≠ bp ∧ gk ≠ tp ∧ gk ≠ gr) (n3 : bp < w.heap.size ∧ tp < w.heap.size ∧ gr < w.heap.size) (hA : At w A x)
    (hE : ∀ A B : World, E A → A.heap.size ≤ B.heap.size → (∀ k, k < A.heap.size → k ≠ w.heap.size + 1 → B.heap[k]? = A.heap[k]?) → E B)
    (hask : ∀ W, Below w.heap.size w W → W.heap.size = w.heap.size + 2 → Calls Tryz.prog 82 #[.pointer (some ⟨bp, 0, none⟩), .string (keyS key), .agg (byteCells x), .bool back] W
     (AskOut W bp tp gr r E (.agg (byteCells (List.replicate 16 0))) (fun y _ u => u = .agg (byteCells y)))) :
    Calls Tryz.prog 30 #[.pointer (some ⟨g, 0, none⟩), .slice A 16 cx, .bool back] w (AskOut w bp tp gr r E (.slice none 0 0) (fun y w' u => ∃ gv, u = .slice (some ⟨gv, 0, none⟩) 16 16 ∧ w.heap.size ≤ gv ∧ Blk w' gv 113 (byteCells y))) := by
 have HW := Lib.hid (wide3_any g gk cp bp tp gr key kl hkl hk0 hkb x hx back r hr E w hB hK n1 n2 n3 hE hask)
 obtain ⟨cz, hcz⟩ : ∃ c, byteCells (List.replicate 16 0) = c := ⟨_, rfl⟩
 have hzs : cz.size = 16 := by rw [← hcz]; rfl
 have hzo : cz.all (·.oneCell') = true := by rw [← hcz]; exact bytes_one _
 rw [hcz] at HW
 clear hcz
 have HSZ := Lib.hid (size_any 3 g (by omega) key (.pointer (some ⟨bp, 0, none⟩)) w ⟨gk, cp, by rw [hkl]; exact hB, by rw [hkl]; exact hcp, hK, hK.lt (ne_nil hkl hk0)⟩)
 obtain ⟨bx, ox, rfl, hBx⟩ := hA (ne_nil hx (by omega))
 have c0 := hB.cell 0
 have HE := Lib.hid hE; clear hE
 have HR := Lib.hid hr; clear hr
 clear hask hkb hA
 have harr : ∀ a c W, (Instr.arrayAt 113 (.slice a 16 c)).run Tryz.prog W = .ok (.pointer a) W := fun a c W => run_arrayAt _ 5 16 Tryz.underlying113 a 16 c (Nat.le_refl _) W
 go_enter Tryz.func30, Tryz.ntmps30
 go_wp2_with fail
 refine (HSZ.out).mono ?_
 rintro e w1 ⟨rfl, rfl⟩
 have f16 : sizeN 3 = 16 := rfl
 rw [f16]
 go_wp2_with (refine wpList_load_bs rfl 113 (.tmp 42) rfl bx ox rfl x hBx _ Tryz.underlying113 rfl (by rw [info_16u8, hx]) ?_)
 refine (HW.out).mono ?_
 rintro e w3 ⟨hres, hF⟩
 have hs3 := hF.size
 cases r with
 | none =>
  obtain ⟨v, k, rfl, g1, rfl, hg1, hB1⟩ := hres
  go_wp2_with (refine wpList_store_all rfl 113 (.tmp 10) (.tmp 46) rfl w3.heap.size cz rfl rfl 113 _ (Blk.new w3 _ _) (by rw [info_16u8, hzs]) (by rw [hzs]; rfl) hzo ?_; intro w5 hB5 hO5)
  go_ret2
  exact ⟨⟨_, _, rfl, g1, rfl, hg1, (hB1.alloc _).only hO5 (by have := hB1.lt; omega)⟩, (hF.below ((Below.refl _ _).alloc (Nat.le_refl _) _) hs3).only hO5 (.inl (by omega))⟩
 | some y =>
  obtain ⟨⟨u, rfl, rfl⟩, hE3⟩ := hres
  have hyl := HR.out y rfl
  go_wp2_with (refine wpList_store_all rfl 113 (.tmp 10) (.tmp 46) rfl w3.heap.size (byteCells y) rfl rfl 113 _ (Blk.new w3 _ _) (by rw [info_16u8, size_byteCells, hyl]) (by rw [size_byteCells, hyl]; rfl) (bytes_one _) ?_; intro w5 hB5 hO5)
  go_ret2
  have hal := (Below.refl w3.heap.size w3).alloc (Nat.le_refl _) (.cells #[.int .u8 0, .int .u8 0, .int .u8 0, .int .u8 0, .int .u8 0, .int .u8 0, .int .u8 0, .int .u8 0, .int .u8 0, .int .u8 0, .int .u8 0, .int .u8 0, .int .u8 0, .int .u8 0, .int .u8 0, .int .u8 0] 113)
  have hsO := hO5.size
  have hsA := hal.size
  exact ⟨⟨⟨_, rfl, w3.heap.size, rfl, hs3, hB5⟩, HE.out w3 w5 hE3 (by omega) (fun k hk _ => (hO5.block k (by omega)).trans (hal.block k hk))⟩, (hF.below hal hs3).only hO5 (.inl (by omega))⟩
end Go.Proofs.YthodpjcdmdbnoaaGreatDoor

/- An oracle's cipher: its two states, and what it answers first and then. -/
namespace Go.Proofs.YthodpjcdmdbnoaaGreatDoor
open Go Go.RowKit Pr

/-- where an oracle's cipher lies: cipher, key, book, tape, the tape's bytes; all known to the world w and apart -/
structure OrAt (w : World) (g gk bp tp tb : Nat) : Prop where
 l1 : g < w.heap.size
 l2 : gk < w.heap.size
 l3 : bp < w.heap.size
 l4 : tp < w.heap.size
 l5 : tb < w.heap.size
 n1 : g ≠ bp ∧ g ≠ tp
 n2 : gk ≠ bp ∧ gk ≠ tp
 n3 : bp ≠ tp
 n4 : tb ≠ bp
/-- the cipher and its key; the world apart from book and tape -/
def OrC (w : World) (g gk cp bp tp : Nat) (key : List Nat) (W : World) : Prop :=
 Fr3 bp tp bp w W ∧ Blk W g 62 #[.int .i64 3, .slice (some ⟨gk, 0, none⟩) key.length cp, .pointer (some ⟨bp, 0, none⟩)] ∧ Bs W gk 0 key
def Or0 (w : World) (g gk cp bp tp tb : Nat) (key T : List Nat) (W : World) : Prop := OrC w g gk cp bp tp key W ∧ Book0 W bp tp ∧ TapeAt W tp tb T
def OrRow (b bp tp tb : Nat) (key : ByteArray) (I O D : List Nat) (W : World) : Prop :=
 TapeAt W tp tb D ∧ ∃ gr cr, b ≤ gr ∧ Blk W bp 65 #[.slice (some ⟨gr, 0, none⟩) 1 cr, .pointer (some ⟨tp, 0, none⟩)] ∧ W.ownsRow 0 178 33 (.slice (some ⟨gr, 0, none⟩) 1 cr) 1 (rowC key I O).toList
def Or1 (w : World) (g gk cp bp tp tb : Nat) (key T : List Nat) (back : Bool) (x : List Nat) (W : World) : Prop :=
 OrC w g gk cp bp tp key W ∧ OrRow w.heap.size bp tp tb (keyS key) (if back then T.take 16 else x) (if back then x else T.take 16) (T.drop 16) W
def OrF0 (T : List Nat) (_ : List Nat) : Option (List Nat) := if T.length < 16 then none else some (T.take 16)
def OrF1 (T : List Nat) (x z : List Nat) : Option (List Nat) := askN x (T.take 16) z (T.drop 16).length (T.drop 16)

theorem fr3_more {x y z : Nat} {w A B : World} (h : Fr3 x y z w A) (hb : Below A.heap.size A B) : Fr3 x y z w B := h.below hb h.size
theorem OrC.more {w : World} {g gk cp bp tp : Nat} {key : List Nat} {A B : World} (hk : key ≠ []) (h : OrC w g gk cp bp tp key A) (hb : Below A.heap.size A B) : OrC w g gk cp bp tp key B :=
 ⟨fr3_more h.1 hb, h.2.1.below hb h.2.1.lt, h.2.2.below hb (h.2.2.lt hk)⟩
theorem OrRow.lt {b bp tp tb : Nat} {key : ByteArray} {I O D : List Nat} {A : World} (h : OrRow b bp tp tb key I O D A) : bp < A.heap.size := by
 obtain ⟨_, gr, cr, _, hB, _⟩ := h
 exact hB.lt
theorem OrRow.keep {b q bp tp tb : Nat} {key : ByteArray} {I O D : List Nat} {A B : World} (h : OrRow b bp tp tb key I O D A) (hq : bp ≠ q ∧ tp ≠ q ∧ (D ≠ [] → tb ≠ q) ∧ q < b) (h1 : ∀ k, k < A.heap.size → k ≠ q → B.heap[k]? = A.heap[k]?) : OrRow b bp tp tb key I O D B := by
 obtain ⟨hT, gr, cr, hg, hB, hO⟩ := h
 have hTl := hT.lt
 exact ⟨hT.same (h1 _ hTl.1 hq.2.1) (fun hn => h1 _ (hTl.2 hn) (hq.2.2.1 hn)), gr, cr, hg, (h1 _ hB.lt hq.1).trans hB, ownsRow_same hO (h1 _ (hO.lt gr rfl).2 (by omega))⟩
theorem OrRow.more {b bp tp tb : Nat} {key : ByteArray} {I O D : List Nat} {A B : World} (h : OrRow b bp tp tb key I O D A) (hb : Below A.heap.size A B) : OrRow b bp tp tb key I O D B := by
 obtain ⟨hT, gr, cr, hg, hB, hO⟩ := h
 exact ⟨hT.below hb, gr, cr, hg, hB.below hb hB.lt, ownsRow_same hO (hb.block _ (hO.lt gr rfl).2)⟩
theorem or0_ok {w : World} {g gk cp bp tp tb : Nat} {key T : List Nat} (hk : key ≠ []) : StOk w (Or0 w g gk cp bp tp tb key T) where
 more := fun _ _ h hb => ⟨h.1.more hk hb, Blk.below h.2.1 hb h.2.1.lt, h.2.2.below hb⟩
 size := fun _ h => h.1.1.size
theorem or1_ok {w : World} {g gk cp bp tp tb : Nat} {key T : List Nat} {back : Bool} (hk : key ≠ []) (x : List Nat) : StOk w (Or1 w g gk cp bp tp tb key T back x) where
 more := fun _ _ h hb => ⟨h.1.more hk hb, h.2.more hb⟩
 size := fun _ h => h.1.1.size
theorem fr3_ok {w : World} {x y z : Nat} : StOk w (Fr3 x y z w) where
 more := fun _ _ h hb => fr3_more h hb
 size := fun _ h => h.size
theorem orF0_good {T : List Nat} (hT : Byt T) : Good16 (OrF0 T) := fun x y _ _ h => by
 unfold OrF0 at h
 split at h
 ·
  cases h
 ·
  injection h with h
  subst h
  exact ⟨by rw [List.length_take]; omega, fun c hc => hT c (List.mem_of_mem_take hc)⟩
theorem orF1_good {T : List Nat} (h16 : ¬ T.length < 16) (hT : Byt T) (x : List Nat) : Good16 (OrF1 T x) := fun z y _ _ h => by
 unfold OrF1 askN at h
 split at h
 ·
  injection h with h
  subst h
  exact ⟨by rw [List.length_take]; omega, fun c hc => hT c (List.mem_of_mem_take hc)⟩
 ·
  cases hd : drawN (T.take 16) (T.drop 16).length (T.drop 16) with
  | none => rw [hd] at h; cases h
  | some yD =>
   rw [hd] at h
   injection h with h
   obtain ⟨y', D⟩ := yD
   obtain rfl : y' = y := h
   exact ⟨drawN_len hd, drawN_byt (fun c hc => hT c (List.mem_of_mem_drop hc)) hd⟩

/-- a frame behind a frame -/
theorem Fr3.trans {x y z u : Nat} {a b c : World} (h : Fr3 x y z a b) (k : Fr3 x y u b c) (hu : u = x ∨ a.heap.size ≤ u) : Fr3 x y z a c :=
 ⟨k.os.trans h.os, k.tape.trans h.tape, k.output.trans h.output, Nat.le_trans h.size k.size, fun q h1 h2 h3 h4 => (k.block q (Nat.lt_of_lt_of_le h1 h.size) h2 h3 (by omega)).trans (h.block q h1 h2 h3 h4)⟩
theorem OrC.after {w : World} {g gk cp bp tp tb u : Nat} {key : List Nat} {A B : World} (ho : OrAt w g gk bp tp tb) (h : OrC w g gk cp bp tp key A) (k : Fr3 bp tp u A B) (hu : u = bp ∨ w.heap.size ≤ u) : OrC w g gk cp bp tp key B := by
 have hs := h.1.size
 have h1 := ho.l1
 have h2 := ho.l2
 have h3 := ho.n1
 have h4 := ho.n2
 have h5 := ho.l3
 exact ⟨h.1.trans k hu, (k.block g (by omega) h3.1 h3.2 (by omega)).trans h.2.1, fun j v hv => (World.cell?_of_block (k.block gk (by omega) h4.1 h4.2 (by omega))).trans (h.2.2 j v hv)⟩

/-- the first answer -/
theorem or_first (w : World) (g gk cp bp tp tb : Nat) (key T : List Nat) (kl : Nat) (hkl : key.length = kl) (hk0 : 0 < kl) (hcp : kl ≤ cp) (hkb : Byt key) (hT : T.length ≤ 100000) (back : Bool) (ho : OrAt w g gk bp tp tb) :
    DoStep g back (Or0 w g gk cp bp tp tb key T) (OrF0 T) (Or1 w g gk cp bp tp tb key T back) (Fr3 bp tp bp w) := by
 intro W A c x hx bx hS hA
 have hs := hS.1.1.size
 have hn := ho.n1
 have hn2 := ho.n2
 have h3 := ho.l3
 have h4 := ho.l4
 have h5 := ho.l5
 have key' := do3_any g gk cp bp tp bp key kl hkl hk0 hkb x hx back A c (OrF0 T x) (fun y hy => by
     unfold OrF0 at hy
     split at hy
     ·
      cases hy
     ·
      injection hy with hy
      subst hy
      rw [List.length_take]
      omega) (OrRow (W.heap.size + 2) bp tp tb (keyS key) (if back then T.take 16 else x) (if back then x else T.take 16) (T.drop 16)) W (by rw [← hkl]; exact hS.1.2.1) hcp hS.1.2.2 ⟨hn.1, hn.2, hn.1⟩ ⟨hn2.1, hn2.2, hn2.1⟩ ⟨by omega, by omega, by omega⟩ hA
  (fun P Q hP _ hk => hP.keep (q := W.heap.size + 1) ⟨by omega, by omega, fun _ => by omega, by omega⟩ hk)
  (fun V hV hVs => by
   have hB := Blk.below hS.2.1 hV hS.2.1.lt
   have hTp := hS.2.2.below hV
   by_cases h16 : T.length < 16
   ·
    have e0 : OrF0 T x = none := by unfold OrF0; rw [if_pos h16]
    rw [e0]
    refine (ask0_end T T.length rfl h16 bp tp tb (keyS key) x back V hB hTp).mono ?_
    rintro e V' ⟨⟨v, rfl, hv⟩, hb⟩
    exact ⟨⟨v, _, rfl, hv⟩, fr3_below hb⟩
   ·
    have e0 : OrF0 T x = some (T.take 16) := by unfold OrF0; rw [if_neg h16]
    rw [e0]
    have fin : ∀ I O e V', e = .returned (.tuple #[.agg (byteCells (T.take 16)), .nilIface]) ∧ Asked V V' bp tp tb (keyS key) I O (T.drop 16) → AskOut V bp tp bp (some (T.take 16)) (OrRow (W.heap.size + 2) bp tp tb (keyS key) I O (T.drop 16)) (.agg (byteCells (List.replicate 16 0))) (fun y _ u => u = .agg (byteCells y)) e V' := by
     rintro I O e V' ⟨rfl, hTt, ⟨gr, cr, hBB, hOO⟩, q1, q2, q3, q4, q5⟩
     have hg := (hOO.lt gr rfl).1
     exact ⟨⟨⟨_, rfl, rfl⟩, hTt, gr, cr, by omega, hBB, ⟨hOO.1, hOO.2.imp id fun ⟨g9, cap9, cur9, h1, _, h3⟩ => ⟨g9, cap9, cur9, h1, Nat.zero_le _, h3⟩⟩⟩, ⟨q1, q2, q3, q4, fun k k1 k2 k3 _ => q5 k k1 k2 k3⟩⟩
    cases back
    ·
     exact (ask0_ok T T.length rfl (by omega) hT bp tp tb (keyS key) x hx false rfl V hB hTp ho.n3 ho.n4 (by omega)).mono (fin _ _)
    ·
     exact (ask0_back T T.length rfl (by omega) hT bp tp tb (keyS key) x hx true rfl V hB hTp ho.n3 ho.n4 (by omega)).mono (fin _ _))
 refine key'.mono ?_
 rintro e V ⟨h1, hF⟩
 have hC := hS.1.after ho hF (.inl rfl)
 cases hr : OrF0 T x with
 | none =>
  rw [hr] at h1
  obtain ⟨v, k, rfl, hv⟩ := h1
  exact ⟨⟨v, k, rfl, hv⟩, hC.1⟩
 | some y =>
  rw [hr] at h1
  obtain ⟨⟨u, rfl, gv, rfl, hgv, hBv⟩, hE⟩ := h1
  obtain ⟨hTt, gr, cr, hg, hBB, hOO⟩ := hE
  exact ⟨⟨gv, rfl, hgv, hBv⟩, hC, hTt, gr, cr, by omega, hBB, hOO⟩

/-- the second one -/
theorem or_second (w : World) (g gk cp bp tp tb : Nat) (key T : List Nat) (kl : Nat) (hkl : key.length = kl) (hk0 : 0 < kl) (hcp : kl ≤ cp) (hkb : Byt key) (hT : T.length ≤ 100000) (bT : Byt T) (h16 : ¬ T.length < 16) (back : Bool) (ho : OrAt w g gk bp tp tb) (x : List Nat) (hx : x.length = 16) (bx : Byt x) :
    DoStep g back (Or1 w g gk cp bp tp tb key T back x) (OrF1 T x) (fun _ => Fr3 bp tp bp w) (Fr3 bp tp bp w) := by
 intro W A c z hz bz hS hA
 have hs := hS.1.1.size
 have hn := ho.n1
 have hn2 := ho.n2
 have h3 := ho.l3
 have h4 := ho.l4
 have h5 := ho.l5
 have h6 := ho.l1
 have h7 := ho.l2
 obtain ⟨hC, hTt, gr, cr, hg, hBB, hOO⟩ := hS
 have hgl := (hOO.lt gr rfl).2
 have hyl : (T.take 16).length = 16 := by rw [List.length_take]; omega
 have by' : Byt (T.take 16) := fun c hc => bT c (List.mem_of_mem_take hc)
 have bd : Byt (T.drop 16) := fun c hc => bT c (List.mem_of_mem_drop hc)
 have key' := do3_any g gk cp bp tp gr key kl hkl hk0 hkb z hz back A c (OrF1 T x z) (fun y hy => (orF1_good h16 bT x z y hz bz hy).1) (fun _ => True) W (by rw [← hkl]; exact hC.2.1) hcp hC.2.2 ⟨hn.1, hn.2, by omega⟩ ⟨hn2.1, hn2.2, by omega⟩ ⟨by omega, by omega, hgl⟩ hA
  (fun _ _ _ _ _ => trivial)
  (fun V hV hVs => by
   have ha := ask1_any (T.drop 16).length (T.drop 16) (Nat.le_refl _) (by rw [List.length_drop]; omega) bd bp tp tb gr cr (keyS key) (if back then T.take 16 else x) (if back then x else T.take 16) z (by split <;> assumption) (by split <;> assumption) hz (by split <;> assumption) (by split <;> assumption) bz back V
    (hBB.below hV hBB.lt) (ownsRow_same hOO (hV.block _ hgl)) (hTt.below hV) ho.n3 (by omega) (by omega)
   refine ha.mono ?_
   have e1 : (if back then (if back then x else T.take 16) else (if back then T.take 16 else x)) = x := by cases back <;> rfl
   have e2 : (if back then (if back then T.take 16 else x) else (if back then x else T.take 16)) = T.take 16 := by cases back <;> rfl
   rw [e1, e2]
   rintro e V' ⟨h1, hF⟩
   unfold OrF1
   cases hr : askN x (T.take 16) z (T.drop 16).length (T.drop 16) with
   | none =>
    rw [hr] at h1
    exact ⟨h1, hF⟩
   | some y =>
    rw [hr] at h1
    exact ⟨⟨⟨_, h1, rfl⟩, trivial⟩, hF⟩)
 refine key'.mono ?_
 rintro e V ⟨h1, hF⟩
 have hFF := hC.1.trans hF (.inr hg)
 cases hr : OrF1 T x z with
 | none =>
  rw [hr] at h1
  obtain ⟨v, k, rfl, hv⟩ := h1
  exact ⟨⟨v, k, rfl, hv⟩, hFF⟩
 | some y =>
  rw [hr] at h1
  obtain ⟨⟨u, rfl, gv, rfl, hgv, hBv⟩, _⟩ := h1
  exact ⟨⟨gv, rfl, hgv, hBv⟩, hFF⟩
end Go.Proofs.YthodpjcdmdbnoaaGreatDoor
