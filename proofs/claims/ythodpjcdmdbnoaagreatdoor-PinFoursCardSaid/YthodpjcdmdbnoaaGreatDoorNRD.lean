/- The contract of lockboxref05.Do: TDES both ways, AES enciphering. Laws of single operations in a drawn region's schedule: two at once, a row loaded, a slice appended. lockboxref05.Do of an oracle. -/
import Derived.Test.YthodpjcdmdbnoaaGreatDoorNR3
import Derived.Test.YthodpjcdmdbnoaaGreatDoorNRefE
import Derived.Test.YthodpjcdmdbnoaaGreatDoorNMH
/- The contract of lockboxref05.Do: TDES both ways, AES enciphering. -/
namespace Go.Proofs.YthodpjcdmdbnoaaGreatDoor
open Go Go.RowKit Pr

theorem info_book : (Tryz.prog.info? 45).map (·.size) = some 2 := by kernel_rfl
set_option maxHeartbeats 4000000 in
set_option maxRecDepth 100000 in
theorem refDo1e_any (key : List Nat) (kl nr : Nat) (hk : AesK kl nr) (hkl : key.length = kl) (gk : Byt key) (x : List Nat) (hx : x.length = 16) (gx : Byt x) (A B : Option Addr) (ca cb : Nat) (r0 r1 : Option Addr) (n0 n1 c0 c1 : Nat) (w : World) (hA : At w A key) (hB : At w B x) :
    Calls Tryz.prog 37 #[.int .i64 1, .slice A kl ca, .agg #[.slice r0 n0 c0, .slice r1 n1 c1], .slice B 16 cb, .bool false] w fun e w' => (∃ gv cv, e = .returned (.tuple #[.agg #[.slice r0 n0 c0, .slice r1 n1 c1], .slice (some ⟨gv, 0, none⟩) 16 cv, .bool true]) ∧ w.heap.size ≤ gv ∧ gv < w'.heap.size ∧ 16 ≤ cv ∧ Bs w' gv 0 (aesN key x false)) ∧ Below w.heap.size w w' := by
 have hq : aesN key x false = encG x (wordsG key) nr := by unfold aesN; rw [hkl, hk.nr.1]; rfl
 rw [hq]
 have HC := Lib.hid (fun A cp W hA => refEncrypt_any key x kl nr hk hkl gk hx gx A cp W hA)
 have hl := aesN_len key x false
 rw [hq] at hl
 clear hq
 generalize encG x (wordsG key) nr = T at *
 have HL := Lib.hid hl; clear hl
 have HX := Lib.hid hx
 obtain ⟨b, o, rfl, hBx⟩ := hB (by intro h; rw [h] at hx; cases hx)
 have hbl := hBx.lt (by intro h; rw [h] at hx; cases hx)
 have HA := Lib.hid (fun W (hb : Below w.heap.size w W) => hA.below hb (Nat.le_refl _))
 have HBX := Lib.hid (fun W (hb : Below w.heap.size w W) => hBx.below hb hbl)
 clear hA hB gk gx hkl hk hx hBx
 obtain ⟨cs, hcs⟩ : ∃ cs, #[Value.slice r0 n0 c0, Value.slice r1 n1 c1] = cs := ⟨_, rfl⟩
 have hcz : cs.size = 2 := by rw [← hcs]; rfl
 have hco : cs.all (·.oneCell') = true := by rw [← hcs]; simp [Value.oneCell']
 rw [hcs]
 have HCS := Lib.hid hcs; clear hcs
 have HCZ := Lib.hid hcz; clear hcz
 have HCO := Lib.hid hco; clear hco
 have hS0 : Blk ((w.alloc (.cells cs 45)).alloc (.cells #[.slice none 0 0, .slice none 0 0] 45)) w.heap.size 45 cs := (Blk.new w _ _).alloc _
 have hR0 : Blk ((w.alloc (.cells cs 45)).alloc (.cells #[.slice none 0 0, .slice none 0 0] 45)) (w.heap.size + 1) 45 #[.slice none 0 0, .slice none 0 0] := Blk.new2 w _ _ _
 have hb0 : Below w.heap.size w ((w.alloc (.cells cs 45)).alloc (.cells #[.slice none 0 0, .slice none 0 0] 45)) := ((Below.refl _ _).alloc (Nat.le_refl _) _).alloc (by simp) _
 have hz0 : ((w.alloc (.cells cs 45)).alloc (.cells #[.slice none 0 0, .slice none 0 0] 45)).heap.size = w.heap.size + 2 := by simp
 have HS0 := Lib.hid hS0; clear hS0
 have HR0 := Lib.hid hR0; clear hR0
 have HB0 := Lib.hid hb0; clear hb0
 have HZ0 := Lib.hid hz0; clear hz0
 go_enter Tryz.func37, Tryz.ntmps37
 go_wp2_with (refine wpList_alloc_bytes rfl 113 rfl 16 zero_16 ?_; intro w1 hb1 hB1 hs1; have HB1 := Lib.hid hB1; have HS1 := Lib.hid hs1; clear hB1 hs1)
 have hG : ∀ W : World, W.heap.size = w.heap.size + 2 → W.heap.size = w.heap.size + 1 + 1 := fun W h => h
 have hb1' := HB0.out.trans (hb1.mono HB0.out.size)
 have hS1 := HS0.out.below hb1 HS0.out.lt
 have hR1 := HR0.out.below hb1 HR0.out.lt
 have hB1 : Blk w1 (w.heap.size + 2) 113 (byteCells (List.replicate 16 0)) := by rw [← HZ0.out]; exact HB1.out
 clear hG hb1 HB1 HS1
 obtain ⟨Z, hZ⟩ : ∃ Z, List.replicate 16 0 = Z := ⟨_, rfl⟩
 have hZl : Z.length = 16 := by rw [← hZ, List.length_replicate]
 rw [hZ] at hB1
 have HZL := Lib.hid hZl; clear hZl hZ
 have HB1 := Lib.hid hB1; clear hB1
 have HS1 := Lib.hid hS1; clear hS1 HS0
 have HR1 := Lib.hid hR1; clear hR1 HR0
 go_loopw [14] (fun i wr => ∃ k : Nat, k ≤ 16 ∧ i = .int .i64 k ∧ Blk wr (w.heap.size + 1 + 1) 113 (byteCells (partN x Z k)) ∧ Keep (w.heap.size + 1 + 1) w1 wr) (fun i _ => 16 - (intOf i).toNat)
 case atStart => exact ⟨0, by omega, rfl, by simpa [partN] using HB1.out, Keep.refl _ _⟩
 case round =>
  obtain ⟨k, hk, rfl, hBr, hbr⟩ := hrel
  by_cases hlt : k < 16
  ·
   have hpl := partN_len x Z k 16 HX.out HZL.out hk
   have hcx : wr.cell? ⟨b, o + k, none⟩ = some (.int .u8 (x.getD k 0 : Nat)) := (HBX.out wr (hbr.below hb1' (by have := hb1'.size; omega) (by omega))).cellD k (by rw [HX.out]; exact hlt)
   have hfr : wr.frozen? ⟨w.heap.size + 1 + 1, k, none⟩ = false := hBr.frozen k
   have hc0 : wr.cell? ⟨w.heap.size + 1 + 1, k, none⟩ = some (.int .u8 (Z.getD k 0 : Nat)) := by
    have := hBr.cell k
    rw [cellD _ k (by omega), partN_at x Z k 16 HX.out hlt] at this
    exact this
   have hst := partN_set x Z k 16 HX.out HZL.out hlt
   have hnx := hBr.set_ k (.int .u8 ((x.getD k 0 : Nat) : Int))
   rw [set_byteCells, hst] at hnx
   have hK2 := hbr.setCell k (.int .u8 ((x.getD k 0 : Nat) : Int))
   generalize x.getD k 0 = x1 at *
   generalize Z.getD k 0 = z1 at *
   have HNX := Lib.hid hnx; clear hnx hst hpl hBr
   have HK2 := Lib.hid hK2; clear hK2 hbr
   have hkI : (k : Int) < 16 := by omega
   go_wp2
   go_roundw
   case rel => exact ⟨k + 1, by omega, by go_num, HNX.out, HK2.out⟩
   case measure => simp [intOf]; omega
  ·
   obtain rfl : k = 16 := by omega
   rw [show ((16 : Nat) : Int) = 16 from rfl]
   rw [partN_end x Z 16 HX.out HZL.out] at hBr
   have hb2 : Below w.heap.size w wr := hbr.below hb1' (by have := hb1'.size; omega) (by omega)
   have hS2 := HS1.out.keep hbr (by omega)
   have hR2 := HR1.out.keep hbr (by omega)
   obtain ⟨w2, rfl⟩ : ∃ w2, w2 = wr := ⟨_, rfl⟩
   clear hbr hb1' HS1 HR1 HB1
   have hsx := Lib.hid (size_byteCells x)
   have hsT := Lib.hid (size_byteCells T)
   have HBr := Lib.hid hBr; clear hBr
   go_wp2_with (first
    | (refine wpList_load_row rfl 113 (.tmp 13) rfl (w.heap.size + 1 + 1) rfl 113 _ (0,0) _ HBr.out Tryz.underlying113 rfl (by rw [info_16u8, hsx.out, HX.out]) ?_))
   refine (HC.out _ _ _ (HA.out _ hb2)).mono ?_
   rintro e w3 ⟨rfl, hb3⟩
   have hB3 := HBr.out.below hb3 HBr.out.lt
   have hS3 := hS2.below hb3 hS2.lt
   have hR3 := hR2.below hb3 hR2.lt
   have hbel3 := hb2.trans (hb3.mono hb2.size)
   clear hS2 hR2 hb2 hb3 HBr
   go_wp2_with (refine wpList_store_all rfl 113 (.tmp 13) (.tmp 48) rfl (w.heap.size + 1 + 1) (byteCells T) rfl rfl 113 _ hB3 (by rw [info_16u8, hsT.out, HL.out]) (by rw [hsT.out, HL.out, hsx.out, HX.out]) (bytes_one _) ?_; intro w4 hB4 hO4)
   have hS4 := hS3.only hO4 (by omega)
   have hR4 := hR3.only hO4 (by omega)
   have hbel4 := hO4.below hbel3 (by omega)
   clear hS3 hR3 hbel3 hO4 hB3
   refine wp_region_tree (.q 0 (.q 1 (.e [2] fun _ => .q 3 (.q 4 (.done))))) (fun W => Blk W w.heap.size 45 cs) rfl (by kernel_rfl) (fun _ _ d _ _ h => by cases d <;> exact h) ?_
   have hS := hS4.drewN 1
   have hR := hR4.drewN 1
   have hBd := hB4.drewN 1
   have hb := below_drewN hbel4 1
   change wpT _ _ _ _ _ _ (World.drewN w4 1)
   clear hS4 hR4 hB4 hbel4
   generalize (World.drewN w4 1) = w5 at *
   refine t_load_row rfl rfl 45 (.tmp 7) rfl w.heap.size rfl 45 cs hS (fun W hW => hW) _ Tryz.underlying45 rfl (by rw [info_book, HCZ.out]) ?_
   go_simp
   refine t_q rfl rfl hS (.slice (some ⟨w.heap.size + 1 + 1, 0, none⟩) 16 16) (fun W hW => by go_simp) ?_
   go_simp
   refine t_e rfl rfl fun K hK => ?_
   refine op_store_row 45 (.tmp 10) (.tmp 49) rfl (w.heap.size + 1) cs rfl rfl 45 _ hR (by rw [info_book, HCZ.out]) (by rw [HCZ.out]; rfl) HCO.out fun w6 hB6 hO6 => ?_
   have hS6 := hS.only hO6 (by omega)
   have hbel6 := hO6.below hb (by omega)
   have hT6 : Bs w6 (w.heap.size + 1 + 1) 0 T := Bs.ofBlk (hBd.only hO6 (by omega))
   have hgl : w.heap.size + 1 + 1 < w6.heap.size := by rw [hO6.size]; exact hBd.lt
   refine hK _ _ hS6 ?_
   clear hK K
   go_simp
   iterate 2 (refine t_q rfl rfl hS6 _ (fun W hW => by (go_simp; rfl)) ?_; go_simp)
   refine t_done ?_
   go_wp2
   refine bodyPost_ret (results_cell3 rfl _ _ (w.heap.size + 1) 45 _ _ rfl hB6 Tryz.underlying45 rfl (by rw [info_book, HCZ.out])) rfl ?_
   exact ⟨⟨w.heap.size + 1 + 1, 16, rfl, by omega, hgl, Nat.le_refl _, hT6⟩, hbel6⟩
end Go.Proofs.YthodpjcdmdbnoaaGreatDoor

/- Laws of single operations in a drawn region's schedule: two at once, a row loaded, a slice appended. -/
namespace Go.Proofs.YthodpjcdmdbnoaaGreatDoor
open Go Go.RowKit Pr

section
variable {P : Program} {ops : Array Oper} {Q : Exit → Act → World → Prop} {S : World → Prop} {L : Nat} {i : Nat} {o : Oper} {n : Sch} {a : Act} {w : World}
theorem s_two {f : Nat → Sch} {j : Nat} {o2 : Oper} (ho : ops[i]? = some o) (hw : Region.wanted o (yielded ops a.tmps) = true) (ho2 : ops[j]? = some o2) (hw2 : Region.wanted o2 (yielded ops a.tmps) = true)
    (h1 : ∀ K : Act → World → Prop, (∀ a' w', (i ≠ L → S w') → wpS P ops Q S L (f i) a' w' → K a' w') → o.wp P a w K Q)
    (h2 : ∀ K : Act → World → Prop, (∀ a' w', (j ≠ L → S w') → wpS P ops Q S L (f j) a' w' → K a' w') → o2.wp P a w K Q) : wpS P ops Q S L (.e [i, j] f) a w := by
 intro k hk
 rcases List.mem_cons.1 hk with rfl | hk
 ·
  unfold wpOp
  simp only [ho, hw, if_true]
  exact .inl (h1 _ fun a' w' h1 h2 => ⟨h1, h2⟩)
 ·
  obtain rfl : k = j := by simpa using hk
  unfold wpOp
  simp only [ho2, hw2, if_true]
  exact .inl (h2 _ fun a' w' h1 h2 => ⟨h1, h2⟩)
theorem s_load_row (ho : ops[i]? = some o) (hw : Region.wanted o (yielded ops a.tmps) = true) (ty : TypeId) (x : Operand) (hop : o.op = .load ty x) (g : Nat) (hx : a.eval x = .pointer (some ⟨g, 0, none⟩)) (t : TypeId) (cs : Array Value) (hS : S w) (hB : ∀ W, S W → Blk W g t cs)
    (d : TypeDesc) (hu : P.underlying ty = some d) (hd : (match d with | .struct _ | .array _ _ => true | _ => false) = true) (hi : (P.info? ty).map (·.size) = some cs.size)
    (h : wpS P ops Q S L n (a.put o.dst (.agg cs)) w) : wpS P ops Q S L (.q i n) a w :=
 s_q ho hw hS _ (fun W hW => by
  unfold execOp
  simp only [hop, hx, Instr.loadAt, Instr.sureAddr, Sem.run_bind, Sem.run_pure, Result.andThen_ok, run_loadVar_row W g t ty cs (0, 0) d (hB W hW) hu hd hi]) h
theorem op_append_none {K : Act → World → Prop} (s x : Operand) (t : TypeId) (hop : o.op = .call { callee := .builtin .append, args := #[s, x], argTypes := #[t, t] })
    (base : Nat) (e : TypeId) (i : TypeInfo) (size : Nat) (ht : P.underlying t = some (.slice e)) (hi : P.info? e = some i) (v : Value) (n : Nat) (xs : List Value) (hs : a.eval s = v) (hown : w.ownsRow base e size v n xs) (hx : a.eval x = .slice none 0 0)
    (h : K (a.put o.dst v) w) : o.wp P a w K Q := by
 have hrun := run_append_owned_none (P := P) (w := w) base t o.type e i size ht hi v n xs hown
 unfold Oper.wp
 simp [execOp, hop, resolve, invoke, builtin, hs, hx, hrun, Result.andThen]
 exact h
theorem op_append_at {K : Act → World → Prop} (s x : Operand) (t : TypeId) (hop : o.op = .call { callee := .builtin .append, args := #[s, x], argTypes := #[t, t] })
    (base : Nat) (e : TypeId) (i : TypeInfo) (z : Value) (size bytes : Nat) (ht : P.underlying t = some (.slice e)) (hi : P.info? e = some i) (hz : i.zero = some z) (hsize : i.size = size) (hby : i.bytes = bytes) (hzs : z.cells.size = size) (hsz : 0 < size)
    (v : Value) (n : Nat) (xs : List Value) (hs : a.eval s = v) (hown : w.ownsRow base e size v n xs)
    (ad : Addr) (m c : Nat) (news : List Value) (hx : a.eval x = .slice (some ad) m c) (hl : news.length = m * size) (hnews : ∀ j u, news[j]? = some u → w.cell? (ad.add j) = some u) (h1 : ∀ u ∈ news, u.oneCell' = true)
    (h63 : n + m ≤ maxLen) (hbytes : (n + m) * bytes ≤ 140737488355328) (hbase : base ≤ w.heap.size)
    (h : ∀ v' w', w'.ownsRow base e size v' (n + m) (xs ++ news) → w.grownBy w' v.ownBlock → (v'.ownBlock = v.ownBlock ∨ v'.ownBlock = some w.heap.size) → K (a.put o.dst v') w') : o.wp P a w K Q := by
 obtain ⟨v', w', hr, h2, h3, _, h5⟩ := run_append_own_at (P := P) w base t o.type e i z size bytes ht hi hz hsize hby hzs hsz v n xs hown ad m c news hl hnews h1 h63 hbytes hbase
 unfold Oper.wp execOp
 simp only [hop, resolve, invoke, builtin, Sem.run_bind, Sem.run_pure, Result.andThen_ok, List.map_toArray, List.map_cons, List.map_nil, hs, hx, hr]
 exact h _ _ h2 h3 h5
end
theorem Blk.grown {w w' : World} {g : Nat} {t : TypeId} {cs : Array Value} {row : Option Nat} (h : Blk w g t cs) (hg : w.grownBy w' row) (hne : some g ≠ row) : Blk w' g t cs := (hg.block g h.lt hne).trans h
theorem Only.keep {g : Nat} {w w' : World} (h : Only g w w') : Keep g w w' := ⟨h.os, h.tape, h.output, by have := h.size; omega, fun i _ hi => h.block i hi⟩
end Go.Proofs.YthodpjcdmdbnoaaGreatDoor

/- lockboxref05.Do of an oracle. -/
namespace Go.Proofs.YthodpjcdmdbnoaaGreatDoor
open Go Go.RowKit Pr

set_option maxHeartbeats 4000000 in
set_option maxRecDepth 100000 in
theorem refDo3_any (kl : Nat) (r0 r1 AK A : Option Addr) (n0 n1 c0 c1 cK c : Nat) (back : Bool) (w : World) (R : Ending → World → Prop)
    (hR : ∀ e W, R e W → ∃ cs v b, e = .returned (.tuple #[.agg cs, v, .bool b]) ∧ cs.size = 2 ∧ cs.all (·.oneCell') = true)
    (hA : ∀ W, Below w.heap.size w W → Calls Tryz.prog 67 #[.agg #[.slice r0 n0 c0, .slice r1 n1 c1], .slice AK kl cK, .slice A 16 c, .bool back] W fun e W' => R e W' ∧ Below W.heap.size W W')
    (hM : ∀ e W W', R e W → Blk W (w.heap.size + 1) 45 #[.slice none 0 0, .slice none 0 0] → Only (w.heap.size + 1) W W' → R e W') :
    Calls Tryz.prog 37 #[.int .i64 3, .slice AK kl cK, .agg #[.slice r0 n0 c0, .slice r1 n1 c1], .slice A 16 c, .bool back] w fun e w' => R e w' ∧ Below w.heap.size w w' := by
 have HA := Lib.hid hA; clear hA
 have HR := Lib.hid hR; clear hR
 have HM := Lib.hid hM; clear hM
 obtain ⟨wa, hwa⟩ : ∃ x, w.alloc (.cells #[.slice r0 n0 c0, .slice r1 n1 c1] 45) = x := ⟨_, rfl⟩
 have zwa : wa.heap.size = w.heap.size + 1 := by rw [← hwa]; simp
 have bwa : Blk wa w.heap.size 45 #[.slice r0 n0 c0, .slice r1 n1 c1] := by rw [← hwa]; exact Blk.new w _ _
 have kwa : Below w.heap.size w wa := by rw [← hwa]; exact (Below.refl _ _).alloc (Nat.le_refl _) _
 obtain ⟨wb, hwb⟩ : ∃ x, wa.alloc (.cells #[.slice none 0 0, .slice none 0 0] 45) = x := ⟨_, rfl⟩
 have zwb : wb.heap.size = w.heap.size + 1 + 1 := by rw [← hwb]; simp [zwa]
 have bwb : Blk wb (w.heap.size + 1) 45 #[.slice none 0 0, .slice none 0 0] := by have := Blk.new wa 45 #[.slice none 0 0, .slice none 0 0]; rw [hwb, zwa] at this; exact this
 have bwab : Blk wb w.heap.size 45 #[.slice r0 n0 c0, .slice r1 n1 c1] := by rw [← hwb]; exact bwa.alloc _
 have kwb : Below w.heap.size w wb := by rw [← hwb]; exact kwa.alloc (by omega) _
 clear bwa
 go_enter Tryz.func37, Tryz.ntmps37
 go_wp2_with (first
  | (refine wpList_load_row rfl 45 (.tmp 7) rfl w.heap.size rfl 45 _ (0,0) _ bwab Tryz.underlying45 rfl (by rw [info_book]; rfl) ?_))
 refine (HA.out _ kwb).mono ?_
 rintro e wc ⟨hRe, hb⟩
 obtain ⟨cs, v, b, rfl, hcs, hco⟩ := HR.out _ _ hRe
 have hRe2 := Lib.hid hRe; clear hRe
 have hbc := bwb.below hb (by omega)
 have hwc := kwb.trans (hb.mono kwb.size)
 clear bwb bwab hwa hwb
 go_wp2_with (first
  | (refine wpList_store_all rfl 45 (.tmp 10) (.tmp 29) rfl (w.heap.size + 1) cs rfl rfl 45 #[.slice none 0 0, .slice none 0 0] hbc (by rw [info_book, hcs]) (by rw [hcs]; rfl) hco ?_; intro wd hBd hOd)
  | (refine bodyPost_ret (results_cell3 rfl _ _ (w.heap.size + 1) 45 _ _ rfl hBd Tryz.underlying45 rfl (by rw [info_book, hcs])) rfl ?_))
 exact ⟨HM.out _ _ _ hRe2.out hbc hOd, hOd.below hwc (by omega)⟩
end Go.Proofs.YthodpjcdmdbnoaaGreatDoor
