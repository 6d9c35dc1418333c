/- The contract of lockboxref14.Make. -/
import Derived.Test.YtnkgglmfoimbhaaDoorRefB
namespace Go.Proofs.YtnkgglmfoimbhaaDoor
open Go Go.RowKit Pr

theorem startD_len (f : Nat) (p : List UInt8) : (startD f p).length = 2 + p.length := by unfold startD; rw [List.length_append, List.length_map]; rfl
theorem fillD_len (f : Nat) (fill : List Nat) (h : fill.length = 8) : (fillD f fill).length = 16 := by
  unfold fillD
  split
  · simp
  · split
    · rw [nibN_len, h]
    · rw [List.length_map, nibN_len, h]
theorem rawD_cut (f : Nat) (p : List UInt8) (fill : List Nat) (hp : p.length ≤ 14) : rawD f p fill = startD f p ++ (fillD f fill).take (14 - p.length) := by
  unfold rawD
  rw [List.take_append, List.take_of_length_le (by rw [startD_len]; omega), startD_len]
  congr 2
  omega
/-- the digit that fills up, of the digit that was handed in -/
def fillAt (f x : Nat) : Nat := if f = 0 then 15 else if f = 1 then x else 10 + x % 6
theorem Ns.newZ (kd : IntKind) (w : World) (t : TypeId) (z : Int) (c : Nat) (h : z = c) : Ns kd (w.alloc (.cells #[.int kd z] t)) w.heap.size 0 [c] := by
  subst h
  exact Ns.new kd w t c
theorem fillD_get (f : Nat) (fill : List Nat) (h : fill.length = 8) (hf : f = 0 ∨ f = 1 ∨ f = 3) (i : Nat) (hi : i < 16) :
    (fillD f fill).take (i + 1) = (fillD f fill).take i ++ [fillAt f ((nibN fill).getD i 0)] := by
  rw [List.take_succ_eq_append_getElem (by rw [fillD_len f fill h]; exact hi)]
  congr 2
  have hn : (nibN fill).length = 16 := by rw [nibN_len, h]
  rcases hf with rfl | rfl | rfl
  · simp only [fillD, fillAt, if_true]
    rw [List.getElem_replicate]
  · simp only [fillD, fillAt]
    simp only [if_neg (show ¬ (1 = 0) by omega), if_true]
    rw [getD_of _ _ (by omega)]
  · simp only [fillD, fillAt]
    simp only [if_neg (show ¬ (3 = 0) by omega), if_neg (show ¬ (3 = 1) by omega)]
    rw [getD_of _ _ (by omega)]
    simp

theorem Ns.grown {kd : IntKind} {w w' : World} {b o : Nat} {l : List Nat} {row : Option Nat} (h : Ns kd w b o l) (hg : w.grownBy w' row) (hb : b < w.heap.size) (hne : some b ≠ row) : Ns kd w' b o l :=
  fun j v hv => (World.cell?_of_block (a := ⟨b, o + j, none⟩) (hg.block b hb hne)).trans (h j v hv)
section
variable {P : Program} {ops : Array Oper} {rest : List Oper} {op : Oper} {a : Act} {w : World} {Q : Exit → Act → World → Prop}
/-- append of a row of numbers to a row of one's own; what else has not turned -/
theorem wpList_append_numsB (hgd : op.guard = none) (s x : Operand) (t : TypeId) (ho : op.op = .call { callee := .builtin .append, args := #[s, x], argTypes := #[t, t] })
    (kd : IntKind) (e : TypeId) (bytes : Nat) (ht : P.underlying t = some (.slice e)) (hinfo : (P.info? e).map (fun i => (i.zero, i.size, i.bytes)) = some (some (.int kd 0), 1, bytes))
    (B : Nat) (w0 : World) (v : Value) (l : List Nat) (hs : a.eval s = v) (hown : OwnN e kd w B v l) (hbel : Below B w0 w) (hB : B ≤ w.heap.size)
    (A : Option Addr) (m c : Nat) (l2 : List Nat) (hx : a.eval x = .slice A m c) (hm : l2.length = m) (hA : ∃ b o, A = some ⟨b, o, none⟩ ∧ Ns kd w b o l2)
    (h63 : l.length + m ≤ 1000000000) (hby : bytes ≤ 1000)
    (h : ∀ v' w', OwnN e kd w' B v' (l ++ l2) → Below B w0 w' → w.grownBy w' v.ownBlock → (v'.ownBlock = v.ownBlock ∨ v'.ownBlock = some w.heap.size) → wpList P ops Q rest (a.put op.dst v') w') : wpList P ops Q (op :: rest) a w := by
  obtain ⟨b, o, rfl, hN⟩ := hA
  obtain ⟨i0, hi, hz0, hz1, hz2⟩ := info_parts hinfo
  refine wpList_append_own_at w hgd s x t ho B e i0 (.int kd 0) 1 bytes ht hi hz0 hz1 hz2 rfl (by decide) v l.length (numCells kd l).toList hs hown ⟨b, o, none⟩ m c (numCells kd l2).toList hx (by simp [numCells, hm]) ?_ ?_ ?_ ?_ hB ?_
  · intro j u hj
    have := hN j u hj
    rwa [Addr.add_mid]
  · intro u hu
    simp only [numCells, List.mem_map] at hu
    obtain ⟨c, _, rfl⟩ := hu
    rfl
  · unfold maxLen; omega
  · have := Nat.mul_le_mul h63 hby; omega
  · intro v' w' h1 h2 _ h4
    refine h v' w' ?_ (hbel.grown h2 hB (fun g hg => (World.ownsRow.lt hown g hg).1)) h2 h4
    unfold OwnN
    rw [List.length_append, hm]
    have e1 : (numCells kd (l ++ l2)).toList = (numCells kd l).toList ++ (numCells kd l2).toList := by simp [numCells]
    rw [e1]
    exact h1
end

set_option maxHeartbeats 4000000 in
set_option maxRecDepth 100000 in
theorem refMake_any (f : Nat) (hf : f = 0 ∨ f = 1 ∨ f = 3) (p a : ByteArray) (hp : p.size ≤ 12) (hpd : ∀ c ∈ p.data.toList, isDec c = true) (h13 : 13 ≤ a.size) (h19 : a.size ≤ 19) (had : ∀ c ∈ a.data.toList, isDec c = true)
    (fill : List Nat) (hfl : fill.length = 8) (hfb : ∀ c ∈ fill, c < 256) (w : World) :
    Calls Tryd.prog 17 #[.int .i64 f, .string p, .string a, .agg (byteCells fill)] w fun e w' =>
      (∃ v, e = .returned v ∧ Own w' w.heap.size v (makeD f p.data.toList a.data.toList fill)) ∧ Below w.heap.size w w' := by
  have hpl : p.data.toList.length = p.size := by simp
  have HS := Lib.hid (fun W => startR_any f p (by omega) hpd W)
  have HN := Lib.hid (fun A cp W hA => nibblesR_any fill 8 hfl (by omega) hfb A cp W hA)
  have hraw := rawD_cut f p.data.toList fill (by omega)
  rw [hpl] at hraw
  have hRl := rawD_len f p.data.toList fill hf (by omega) hfl hfb
  have hRlt := rawD_lt f p.data.toList fill hf (by omega) hpd hfb
  have hTl := turnD_len f a.data.toList (rawD f p.data.toList fill)
  have hTlt := turnD_lt f a.data.toList _ had hRlt
  have HP := Lib.hid (fun A cp W hA => packR_any (turnD f a.data.toList (rawD f p.data.toList fill)) 16 8 hTl rfl (by omega) hTlt A cp W hA)
  have hdef : makeD f p.data.toList a.data.toList fill = packN (turnD f a.data.toList (rawD f p.data.toList fill)) := rfl
  rw [← hdef] at HP
  generalize makeD f p.data.toList a.data.toList fill = M at *
  clear hdef hTlt
  generalize hD : turnD f a.data.toList (rawD f p.data.toList fill) = D at *
  rw [turnD_xor f a.data.toList _ hRl] at hD
  have hFl : ∀ i, i < 16 → (fieldL f a.data.toList).getD i 0 = fieldD f a.data.toList i := fun i hi => fieldL_getD _ _ i hi
  have hFlt : ∀ i, (fieldD f a.data.toList i) < 16 := fieldD_lt f a.data.toList had
  have HF := Lib.hid (fun i hi W => fieldR_any f a h13 h19 had i hi W)
  have hg := fillD_get f fill hfl hf
  have hfll := fillD_len f fill hfl
  have hsl := startD_len f p.data.toList
  rw [hpl] at hsl
  have hnl : (nibN fill).length = 16 := by rw [nibN_len, hfl]
  have hnlt := nibN_lt fill hfb
  generalize rawD f p.data.toList fill = R at *
  generalize fieldL f a.data.toList = F at *
  generalize fieldD f a.data.toList = fd at *
  generalize startD f p.data.toList = S at *
  generalize fillD f fill = FD at *
  generalize nibN fill = NB at *
  have HFL := Lib.hid hFl; clear hFl
  have HFLT := Lib.hid hFlt; clear hFlt
  have HG := Lib.hid hg; clear hg
  have HFLL := Lib.hid hfll; clear hfll
  have HSL := Lib.hid hsl; clear hsl
  have HNL := Lib.hid hnl; clear hnl
  have HNLT := Lib.hid (fun i => getD_lt16 NB hnlt i); clear hnlt
  have HRLT := Lib.hid (fun i => getD_lt16 R hRlt i); clear hRlt
  have HRL := Lib.hid hRl; clear hRl
  have HRAW := Lib.hid hraw; clear hraw
  have HDD := Lib.hid hD; clear hD
  have HDL := Lib.hid hTl; clear hTl
  have HFIL := Lib.hid hfl; clear hfl
  clear hpl hpd had hfb
  have main : ∀ f' : Nat, f = f' → f' = 0 ∨ f' = 1 ∨ f' = 3 → Calls Tryd.prog 17 #[.int .i64 f', .string p, .string a, .agg (byteCells fill)] w fun e w' =>
      (∃ v, e = .returned v ∧ Own w' w.heap.size v M) ∧ Below w.heap.size w w' := by
    clear hf
    intro f' hff hf
    rcases hf with rfl | rfl | rfl
    all_goals
      subst hff
      go_enter Tryd.func17, Tryd.ntmps17
      go_wp2_with fail
      refine (HS.out _).mono ?_
      rintro e w1 ⟨⟨v, rfl, hv⟩, hb1⟩
      have hbel1 := ((Below.refl w.heap.size w).alloc (Nat.le_refl _) (.cells (byteCells fill) 22)).trans (hb1.mono (by simp))
      have hF1 : Bs w1 w.heap.size 0 fill := (Bs.of_blk (l := fill) (Blk.new w _ _) (fun j c hj => by rw [Nat.zero_add]; exact hj)).below hb1 (by simp)
      have hv1 := OwnN.more hv (C := w.heap.size) (by simp)
      have hAS : v = v := rfl
      clear hb1 hv hAS
      go_wp2_with fail
      refine (HN.out _ _ _ (fun _ => ⟨_, _, rfl, hF1⟩)).mono ?_
      rintro e w2 ⟨⟨v2, rfl, hv2⟩, hb2⟩
      have hbel2 := hbel1.trans (hb2.mono hbel1.size)
      have hv12 := OwnN.below hv1 hb2 (Nat.le_refl _)
      obtain ⟨gn, capn, rfl, hgn, hcapn, hgnl, hNs⟩ := hv2.form2 (by intro h; have := HNL.out; rw [h] at this; cases this)
      rw [HNL.out] at hcapn ⊢
      have hcn : ∀ k, k < 16 → ∀ W, Ns .i64 W gn 0 NB → W.cell? ⟨gn, k, none⟩ = some (.int .i64 (NB.getD k 0 : Nat)) := fun k hk W hW => by
        rw [getD_of _ _ (by rw [HNL.out]; exact hk)]
        have := hW.cell k (by rw [HNL.out]; exact hk)
        rw [Nat.zero_add] at this
        exact this
      have HCN := Lib.hid hcn; clear hcn
      have hapart : v.ownBlock ≠ some gn := fun e => by have := (World.ownsRow.lt hv1 gn e).2; omega
      clear hv2 hb2 hv1
      go_wp2
      go_loopw [9, 11] (fun v i wr => ∃ k : Nat, k ≤ 14 - p.size ∧ i = .int .i64 k ∧ OwnN 3 .i64 wr w.heap.size v (S ++ FD.take k) ∧ Below w.heap.size w wr ∧ Ns .i64 wr gn 0 NB ∧ Hid (v.ownBlock ≠ some gn) ∧ gn < wr.heap.size) (fun _ i _ => 14 - p.size - (intOf i).toNat)
      case atStart => exact ⟨0, by omega, rfl, by simpa using hv12, hbel2, hNs, hapart, hgnl⟩
      case round =>
        obtain ⟨k, hk, rfl, hown, hbel, hNr, hap, hgr⟩ := hrel
        have hlen : (S ++ FD.take k).length = 2 + p.size + k := by rw [List.length_append, List.length_take, HSL.out, HFLL.out]; omega
        obtain ⟨A9, cap9, rfl, hc9, hAt9⟩ := hown.form
        rw [hlen] at hc9 hown hap ⊢
        have hszr : w.heap.size ≤ wr.heap.size := hbel.size
        by_cases hlt : 2 + p.size + k < 16
        · have hlt' : ((2 + p.size + k : Nat) : Int) < 16 := by omega
          have hstk := HG.out k (by omega)
          have hnb := HCN.out k (by omega) wr hNr
          have hnb16 := HNLT.out k
          have hk16 : (k : Int) < 16 := by omega
          generalize NB.getD k 0 = x at *
          obtain ⟨T, hT⟩ : ∃ T, FD.take k = T := ⟨_, rfl⟩
          rw [hT] at hstk hown hlen
          clear hT hAt9
          first
            | (rw [show fillAt 0 x = 15 from rfl] at hstk)
            | (rw [show fillAt 1 x = x from rfl] at hstk)
            | (rw [show fillAt 3 x = 10 + x % 6 from rfl] at hstk)
          have HSTK := Lib.hid hstk; clear hstk
          have HLEN := Lib.hid hlen; clear hlen
          generalize hN : 2 + p.size + k = N at *
          have HN2 := Lib.hid hN; clear hN
          have hST : (S ++ T).length + 1 ≤ 1000000000 := by rw [HLEN.out]; omega
          go_wp2_with (first
            | (at_builtin; refine wpList_append_numsB rfl (.tmp 25) (.tmp 26) 42 rfl .i64 3 8 Tryd.underlying42 info_int w.heap.size w (.slice A9 N cap9) (S ++ T) rfl (OwnN.below hown ((Below.refl wr.heap.size wr).alloc (Nat.le_refl _) _) (Nat.le_refl _)) (hbel.alloc (by simpa using hszr) _) (by simp; omega) _ 1 1 [15] rfl rfl ⟨_, _, rfl, Ns.newZ .i64 wr 3 _ _ rfl⟩ hST (by omega) ?_; intro v5 w5 hown5 hbel5 hgr5 hob5)
            | (at_builtin; refine wpList_append_numsB rfl (.tmp 30) (.tmp 35) 42 rfl .i64 3 8 Tryd.underlying42 info_int w.heap.size w (.slice A9 N cap9) (S ++ T) rfl (OwnN.below hown ((Below.refl wr.heap.size wr).alloc (Nat.le_refl _) _) (Nat.le_refl _)) (hbel.alloc (by simpa using hszr) _) (by simp; omega) _ 1 1 [x] rfl rfl ⟨_, _, rfl, Ns.newZ .i64 wr 3 _ _ rfl⟩ hST (by omega) ?_; intro v5 w5 hown5 hbel5 hgr5 hob5)
            | (at_builtin; refine wpList_append_numsB rfl (.tmp 37) (.tmp 44) 42 rfl .i64 3 8 Tryd.underlying42 info_int w.heap.size w (.slice A9 N cap9) (S ++ T) rfl (OwnN.below hown ((Below.refl wr.heap.size wr).alloc (Nat.le_refl _) _) (Nat.le_refl _)) (hbel.alloc (by simpa using hszr) _) (by simp; omega) _ 1 1 [10 + x % 6] rfl rfl ⟨_, _, rfl, Ns.newZ .i64 wr 3 _ _ (by omega)⟩ hST (by omega) ?_; intro v5 w5 hown5 hbel5 hgr5 hob5))
          rw [List.append_assoc, ← HSTK.out] at hown5
          have hgr6 := hgr5.size
          rw [World.size_alloc] at hgr6
          have hN5 : Ns .i64 w5 gn 0 NB := Ns.grown (Ns.below hNr ((Below.refl wr.heap.size wr).alloc (Nat.le_refl _) _) hgr) hgr5 (by rw [World.size_alloc]; omega) (fun e => hap.out e.symm)
          have hap5 : v5.ownBlock ≠ some gn := fun e => by
            rcases hob5 with h | h
            · exact hap.out (h.symm.trans e)
            · rw [h] at e; injection e with e; rw [World.size_alloc] at e; omega
          clear hgr5 hob5
          go_roundw
          case rel => exact ⟨k + 1, by have := HN2.out; omega, by go_num, hown5, hbel5, hN5, hap5, by omega⟩
          case measure => have := HN2.out; simp [intOf]; omega
        · have hkk : k = 14 - p.size := by omega
          subst hkk
          rw [← HRAW.out] at hown
          have hno : ¬ ((2 + p.size + (14 - p.size) : Nat) : Int) < 16 := by omega
          have h16 : 2 + p.size + (14 - p.size) = 16 := by omega
          rw [h16] at hown hno hc9 ⊢
          clear h16 hAt9 hNr hap hgr hlen HRAW
          obtain ⟨g, cap, hsl2, hg, hcap, hgl, -⟩ := hown.form2 (by intro h; have := HRL.out; rw [h] at this; cases this)
          rw [HRL.out] at hsl2 hcap
          obtain ⟨rfl, rfl⟩ : A9 = some ⟨g, 0, none⟩ ∧ cap = cap9 := by injection hsl2 with e1 _ e3; exact ⟨e1, e3.symm⟩
          clear hsl2
          go_wp2
          obtain ⟨wo, rfl⟩ : ∃ wo, wo = wr := ⟨_, rfl⟩
          go_loopw [12] (fun i wr => ∃ k : Nat, k ≤ 16 ∧ i = .int .i64 k ∧ OwnN 3 .i64 wr w.heap.size (.slice (some ⟨g, 0, none⟩) 16 cap) (xorTo R F k) ∧ Below w.heap.size w wr) (fun i _ => 16 - (intOf i).toNat)
          case atStart => exact ⟨0, by omega, rfl, hown, hbel⟩
          case round =>
            obtain ⟨k, hk, rfl, hown, hbel⟩ := hrel
            by_cases hlt : k < 16
            · have hXl : (xorTo R F k).length = 16 := by rw [xorTo_len, HRL.out]
              obtain ⟨g', cap', hgg, _, _, hgl', hNs⟩ := hown.form2 (by intro h; rw [h] at hXl; cases hXl)
              obtain ⟨rfl, rfl⟩ : g = g' ∧ cap = cap' := by injection hgg with e1 _ e3; injection e1 with e1; injection e1 with e1; exact ⟨e1, e3⟩
              have hcell := hNs.cell k (by rw [hXl]; exact hlt)
              rw [← getD_of _ _ (by rw [hXl]; exact hlt), xorTo_rest] at hcell
              rw [Nat.zero_add] at hcell
              have hfr := hown.free k
              have hx16 := HRLT.out k
              have hf16 := HFLT.out k
              have hst := hown.set k (R.getD k 0 ^^^ F.getD k 0)
              rw [← xorTo_succ, HFL.out k hlt] at hst
              have hX := i64_xor16 _ _ hx16 hf16
              have hfk := HF.out k hlt
              generalize R.getD k 0 = x at *
              generalize fd k = y at *
              rw [← hX] at hst
              have HST := Lib.hid hst; clear hst hX
              have HFK := Lib.hid hfk; clear hfk
              clear hNs hXl hgg
              have hcell' : wr.drew.cell? ⟨g, k, none⟩ = some (.int .i64 (x : Int)) := hcell
              have hfr' : wr.drew.frozen? ⟨g, k, none⟩ = false := hfr
              have HST' : Hid (OwnN 3 .i64 (wr.drew.setCell ⟨g, k, none⟩ (.int .i64 (bits .xor .i64 (x : Int) (y : Int)))) w.heap.size (.slice (some ⟨g, 0, none⟩) 16 cap) (xorTo R F (k + 1))) := HST
              clear HST
              go_wp2_with fail
              go_still_tail 12, (by kernel_rfl)
              still_call ((HFK.out _).mono (fun e w' h => ⟨h.1, h.2.symm⟩))
              repeat still_step
              refine wpStill_nil ?_
              change wpList _ _ _ _ _ wr.drew
              have hbr2 : Below w.heap.size w wr.drew := below_drewN hbel 1
              generalize wr.drew = w2 at *
              go_wp2
              go_roundw
              case rel => exact ⟨k + 1, by omega, by go_num, HST'.out, hbr2.setCell (by show w.heap.size ≤ g; omega) _⟩
              case measure => simp [intOf]; omega
            · obtain rfl : k = 16 := by omega
              rw [HDD.out] at hown
              obtain ⟨A2, cap2, hh, hcc, hAt⟩ := hown.form
              have hP2 := HP.out (some ⟨g, 0, none⟩) cap wr (by
                injection hh with e1
                rw [e1]; exact hAt)
              have HP2 := Lib.hid hP2; clear hP2
              clear hh hAt hcc
              go_wp2_with fail
              refine HP2.out.mono ?_
              rintro e w5 ⟨⟨v5, rfl, hv5⟩, hb5⟩
              go_wp2
              go_ret
              exact ⟨⟨_, rfl, hv5.more hbel.size⟩, hbel.trans (hb5.mono hbel.size)⟩
  exact main f rfl hf
end Go.Proofs.YtnkgglmfoimbhaaDoor
