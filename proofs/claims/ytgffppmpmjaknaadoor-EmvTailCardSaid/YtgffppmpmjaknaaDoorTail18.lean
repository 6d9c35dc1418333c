/- lockboxlaw18.EmvTail: the walk. -/
import Derived.Test.YtgffppmpmjaknaaDoorLaw18A
import Derived.Test.YtgffppmpmjaknaaDoorSame
import Derived.Test.YtgffppmpmjaknaaDoorArr
import Derived.Laws.IdiomStrings
namespace Go.Proofs.YtgffppmpmjaknaaDoor
open Go Go.RowKit Pr

def c07 : ByteArray := ⟨#[48, 55]⟩
theorem cardTail_eq (pan seq : List UInt8) (hp : 14 ≤ pan.length) (hs : seq.length = 2) : cardTail pan seq = (pan ++ seq).drop (pan.length + seq.length - 16) := by
  unfold cardTail
  rw [List.append_assoc]
  have hr : (Lib.repeatL [48] 16 : List UInt8).length = 16 := by rfl
  rw [show 16 + pan.length + seq.length - 16 = (Lib.repeatL [48] 16 : List UInt8).length + (pan.length + seq.length - 16) by rw [hr]; omega, List.drop_append]
  simp
theorem tail_cons (x : UInt8) (pan seq : List UInt8) (hp : 14 ≤ pan.length) (hs : seq.length = 2) : cardTail (x :: pan) seq = cardTail pan seq := by
  rw [cardTail_eq _ _ (by simp; omega) hs, cardTail_eq _ _ hp hs]
  rw [List.cons_append, show (x :: pan).length + seq.length - 16 = (pan.length + seq.length - 16) + 1 by simp; omega, List.drop_succ_cons]
/-- the operation alone: a new row of one byte turned into a string -/
theorem op_to_string {P : Program} {K : Act → World → Prop} {Q : Exit → Act → World → Prop} {o : Oper} {a : Act} {w : World} (src dst e : TypeId) (x : Operand) (hop : o.op = .convert src dst x) (g cap : Nat) (c : Nat) (hc : c < 256) (hx : a.eval x = .slice (some ⟨g, 0, none⟩) 1 cap)
    (hs : P.underlying src = some (.slice e)) (he : P.underlying e = some (.int .u8)) (hd : P.underlying dst = some .string) (hB : w.cell? ⟨g, 0, none⟩ = some (.int .u8 (c : Int))) (h : K (a.put o.dst (.string ⟨#[UInt8.ofNat c]⟩)) w) : o.wp P a w K Q := by
  have hr := run_convert_bytes_back (P := P) w src dst e ⟨g, 0, none⟩ cap [UInt8.ofNat c] hs he hd (fun j hj => by
    obtain rfl : j = 0 := by simpa using hj
    rw [Addr.add_mid]
    simp only [List.getElem_cons_zero, Nat.zero_add]
    rw [UInt8.toNat_ofNat_of_lt' hc]
    exact hB)
  unfold Oper.wp execOp
  simp only [hop, hx, Sem.run_bind]
  rw [show ([UInt8.ofNat c] : List UInt8).length = 1 from rfl] at hr
  rw [hr]
  exact h

set_option maxHeartbeats 2000000 in
set_option maxRecDepth 100000 in
theorem tail18 (l : List Nat) (hl : l.length = 16) (hb : ∀ c ∈ l, c < 256) (pan : ByteArray) (hp : pan.size ≤ 140737488351232) (d : Nat) (hd : d < 256) (w : World) (hG : EtOk w) :
    Calls Tryd.prog 5 #[.agg (byteCells l), .string pan, .int .u8 (d : Int)] w fun e w' => e = .returned (.bool true) ∧ Below w.heap.size w w' := by
  obtain ⟨cl, hcl⟩ : ∃ cl, byteCells l = cl := ⟨_, rfl⟩
  rw [hcl]
  have HCL := Lib.hid hcl; clear hcl
  have HL := Lib.hid hl; clear hl
  have hat : ∀ W (g : Nat), Blk W g 32 cl → At W (some ⟨g, 0, none⟩) l := fun W g h _ => ⟨_, _, rfl, Bs.of_blk (by rw [← HCL.out] at h; exact h) (fun j c hj => by rw [Nat.zero_add]; exact hj)⟩
  have HAT := Lib.hid hat; clear hat
  have hC1 := fun W hA => card_any l hb (some ⟨w.heap.size, 0, none⟩) 16 (by rw [HL.out]; exact Nat.le_refl _) pan c07 hp W hA
  rw [HL.out] at hC1
  have hbel0 : Below w.heap.size w (w.alloc (.cells cl 32)) := (Below.refl _ _).alloc (Nat.le_refl _) _
  by_cases hok : cardEr 16 pan.data.toList c07.data.toList = .ok
  · have hV := cardVal_ok (key := l) (pan := pan.data.toList) (seq := c07.data.toList) (by rw [HL.out]; exact hok)
    rw [hV, hok] at hC1
    have hC2 := fun (q : ByteArray) (hq : q.size ≤ 140737488351232) W hA => card_any l hb (some ⟨w.heap.size, 0, none⟩) 16 (by rw [HL.out]; exact Nat.le_refl _) q c07 hq W hA
    rw [HL.out] at hC2
    have hCl := cardN_len l pan.data.toList c07.data.toList
    have hClt := cardN_lt l pan.data.toList c07.data.toList
    obtain ⟨hpd1, hpd2⟩ : (13 ≤ pan.size ∧ pan.size ≤ 19) ∧ ∀ c ∈ pan.data.toList, isDec c = true := by
      have hok' := hok
      unfold cardEr at hok'
      rw [if_neg (by decide)] at hok'
      split at hok'
      · rename_i h
        obtain ⟨q1, q2, q3⟩ := decEr_ok h
        have lp : pan.data.toList.length = pan.size := by simp
        rw [lp] at q1 q2
        exact ⟨⟨q1, q2⟩, q3⟩
      · rename_i e he; exact absurd hok' (by intro h'; exact he h')
    have hpan := hpd1.2
    by_cases hp14 : pan.size < 14
    · generalize cardN l pan.data.toList c07.data.toList = C at *
      unfold c07 at hC1
      have HC1 := Lib.hid hC1
      clear hC1 hC2 hV hok hpd2 hCl hClt
      go_enter Tryd.func5, Tryd.ntmps5
      go_wp2_with fail
      refine (HC1.out _ (HAT.out _ _ (Blk.new w _ cl))).mono ?_
      rintro e w1 ⟨⟨v, u, rfl, hv, hu⟩, hb1⟩
      obtain rfl : u = _ := hu
      have hb1' := hbel0.trans (hb1.mono hbel0.size)
      go_wp2_with fail
      refine (awake18_any _ (hG.below hb1' (Nat.le_refl _))).mono ?_
      rintro e w2 ⟨rfl, hb2⟩
      have hb2' := hb1'.trans (hb2.mono hb1'.size)
      go_wp2_with fail
      refine (awake18_any _ (hG.below hb2' (Nat.le_refl _))).mono ?_
      rintro e w3 ⟨rfl, hb3⟩
      have hb3' := hb2'.trans (hb3.mono hb2'.size)
      go_wp2
      go_ret
      exact ⟨rfl, hb3'⟩
    · by_cases hp18 : 18 < pan.size
      · generalize cardN l pan.data.toList c07.data.toList = C at *
        unfold c07 at hC1
        have HC1 := Lib.hid hC1
        clear hC1 hC2 hV hok hpd2 hCl hClt
        go_enter Tryd.func5, Tryd.ntmps5
        go_wp2_with fail
        refine (HC1.out _ (HAT.out _ _ (Blk.new w _ cl))).mono ?_
        rintro e w1 ⟨⟨v, u, rfl, hv, hu⟩, hb1⟩
        obtain rfl : u = _ := hu
        have hb1' := hbel0.trans (hb1.mono hbel0.size)
        go_wp2_with fail
        refine (awake18_any _ (hG.below hb1' (Nat.le_refl _))).mono ?_
        rintro e w2 ⟨rfl, hb2⟩
        have hb2' := hb1'.trans (hb2.mono hb1'.size)
        go_wp2_with fail
        refine (awake18_any _ (hG.below hb2' (Nat.le_refl _))).mono ?_
        rintro e w3 ⟨rfl, hb3⟩
        have hb3' := hb2'.trans (hb3.mono hb2'.size)
        go_wp2
        go_ret
        exact ⟨rfl, hb3'⟩
      · have hx10 : 48 + d % 10 < 256 := by omega
        obtain ⟨x, hx⟩ : ∃ x : UInt8, UInt8.ofNat (48 + d % 10) = x := ⟨_, rfl⟩
        have hxd : isDec x = true := by
          rw [← hx]
          have : ∀ m < 10, isDec (UInt8.ofNat (48 + m)) = true := by decide +kernel
          exact this _ (Nat.mod_lt _ (by omega))
        obtain ⟨Y, hY⟩ : ∃ Y : ByteArray, (⟨#[x]⟩ : ByteArray) ++ pan = Y := ⟨_, rfl⟩
        have hYl : Y.data.toList = x :: pan.data.toList := by rw [← hY, ByteArray.data_append]; simp
        have hYs : Y.size = pan.size + 1 := by rw [← hY, ByteArray.size_append]; show 1 + pan.size = _; omega
        have hE2 : cardEr 16 Y.data.toList c07.data.toList = .ok := by
          unfold cardEr
          rw [if_neg (by decide)]
          have h1 : decEr Y.data.toList 13 19 = .ok := by
            unfold decEr
            rw [if_neg (by
              have : Y.data.toList.length = Y.size := by simp
              rw [this]; omega), badAt_none (by
              rw [hYl]
              intro c hc
              rcases List.mem_cons.1 hc with rfl | hc
              · exact hxd
              · exact hpd2 c hc)]
          rw [h1]
          rfl
        have hV2 : cardVal l Y.data.toList c07.data.toList = cardN l pan.data.toList c07.data.toList := by
          rw [cardVal_ok (by rw [HL.out]; exact hE2)]
          unfold cardN
          rw [hYl, tail_cons _ _ _ (by have : pan.data.toList.length = pan.size := by simp
                                       rw [this]; omega) (by rfl)]
        have hC2' := hC2 Y (by omega)
        rw [hE2, hV2] at hC2'
        clear hC2 hE2 hV2 hV hok hpd2
        generalize cardN l pan.data.toList c07.data.toList = C at *
        unfold c07 at hC1 hC2'
        have HC1 := Lib.hid hC1
        have HC2 := Lib.hid hC2'
        clear hC1 hC2' hYl hxd
        have HX := Lib.hid hx; clear hx
        have HY := Lib.hid hY; clear hY
        have HCL2 := Lib.hid hCl; clear hCl
        have hYb : Y.size ≤ 19 := by omega
        go_enter Tryd.func5, Tryd.ntmps5
        go_wp2_with fail
        refine (HC1.out _ (HAT.out _ _ (Blk.new w _ cl))).mono ?_
        rintro e w1 ⟨⟨v, u, rfl, hv, hu⟩, hb1⟩
        obtain rfl : u = _ := hu
        have hb1' := hbel0.trans (hb1.mono hbel0.size)
        have hK1 := (Blk.new w 32 cl).below hb1 (by simp)
        obtain ⟨g1, cap1, rfl, -, hcap1, hgl1, hBC1⟩ := hv.form (by intro h; have := HCL2.out; rw [h] at this; cases this)
        rw [HCL2.out] at hcap1 ⊢
        clear hv
        go_wp2_with fail
        refine (awake18_any _ (hG.below hb1' (Nat.le_refl _))).mono ?_
        rintro e w2 ⟨rfl, hb2⟩
        have hb2' := hb1'.trans (hb2.mono hb1'.size)
        have hK2 := hK1.below hb2 hK1.lt
        have hBC2 := hBC1.below hb2 hgl1
        have hgl2 := Nat.lt_of_lt_of_le hgl1 hb2.size
        go_wp2_with fail
        refine wp_region_tree (.q 0 (.q 1 (.q 2 (.q 3 (.q 6 (.e [4] fun _ => .e [5] fun _ => .q 7 (.e [8] fun _ => .q 9 (.q 10 (.q 11 (.q 12 (.q 13 .done)))))))))) ) (fun _ => True) rfl (by kernel_rfl) (fun _ _ d _ _ h => by cases d <;> exact h) ?_
        iterate 3 (refine t_q rfl rfl trivial _ (fun W hW => by (go_simp; rfl)) ?_; go_simp)
        have e10 : IntKind.u8.wrap (48 + (d : Int).tmod 10) = ((48 + d % 10 : Nat) : Int) := by
          rw [Int.tmod_eq_emod_of_nonneg (by omega)]
          simp [IntKind.wrap, IntKind.bits, IntKind.signed]; omega
        obtain ⟨c, hc⟩ : ∃ c, 48 + d % 10 = c := ⟨_, rfl⟩
        rw [hc] at hx10 HX e10
        have E10 := Lib.hid e10; clear e10 hc
        refine t_q rfl rfl trivial (.int .u8 (c : Int)) (fun W hW => by (go_simp; exact E10.out)) ?_
        go_simp
        refine t_q rfl rfl trivial _ (fun W hW => by (go_simp; rfl)) ?_
        go_simp
        refine t_e rfl rfl fun K hK => ?_
        go_simp
        refine hK _ _ trivial ?_
        clear hK K
        have hK3 := (hK2.drewN 1).alloc (.cells #[.int .u8 (c : Int)] 5)
        have hb3' : Below w.heap.size w ((w2.drewN 1).alloc (.cells #[.int .u8 (c : Int)] 5)) := (below_drewN hb2' 1).alloc hb2'.size _
        have hBC3 := Bs.alloc (hBC2.drewN 1) (.cells #[.int .u8 (c : Int)] 5)
        have hgl3 : g1 < ((w2.drewN 1).alloc (.cells #[.int .u8 (c : Int)] 5)).heap.size := by simp; omega
        have hrow := (Blk.new (w2.drewN 1) 5 #[.int .u8 (c : Int)]).cell 0
        change wpT _ _ _ _ _ _ ((w2.drewN 1).alloc (.cells #[.int .u8 (c : Int)] 5))
        refine t_e rfl rfl fun K hK => ?_
        refine op_to_string 22 9 5 (.tmp 39) rfl w2.heap.size 1 c hx10 rfl Tryd.underlying22 Tryd.underlying5 Tryd.underlying9 hrow ?_
        rw [HX.out]
        refine hK _ _ trivial ?_
        clear hK K hrow
        go_simp
        generalize ((w2.drewN 1).alloc (.cells #[.int .u8 (c : Int)] 5)) = w3 at *
        refine t_q rfl rfl trivial (.string Y) (fun W hW => by (go_simp; rw [if_neg (by omega), HY.out])) ?_
        go_simp
        refine t_e rfl rfl fun K hK => ?_
        go_simp
        refine (HC2.out _ (HAT.out _ _ hK3)).mono ?_
        rintro e w4 ⟨⟨v, u, rfl, hv, hu⟩, hb4⟩
        obtain rfl : u = _ := hu
        have hb4' := hb3'.trans (hb4.mono hb3'.size)
        obtain ⟨g4, cap4, rfl, -, hcap4, hgl4, hBC4⟩ := hv.form (by intro h; have := HCL2.out; rw [h] at this; cases this)
        have hBC5 := hBC3.below hb4 hgl3
        rw [HCL2.out] at hcap4 ⊢
        refine hK _ _ trivial ?_
        clear hK K hv
        go_simp
        iterate 5 (refine t_q rfl rfl trivial _ (fun W hW => by (go_simp; rfl)) ?_; go_simp)
        refine t_done ?_
        have HSM := same_any C C (some ⟨g1, 0, none⟩) (some ⟨g4, 0, none⟩) cap1 cap4 hClt hClt (by rw [HCL2.out]; decide) w4 (fun _ => ⟨_, _, rfl, hBC5⟩) (fun _ => ⟨_, _, rfl, hBC4⟩)
        rw [HCL2.out] at HSM
        have hdec : decide (C = C) = true := by simp
        rw [hdec] at HSM
        go_wp2_with fail
        refine HSM.mono ?_
        rintro e w5 ⟨rfl, n5, rfl⟩
        go_wp2
        go_ret
        exact ⟨rfl, below_drewN hb4' _⟩
  · have hV := cardVal_bad (key := l) (pan := pan.data.toList) (seq := c07.data.toList) (by rw [HL.out]; exact hok)
    rw [hV] at hC1
    generalize cardEr 16 pan.data.toList c07.data.toList = er at *
    unfold c07 at hC1
    have HC1 := Lib.hid hC1
    clear hC1 hV
    cases er with
    | ok => exact absurd rfl hok
    | no m =>
      clear hok
      go_enter Tryd.func5, Tryd.ntmps5
      go_wp2_with fail
      refine (HC1.out _ (HAT.out _ _ (Blk.new w _ cl))).mono ?_
      rintro e w1 ⟨⟨v, u, rfl, hv, hu⟩, hb1⟩
      obtain rfl : u = _ := hu
      have hb1' := hbel0.trans (hb1.mono hbel0.size)
      go_wp2_with fail
      refine (awake18_any _ (hG.below hb1' (Nat.le_refl _))).mono ?_
      rintro e w2 ⟨rfl, hb2⟩
      have hb2' := hb1'.trans (hb2.mono hb1'.size)
      go_wp2_with fail
      refine (awake18_any _ (hG.below hb2' (Nat.le_refl _))).mono ?_
      rintro e w3 ⟨rfl, hb3⟩
      have hb3' := hb2'.trans (hb3.mono hb2'.size)
      go_wp2
      go_ret
      exact ⟨rfl, hb3'⟩
    | fa p m =>
      clear hok
      go_enter Tryd.func5, Tryd.ntmps5
      go_wp2_with fail
      refine (HC1.out _ (HAT.out _ _ (Blk.new w _ cl))).mono ?_
      rintro e w1 ⟨⟨v, u, rfl, hv, hu⟩, hb1⟩
      obtain ⟨g, rfl, _⟩ := hu
      have hb1' := hbel0.trans (hb1.mono hbel0.size)
      go_wp2_with fail
      refine (awake18_any _ (hG.below hb1' (Nat.le_refl _))).mono ?_
      rintro e w2 ⟨rfl, hb2⟩
      have hb2' := hb1'.trans (hb2.mono hb1'.size)
      go_wp2_with fail
      refine (awake18_any _ (hG.below hb2' (Nat.le_refl _))).mono ?_
      rintro e w3 ⟨rfl, hb3⟩
      have hb3' := hb2'.trans (hb3.mono hb2'.size)
      go_wp2
      go_ret
      exact ⟨rfl, hb3'⟩
end Go.Proofs.YtgffppmpmjaknaaDoor
