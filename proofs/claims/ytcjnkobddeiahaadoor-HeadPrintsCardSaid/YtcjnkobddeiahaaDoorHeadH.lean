/- head.Parse of whatever text; lockboxref10.Parse. -/
import Derived.Test.YtcjnkobddeiahaaDoorHeadG
namespace Go.Proofs.YtcjnkobddeiahaaDoor
open Go Go.RowKit Pr
theorem parse_any (s : ByteArray) (hsz : s.size ≤ 140737488351232) (w : World) (hG : EtOk w) :
    Calls Tryd.prog 10 #[.string s] w fun e w' => (∃ v, e = .returned (.tuple #[.agg (parseHd s).cells, .int .i64 (parseN s), v]) ∧ ErIs w' w.heap.size v (parseEr s)) ∧ Below w.heap.size w w' := by
  by_cases hs : s.size < 16
  · have he : parseEr s = .no 2 := by unfold parseEr; rw [if_pos hs]
    unfold parseHd parseN
    rw [he]
    refine (parse_short s hs w).mono ?_
    rintro e w' ⟨rfl, hb⟩
    exact ⟨⟨_, rfl, rfl⟩, hb⟩
  · exact parse_long s (not_lt_of hs) hsz w hG _ rfl

theorem extract_len (s : ByteArray) (a b : Nat) (h : b ≤ s.size) : (s.extract a b).data.toList.length = b - a := by
  have : (s.extract a b).data.toList.length = (s.extract a b).size := rfl
  rw [this, ByteArray.size_extract]; omega
theorem extract_get (s : ByteArray) (a b k : Nat) (h : b ≤ s.size) (hk : k < (s.extract a b).data.toList.length) : (s.extract a b).data.toList[k] = chr s (a + k) := by
  rw [extract_len s a b h] at hk
  rw [← chr_at s (a + k) (by omega)]
  simp [ByteArray.getElem_eq_getElem_data]
theorem ahead_isIn (s : ByteArray) : isIn sBD.data.toList (chr s 0) = !aheadB (rightEr (hdOf s)) := by
  show _ = !aheadB (rE (isIn sBD.data.toList (chr s 0)) _ _ _ _ _)
  generalize isIn sBD.data.toList (chr s 0) = b0
  generalize letB (hdOf s).usage.data.toList = b1
  generalize isIn sTA.data.toList (hdOf s).alg = b2
  generalize isIn sMO.data.toList (hdOf s).mode = b3
  generalize letB (hdOf s).serial.data.toList = b4
  generalize isIn sEX.data.toList (hdOf s).exp = b5
  revert b0 b1 b2 b3 b4 b5
  decide

set_option maxHeartbeats 4000000 in
set_option maxRecDepth 100000 in
theorem refParse_any (s : ByteArray) (hs : 16 ≤ s.size) (hsz : s.size ≤ 140737488351232) (w : World) (E : Er) (hE : parseEr s = E) :
    Calls Tryd.prog 16 #[.string s] w fun e w' => e = .returned (.tuple #[.agg (if isOk E then hdOf s else Hd.zero).cells, .int .i64 (if isOk E then numOf s else 0), .int .i64 (erAt E)]) ∧ Below w.heap.size w w' := by
  have i0 := index_str (P := Tryd.prog) 9 Tryd.underlying9 s 0 (by omega) 0 rfl _ rfl
  have i7 := index_str (P := Tryd.prog) 9 Tryd.underlying9 s 7 (by omega) 7 rfl _ rfl
  have i8 := index_str (P := Tryd.prog) 9 Tryd.underlying9 s 8 (by omega) 8 rfl _ rfl
  have i11 := index_str (P := Tryd.prog) 9 Tryd.underlying9 s 11 (by omega) 11 rfl _ rfl
  rw [chr_at] at i0 i7 i8 i11
  have hix : ∀ k : Nat, k < s.size → ∀ W, Sem.run Tryd.prog (Instr.index 9 (.string s) (.int .i64 (k : Int))) W = .ok (.int .u8 ((chr s k).toNat : Int)) W := fun k hk W => by
    have := index_str (P := Tryd.prog) 9 Tryd.underlying9 s k hk k rfl _ rfl W
    rw [chr_at] at this
    exact this
  have HIX := Lib.hid hix; clear hix
  have HRI := Lib.hid (fun W => refWrong_any (hdOf s) (by show (s.extract 5 7).size ≤ _; rw [ByteArray.size_extract]; omega) (by show (s.extract 9 11).size ≤ _; rw [ByteArray.size_extract]; omega) W)
  have HIN := Lib.hid (fun W => inR_any (chr s 0) _ rfl sBD (by decide) W)
  rw [ahead_isIn] at HIN
  unfold sBD at HIN
  unfold parseEr at hE
  rw [if_neg (by omega)] at hE
  have hrc := rightEr_cases (hdOf s)
  generalize rightEr (hdOf s) = er at *
  obtain ⟨nb, hnb⟩ : ∃ nb, (!aheadB er) = nb := ⟨_, rfl⟩
  rw [hnb] at HIN
  have HNB := Lib.hid hnb; clear hnb
  obtain ⟨D, hD⟩ : ∃ D, (s.extract 1 5).data.toList = D := ⟨_, rfl⟩
  have hDl : D.length = 4 := by rw [← hD, extract_len s 1 5 (by omega)]
  have hDg : ∀ k (h : k < D.length), D[k] = chr s (1 + k) := by subst hD; exact fun k h => extract_get s 1 5 k (by omega) h
  have hN : numOf s = numZ D := by rw [← hD]; rfl
  rw [hN] at hE ⊢
  obtain ⟨N, hNN⟩ : ∃ N, numZ D = N := ⟨_, rfl⟩
  rw [hNN] at hE ⊢
  obtain ⟨X, hX⟩ : ∃ X, s.extract 12 16 = X := ⟨_, rfl⟩
  have hXl : X.data.toList.length = 4 := by rw [← hX, extract_len s 12 16 (by omega)]
  have hXg : ∀ k (h : k < X.data.toList.length), X.data.toList[k] = chr s (12 + k) := by subst hX; exact fun k h => extract_get s 12 16 k (by omega) h
  rw [hX] at hE
  obtain ⟨cs, hcs⟩ : ∃ cs, (hdOf s).cells = cs := ⟨_, rfl⟩
  rw [hcs] at HRI
  have hcz : cs.size = 6 := by rw [← hcs]; rfl
  have hco : cs.all (·.oneCell') = true := by rw [← hcs]; simp [Hd.cells, Value.oneCell']
  have HCS := Lib.hid hcs; clear hcs
  have hcs' : #[Value.int .u8 ((chr s 0).toNat : Int), .string (s.extract 5 7), .int .u8 ((chr s 7).toNat : Int), .int .u8 ((chr s 8).toNat : Int), .string (s.extract 9 11), .int .u8 ((chr s 11).toNat : Int)] = cs := HCS.out
  have HCS' := Lib.hid hcs'; clear hcs'
  have hb0 : Below w.heap.size w (w.alloc (.cells #[.int .u8 0, .string ⟨#[]⟩, .int .u8 0, .int .u8 0, .string ⟨#[]⟩, .int .u8 0] 23)) := (Below.refl _ _).alloc (Nat.le_refl _) _
  have hR0 := Blk.new w 23 #[.int .u8 0, .string ⟨#[]⟩, .int .u8 0, .int .u8 0, .string ⟨#[]⟩, .int .u8 0]
  have HE := Lib.hid hE; clear hE hN
  have HRC := Lib.hid hrc; clear hrc
  have HDG := Lib.hid hDg; clear hDg
  have HXG := Lib.hid hXg; clear hXg
  have HNN := Lib.hid hNN; clear hNN
  have HDL := Lib.hid hDl; clear hDl
  have HXL := Lib.hid hXl; clear hXl
  clear hX hD
  obtain ⟨X57, hX57⟩ : ∃ X, s.extract 5 7 = X := ⟨_, rfl⟩
  obtain ⟨X9, hX9⟩ : ∃ X, s.extract 9 11 = X := ⟨_, rfl⟩
  rw [hX57, hX9] at HCS'
  have HS := Lib.hid hs
  clear hs
  generalize hc0 : (chr s 0).toNat = c0 at *
  generalize hc7 : (chr s 7).toNat = c7 at *
  generalize hc8 : (chr s 8).toNat = c8 at *
  generalize hc11 : (chr s 11).toNat = c11 at *
  clear hc0 hc7 hc8 hc11
  obtain ⟨PC, hPC⟩ : ∃ PC, (if isOk E then hdOf s else Hd.zero).cells = PC := ⟨_, rfl⟩
  obtain ⟨PN, hPN⟩ : ∃ PN, (if isOk E then N else 0) = PN := ⟨_, rfl⟩
  obtain ⟨PA, hPA⟩ : ∃ PA, erAt E = PA := ⟨_, rfl⟩
  rw [hPC, hPN, hPA]
  have HPC := Lib.hid hPC; clear hPC
  have HPN := Lib.hid hPN; clear hPN
  have HPA := Lib.hid hPA; clear hPA
  have hbadv : ∀ a : Int, isOk E = false → erAt E = a → Hid (PC = Hd.zero.cells ∧ PN = 0 ∧ PA = a) := fun a h1 h2 => by
    refine ⟨?_, ?_, by rw [← HPA.out]; exact h2⟩
    · rw [← HPC.out, h1]; rfl
    · rw [← HPN.out, h1]; rfl
  have HBAD := Lib.hid hbadv; clear hbadv
  go_enter Tryd.func16, Tryd.ntmps16
  go_wp2_with fail
  refine wp_region_tree (.q 0 (.q 1 (.q 2 (.q 3 (.q 4 (.q 5 (.q 6 (.q 7 (.q 8 (.q 9 (.q 10 (.q 11 (.q 12 (.e [13] fun _ => .e [14] fun _ => .done)))))))))))))) (fun _ => True) rfl (by kernel_rfl) (fun _ _ d _ _ h => by cases d <;> exact h) ?_
  have hs := HS.out
  refine t_q rfl rfl trivial _ (fun W hW => by (go_simp; rfl)) ?_
  go_simp
  refine t_q rfl rfl trivial (.int .u8 (c0 : Int)) (fun W hW => by (go_simp)) ?_
  go_simp
  refine t_q rfl rfl trivial _ (fun W hW => by (go_simp; rfl)) ?_
  go_simp
  refine t_q rfl rfl trivial (.string X57) (fun W hW => by (go_simp; intro h; omega)) ?_
  go_simp
  refine t_q rfl rfl trivial _ (fun W hW => by (go_simp; rfl)) ?_
  go_simp
  refine t_q rfl rfl trivial (.int .u8 (c7 : Int)) (fun W hW => by (go_simp)) ?_
  go_simp
  refine t_q rfl rfl trivial _ (fun W hW => by (go_simp; rfl)) ?_
  go_simp
  refine t_q rfl rfl trivial (.int .u8 (c8 : Int)) (fun W hW => by (go_simp)) ?_
  go_simp
  refine t_q rfl rfl trivial _ (fun W hW => by (go_simp; rfl)) ?_
  go_simp
  refine t_q rfl rfl trivial (.string X9) (fun W hW => by (go_simp; intro h; omega)) ?_
  go_simp
  refine t_q rfl rfl trivial _ (fun W hW => by (go_simp; rfl)) ?_
  go_simp
  refine t_q rfl rfl trivial (.int .u8 (c11 : Int)) (fun W hW => by (go_simp)) ?_
  go_simp
  refine t_q rfl rfl trivial (.agg cs) (fun W hW => by (go_simp; rw [HCS'.out])) ?_
  go_simp
  refine t_e rfl rfl fun K hK => ?_
  go_simp
  refine hK _ _ trivial ?_
  clear hK K
  refine t_e rfl rfl fun K hK => ?_
  refine op_store_row 23 (.tmp 5) (.tmp 21) rfl (w.heap.size + 1) cs rfl rfl 23 #[.int .u8 0, .string ⟨#[]⟩, .int .u8 0, .int .u8 0, .string ⟨#[]⟩, .int .u8 0] (by have := Blk.new (w.alloc (.cells #[.int .u8 0, .string ⟨#[]⟩, .int .u8 0, .int .u8 0, .string ⟨#[]⟩, .int .u8 0] 23)) 23 #[.int .u8 0, .string ⟨#[]⟩, .int .u8 0, .int .u8 0, .string ⟨#[]⟩, .int .u8 0]; rw [World.size_alloc] at this; exact this.drewN 1) (by rw [info_head, hcz]) (by rw [hcz]; rfl) hco fun w1 hB1 hO1 => ?_
  have hbel1 := hO1.below (below_drewN (hb0.alloc (by simp) _) 1) (by omega)
  have hR1 := ((hR0.alloc _).drewN 1).only hO1 (by omega)
  clear hO1 hR0 hb0 i7 i8 i11 HCS'
  refine hK _ _ trivial ?_
  clear hK K
  refine t_done ?_
  have hlt1 := hR1.lt
  go_wp2_with fail
  refine (HIN.out _).mono ?_
  rintro e w' ⟨rfl, rfl⟩
  cases nb with
  | false =>
    have hAH : aheadB er = true := by simpa using HNB.out
    obtain rfl : E = er := by rw [← HE.out]; unfold pE; rw [if_pos hAH]
    obtain ⟨k0, k1, k2, k3, k4, k5, f0, f1, f2, f3, f4, f5⟩ := zset_facts hR1
    have hat : erAt E = 0 ∧ isOk E = false := by rcases HRC.out with h | ⟨k, h, _⟩ <;> subst h <;> simp [aheadB] at hAH <;> simp [erAt, isOk, hAH]
    have HAT := HBAD.out 0 hat.2 hat.1
    clear hat hAH i0
    go_wp2
    (try simp only [Exit.inBlock, Exit.then])
    refine bodyPost_ret (results_cell3 rfl _ _ w.heap.size 23 #[.int .u8 0, .string ⟨#[]⟩, .int .u8 0, .int .u8 0, .string ⟨#[]⟩, .int .u8 0] _ rfl (zset_blk hR1) Tryd.underlying23 rfl (by rw [info_head]; rfl)) rfl ?_
    rw [HAT.out.1, HAT.out.2.1, HAT.out.2.2]
    exact ⟨rfl, (zset_only w1 w.heap.size).below hbel1 (Nat.le_refl _)⟩
  | true =>
    have hAH : aheadB er = false := by simpa using HNB.out
    have hE1 : N < 16 → Hid (PC = Hd.zero.cells ∧ PN = 0 ∧ PA = 1) := fun h => HBAD.out 1 (by rw [← HE.out]; unfold pE; rw [if_neg (by rw [hAH]; exact Bool.false_ne_true), if_pos h]; rfl) (by rw [← HE.out]; unfold pE; rw [if_neg (by rw [hAH]; exact Bool.false_ne_true), if_pos h]; rfl)
    have HE1 := Lib.hid hE1; clear hE1
    have hE2 : 16 ≤ N → Hid ((if isOk er then (if decide (X = z4) then Er.ok else .fa 12 6) else er) = E) := fun h => by have := HE.out; unfold pE at this; rw [if_neg (by rw [hAH]; exact Bool.false_ne_true), if_neg (by omega)] at this; exact this
    have HE2 := Lib.hid hE2; clear hE2
    clear i0 hAH HIN
    go_wp2
    go_loop [6, 7] (fun n i => ∃ k : Nat, 1 ≤ k ∧ k ≤ 5 ∧ i = .int .i64 k ∧ n = .int .i64 (numF (D.take (k - 1)) : Nat) ∧ Hid (∀ c ∈ D.take (k - 1), isDec c = true)) (fun _ i => 5 - (intOf i).toNat)
    case atStart => exact ⟨1, by omega, by omega, rfl, rfl, fun c h => by cases h⟩
    case round =>
      obtain ⟨k, hk1, hk, rfl, rfl, hall⟩ := hrel
      by_cases hlt : k < 5
      · have hki : (k : Int) < 5 := by omega
        have i1 := HIX.out k (by omega)
        have hkl : k - 1 < D.length := by rw [HDL.out]; omega
        have hg := HDG.out (k - 1) hkl
        rw [show 1 + (k - 1) = k by omega] at hg
        have hsn : numF (D.take (k + 1 - 1)) = 10 * numF (D.take (k - 1)) + ((chr s k).toNat - 48) := by rw [show k + 1 - 1 = k - 1 + 1 by omega, List.take_succ_eq_append_getElem hkl, numF_snoc, hg]
        have hnl := numF_lt _ hall.out
        have hp : 10 ^ (D.take (k - 1)).length ≤ 10 ^ 4 := Nat.pow_le_pow_right (by omega) (by rw [List.length_take]; omega)
        have hnext : isDec (chr s k) = true → Hid (∀ c ∈ D.take (k + 1 - 1), isDec c = true) := fun hd c hc => by
          rw [show k + 1 - 1 = k - 1 + 1 by omega, List.take_succ_eq_append_getElem hkl] at hc
          rcases List.mem_append.1 hc with h | h
          · exact hall.out c h
          · simp at h; subst h; rw [hg]; exact hd
        have hbad : isDec (chr s k) = false → Hid (PC = Hd.zero.cells ∧ PN = 0 ∧ PA = 1) := fun h => HE1.out (by
          rw [← HNN.out]
          unfold numZ
          rw [if_neg]
          · omega
          · intro h2
            have := List.all_eq_true.1 h2 D[k - 1] (List.getElem_mem hkl)
            rw [hg, h] at this
            cases this)
        obtain ⟨c, hc⟩ : ∃ c, chr s k = c := ⟨_, rfl⟩
        rw [hc] at i1 hsn hnext hbad
        clear hg hc
        have hcl := c.toNat_lt
        have hN : numF (D.take (k - 1)) < 10000 := Nat.lt_of_lt_of_le hnl hp
        by_cases hd : 48 ≤ c.toNat ∧ c.toNat ≤ 57
        · have hn := hnext (decide_eq_true hd)
          obtain ⟨h2a, h2b⟩ := hd
          generalize numF (D.take (k - 1)) = M at *
          have e1 : 10 * (M : Int) + (c.toNat : Int) - 48 = ((10 * M + (c.toNat - 48) : Nat) : Int) := by omega
          rw [← hsn] at e1
          have E1 := Lib.hid e1; clear e1
          have q2 : (48 : Int) ≤ (c.toNat : Int) := by omega
          have q3 : (c.toNat : Int) ≤ 57 := by omega
          clear hnext hsn hnl hp hbad
          go_wp2
          go_round
          case rel => exact ⟨k + 1, by omega, by omega, by go_num, by rw [E1.out], hn⟩
          case measure => simp [intOf]; omega
        · have HAT := hbad (decide_eq_false hd)
          clear hnext hsn hnl hp hbad
          generalize numF (D.take (k - 1)) = M at *
          by_cases a1 : c.toNat < 48
          · have q1 : (c.toNat : Int) < 48 := by omega
            obtain ⟨k0, k1, k2, k3, k4, k5, f0, f1, f2, f3, f4, f5⟩ := zset_facts hR1

            go_wp2
            (try simp only [Exit.inBlock, Exit.then])
            refine bodyPost_ret (results_cell3 rfl _ _ w.heap.size 23 #[.int .u8 0, .string ⟨#[]⟩, .int .u8 0, .int .u8 0, .string ⟨#[]⟩, .int .u8 0] _ rfl (zset_blk hR1) Tryd.underlying23 rfl (by rw [info_head]; rfl)) rfl ?_
            rw [HAT.out.1, HAT.out.2.1, HAT.out.2.2]
            exact ⟨rfl, (zset_only w1 w.heap.size).below hbel1 (Nat.le_refl _)⟩
          · have q1 : ¬ (c.toNat : Int) < 48 := by omega
            have q2 : (57 : Int) < (c.toNat : Int) := by omega
            obtain ⟨k0, k1, k2, k3, k4, k5, f0, f1, f2, f3, f4, f5⟩ := zset_facts hR1

            go_wp2
            (try simp only [Exit.inBlock, Exit.then])
            refine bodyPost_ret (results_cell3 rfl _ _ w.heap.size 23 #[.int .u8 0, .string ⟨#[]⟩, .int .u8 0, .int .u8 0, .string ⟨#[]⟩, .int .u8 0] _ rfl (zset_blk hR1) Tryd.underlying23 rfl (by rw [info_head]; rfl)) rfl ?_
            rw [HAT.out.1, HAT.out.2.1, HAT.out.2.2]
            exact ⟨rfl, (zset_only w1 w.heap.size).below hbel1 (Nat.le_refl _)⟩
      · obtain rfl : k = 5 := by omega
        have hki : ¬ ((5 : Nat) : Int) < 5 := by omega
        have hfin : D.take (5 - 1) = D := List.take_of_length_le (by rw [HDL.out]; omega)
        rw [hfin] at hall ⊢
        have hz : (numF D : Int) = N := by rw [← HNN.out]; unfold numZ; rw [if_pos (List.all_eq_true.2 hall.out)]; rfl
        rw [hz]
        clear hz hfin hall
        by_cases hN : N < 16
        · have HAT := HE1.out hN
          obtain ⟨k0, k1, k2, k3, k4, k5, f0, f1, f2, f3, f4, f5⟩ := zset_facts hR1

          go_wp2
          (try simp only [Exit.inBlock, Exit.then])
          refine bodyPost_ret (results_cell3 rfl _ _ w.heap.size 23 #[.int .u8 0, .string ⟨#[]⟩, .int .u8 0, .int .u8 0, .string ⟨#[]⟩, .int .u8 0] _ rfl (zset_blk hR1) Tryd.underlying23 rfl (by rw [info_head]; rfl)) rfl ?_
          rw [HAT.out.1, HAT.out.2.1, HAT.out.2.2]
          exact ⟨rfl, (zset_only w1 w.heap.size).below hbel1 (Nat.le_refl _)⟩
        · have HE3 := HE2.out (by omega)
          go_wp2_with (refine wpList_load_row rfl 23 (.tmp 5) rfl (w.heap.size + 1) rfl 23 cs (0,0) _ hB1 Tryd.underlying23 rfl (by rw [info_head, hcz]) ?_)
          refine (HRI.out _).mono ?_
          rintro e w2 ⟨rfl, hb2⟩
          have hR2 := hR1.below hb2 hR1.lt
          have hB2 := hB1.below hb2 hB1.lt
          have hbel2 := hbel1.trans (hb2.mono hbel1.size)
          have hlt2 := hR2.lt
          clear hb2 hR1 hB1 hbel1
          rcases HRC.out with hr | ⟨p, hr, hp⟩
          · subst hr
            have h53 : erAt .ok = -1 := rfl
            have HE4 : X = z4 → Hid (PC = cs ∧ PN = N ∧ PA = -1) := fun h => by
              have he : E = .ok := by rw [← HE3.out, decide_eq_true h]; rfl
              refine ⟨?_, ?_, ?_⟩
              · rw [← HPC.out, he]; exact HCS.out
              · rw [← HPN.out, he]; rfl
              · rw [← HPA.out, he]; rfl
            have HE5 : ¬ X = z4 → Hid (PC = Hd.zero.cells ∧ PN = 0 ∧ PA = 12) := fun h => by
              have he : E = .fa 12 6 := by rw [← HE3.out, decide_eq_false h]; rfl
              exact HBAD.out 12 (by rw [he]; rfl) (by rw [he]; rfl)
            have HE4 := Lib.hid HE4
            have HE5 := Lib.hid HE5
            rename_i he4 he5
            clear he4 he5 HE1 HE2 HE3 HRI
            go_wp2
            go_loop [8] (fun i => ∃ k : Nat, 12 ≤ k ∧ k ≤ 16 ∧ i = .int .i64 k ∧ Hid (∀ c ∈ X.data.toList.take (k - 12), c = 48)) (fun i => 16 - (intOf i).toNat)
            case atStart => exact ⟨12, by omega, by omega, rfl, fun c h => by cases h⟩
            case round =>
              obtain ⟨k, hk1, hk, rfl, hall⟩ := hrel
              by_cases hlt : k < 16
              · have hki : (k : Int) < 16 := by omega
                have i1 := HIX.out k (by omega)
                have hkl : k - 12 < X.data.toList.length := by rw [HXL.out]; omega
                have hg := HXG.out (k - 12) hkl
                rw [show 12 + (k - 12) = k by omega] at hg
                by_cases hc : chr s k = 48
                · have hn : Hid (∀ c ∈ X.data.toList.take (k + 1 - 12), c = 48) := fun c hcm => by
                    rw [show k + 1 - 12 = k - 12 + 1 by omega, List.take_succ_eq_append_getElem hkl] at hcm
                    rcases List.mem_append.1 hcm with h | h
                    · exact hall.out c h
                    · simp at h; subst h; exact hg.trans hc
                  rw [hc] at i1
                  rw [show (((48 : UInt8).toNat : Nat) : Int) = 48 from rfl] at i1
                  clear hg hc
                  go_wp2
                  go_round
                  case rel => exact ⟨k + 1, by omega, by omega, by go_num, hn⟩
                  case measure => simp [intOf]; omega
                · have HAT := HE5.out (fun h => hc (by
                    rw [← hg]
                    have h2 : X.data.toList = [48, 48, 48, 48] := by rw [h]; rfl
                    have h3 : X.data.toList[k - 12] ∈ [(48 : UInt8), 48, 48, 48] := by rw [← h2]; exact List.getElem_mem hkl
                    simpa using h3))
                  have t1 : (((chr s k).toNat : Int) != 48) = true := by
                    rw [bne_iff_ne]
                    intro h
                    exact hc (UInt8.toNat_inj.1 (by show _ = 48; omega))
                  clear hg hc
                  generalize (chr s k).toNat = ck at *
                  obtain ⟨k0, k1, k2, k3, k4, k5, f0, f1, f2, f3, f4, f5⟩ := zset_facts hR2
                  go_wp2
                  (try simp only [Exit.inBlock, Exit.then])
                  refine bodyPost_ret (results_cell3 rfl _ _ w.heap.size 23 #[.int .u8 0, .string ⟨#[]⟩, .int .u8 0, .int .u8 0, .string ⟨#[]⟩, .int .u8 0] _ rfl (zset_blk hR2) Tryd.underlying23 rfl (by rw [info_head]; rfl)) rfl ?_
                  rw [HAT.out.1, HAT.out.2.1, HAT.out.2.2]
                  exact ⟨rfl, (zset_only w2 w.heap.size).below hbel2 (Nat.le_refl _)⟩
              · obtain rfl : k = 16 := by omega
                have hki : ¬ ((16 : Nat) : Int) < 16 := by omega
                have hXX : X = z4 := by
                  have h1 : X.data.toList.take (16 - 12) = X.data.toList := List.take_of_length_le (by rw [HXL.out]; omega)
                  rw [h1] at hall
                  have h2 : X.data.toList = List.replicate 4 48 := List.eq_replicate_iff.2 ⟨HXL.out, hall.out⟩
                  apply ByteArray.ext
                  exact Array.toList_inj.1 h2
                have HAT := HE4.out hXX
                clear hXX hall
                go_wp2_with (first
                  | (refine wpList_load_row rfl 23 (.tmp 5) rfl (w.heap.size + 1) rfl 23 cs (0,0) _ hB2 Tryd.underlying23 rfl (by rw [info_head, hcz]) ?_)
                  | (refine wpList_store_row rfl 23 (.tmp 2) (.tmp 68) rfl w.heap.size cs rfl rfl 23 #[.int .u8 0, .string ⟨#[]⟩, .int .u8 0, .int .u8 0, .string ⟨#[]⟩, .int .u8 0] hR2 (by rw [info_head, hcz]) (by rw [hcz]; rfl) hco ?_))
                (try simp only [Exit.inBlock, Exit.then])
                refine bodyPost_ret (results_cell3 rfl _ _ w.heap.size 23 cs _ rfl (hR2.row _) Tryd.underlying23 rfl (by rw [info_head, hcz])) rfl ?_
                rw [HAT.out.1, HAT.out.2.1, HAT.out.2.2]
                exact ⟨rfl, (Only.setRow _ _ _).below hbel2 (Nat.le_refl _)⟩
          · have hp0 : erAt er = (p : Int) := by rw [hr]; rfl
            have hp1 : (0 : Int) ≤ (p : Int) := by omega
            rw [hp0] at HRI ⊢
            have HAT : Hid (PC = Hd.zero.cells ∧ PN = 0 ∧ PA = (p : Int)) := by
              have he : E = .fa p 6 := by rw [← HE3.out, hr]; rfl
              exact HBAD.out p (by rw [he]; rfl) (by rw [he]; rfl)
            clear hp0 HE1 HE2 HE3
            go_wp2_with (refine wpList_load_row rfl 23 (.tmp 5) rfl (w.heap.size + 1) rfl 23 cs (0,0) _ hB2 Tryd.underlying23 rfl (by rw [info_head, hcz]) ?_)
            refine (HRI.out _).mono ?_
            rintro e w3 ⟨rfl, hb3⟩
            have hR3 := hR2.below hb3 hR2.lt
            have hbel3 := hbel2.trans (hb3.mono hbel2.size)
            have hlt3 := hR3.lt
            obtain ⟨k0, k1, k2, k3, k4, k5, f0, f1, f2, f3, f4, f5⟩ := zset_facts hR3
            go_wp2
            (try simp only [Exit.inBlock, Exit.then])
            refine bodyPost_ret (results_cell3 rfl _ _ w.heap.size 23 #[.int .u8 0, .string ⟨#[]⟩, .int .u8 0, .int .u8 0, .string ⟨#[]⟩, .int .u8 0] _ rfl (zset_blk hR3) Tryd.underlying23 rfl (by rw [info_head]; rfl)) rfl ?_
            rw [HAT.out.1, HAT.out.2.1, HAT.out.2.2]
            exact ⟨rfl, (zset_only w3 w.heap.size).below hbel3 (Nat.le_refl _)⟩

end Go.Proofs.YtcjnkobddeiahaaDoor
