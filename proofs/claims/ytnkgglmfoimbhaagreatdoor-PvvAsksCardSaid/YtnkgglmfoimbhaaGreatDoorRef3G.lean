/- The contracts of lockboxref03.Block, Triple. -/
import Derived.Test.YtnkgglmfoimbhaaGreatDoorRef3D
import Derived.Test.YtnkgglmfoimbhaaGreatDoorRef3F
import Derived.Test.YtnkgglmfoimbhaaGreatDoorConv
namespace Go.Proofs.YtnkgglmfoimbhaaGreatDoor
open Go Go.RowKit Pr

theorem ladderR_len (ks : Nat → List Nat) (L R : List Nat) (hL : L.length = 32) (hR : R.length = 32) : ∀ r, (ladderR ks L R r).1.length = 32 ∧ (ladderR ks L R r).2.length = 32
  | 0 => ⟨hL, hR⟩
  | r + 1 => by
    have h := ladderR_len ks L R hL hR r
    exact ⟨h.2, by simp [ladderR]⟩
theorem permR_lt (l ps : List Nat) (h : ∀ b ∈ l, b < 2) : ∀ b ∈ permR l ps, b < 2 := by
  intro b hb
  simp only [permR, List.mem_map] at hb
  obtain ⟨p, _, rfl⟩ := hb
  exact getD_lt2 l h _
theorem mixR_lt (half key : List Nat) : ∀ b ∈ mixR half key, b < 2 := by
  refine permR_lt _ _ ?_
  have : ∀ n, ∀ b ∈ outR half key n, b < 2 := by
    intro n
    induction n with
    | zero => intro b hb; cases hb
    | succ n ih =>
      intro b hb
      rw [outR] at hb
      rcases List.mem_append.1 hb with h | h
      · exact ih b h
      · simp only [nibR, List.mem_cons, List.not_mem_nil, or_false] at h
        rcases h with rfl | rfl | rfl | rfl <;> exact Nat.mod_lt _ (by omega)
  exact this 8
theorem mixR_len (half key : List Nat) : (mixR half key).length = 32 := permR_len _ _
theorem keyR_lt (key : List Nat) (r : Nat) : ∀ b ∈ keyR key r, b < 2 := by
  refine permR_lt _ _ ?_
  have hC : ∀ (c : List Nat), (∀ b ∈ c, b < 2) → ∀ n, ∀ b ∈ refC c n, b < 2 := by
    intro c hc n
    induction n with
    | zero => exact hc
    | succ n ih =>
      intro b hb
      rw [refC] at hb
      rcases List.mem_append.1 hb with h | h
      · exact ih b (List.mem_of_mem_drop h)
      · exact ih b (List.mem_of_mem_take h)
  have hp := permR_lt (bitsB key) psPC1 (bitsB_lt key)
  intro b hb
  rcases List.mem_append.1 hb with h | h
  · exact hC _ (fun b hb => hp b (List.mem_of_mem_take hb)) _ b h
  · exact hC _ (fun b hb => hp b (List.mem_of_mem_drop hb)) _ b h
theorem ladderR_lt (ks : Nat → List Nat) (L R : List Nat) (hL : ∀ b ∈ L, b < 2) (hR : ∀ b ∈ R, b < 2) : ∀ r, (∀ b ∈ (ladderR ks L R r).1, b < 2) ∧ (∀ b ∈ (ladderR ks L R r).2, b < 2)
  | 0 => ⟨hL, hR⟩
  | r + 1 => by
    have h := ladderR_lt ks L R hL hR r
    refine ⟨h.2, fun b hb => ?_⟩
    simp only [ladderR, List.mem_map] at hb
    obtain ⟨i, _, rfl⟩ := hb
    exact xor_lt2 _ _ (getD_lt2 _ h.1 i) (getD_lt2 _ (mixR_lt _ _) i)
theorem KeysAt.form {key : List Nat} {B : Nat} {w : World} {v : Value} (h : KeysAt key B w v 16) : ∃ g cap, v = .slice (some ⟨g, 0, none⟩) 16 cap ∧ g < w.heap.size ∧ ∀ j, j < 16 → ∃ gk ck, w.cell? ⟨g, j, none⟩ = some (.slice (some ⟨gk, 0, none⟩) 48 ck) ∧ gk < w.heap.size ∧ Ns .i64 w gk 0 (keyR key j) := by
  obtain ⟨vs, h1, h2⟩ := h
  obtain ⟨g, cap, rfl, hlt⟩ : ∃ g cap, v = .slice (some ⟨g, 0, none⟩) 16 cap ∧ g < w.heap.size := by
    rcases h1.2 with ⟨_, h0⟩ | ⟨g, cap, cur, hv, _⟩
    · omega
    · exact ⟨g, cap, hv, (World.ownsRow.lt h1 g (by rw [hv]; rfl)).2⟩
  refine ⟨g, cap, rfl, hlt, fun j hj => ?_⟩
  obtain ⟨u, hu, ⟨gk, ck, rfl, hk, hN⟩, _⟩ := h2 j hj
  have hc := World.ownsRow.cells h1 (g := g) rfl j _ hu
  rw [Addr.add_mid, Nat.zero_add] at hc
  rw [keyR_len] at hc
  exact ⟨gk, ck, hc, hk, hN⟩
/-- a row of bits somewhere -/
def BitsAt (w : World) (c : Value) (l : List Nat) : Prop := ∃ g o cp, c = .slice (some ⟨g, o, none⟩) 32 cp ∧ 32 ≤ cp ∧ Ns .i64 w g o l ∧ g < w.heap.size
theorem BitsAt.below {w w' : World} {c : Value} {l : List Nat} {B : Nat} (h : BitsAt w c l) (hb : Below B w w') (hB : w.heap.size ≤ B) : BitsAt w' c l := by
  obtain ⟨g, o, cp, rfl, h1, h3, h4⟩ := h
  exact ⟨g, o, cp, rfl, h1, h3.below hb (by omega), Nat.lt_of_lt_of_le h4 (Nat.le_trans (by omega) hb.size)⟩

/-- new numbers, all zero -/
theorem run_make_ints (kl kc : IntKind) (n : Nat) (hn : n ≤ 1000) (w : World) :
    (Instr.makeSlice 42 (.int kl (n : Int)) (.int kc (n : Int))).run Tryz.prog w = .ok (.slice (some ⟨w.heap.size, 0, none⟩) n n) (w.alloc (.cells (numCells .i64 (List.replicate n 0)) 3)) := by
  have h := run_make_row' 42 3 (.int .i64 0) 8 Tryz.underlying42 info_int rfl kl kc n (by omega) (by omega) w
  have e : madeCells #[Value.int .i64 0] n = numCells .i64 (List.replicate n 0) := by
    apply Array.ext
    · simp [madeCells, numCells]
    · intro i h1 h2
      simp [madeCells, numCells, Nat.mod_one]
  rw [← e]
  exact h
theorem wpList_make_ints {ops : Array Oper} {rest : List Oper} {op : Oper} {a : Act} {w : World} {Q : Exit → Act → World → Prop} (hgd : op.guard = none) (x y : Operand) (ho : op.op = .makeSlice 42 x y) (kl kc : IntKind) (i j : Int) (n : Nat) (hi : i = n) (hj : j = n) (hx : a.eval x = .int kl i) (hy : a.eval y = .int kc j) (hn : n ≤ 1000)
    (h : ∀ w', Below w.heap.size w w' → Blk w' w.heap.size 3 (numCells .i64 (List.replicate n 0)) → w'.heap.size = w.heap.size + 1 → wpList Tryz.prog ops Q rest (a.put op.dst (.slice (some ⟨w.heap.size, 0, none⟩) n n)) w') : wpList Tryz.prog ops Q (op :: rest) a w := by
  refine wpList_run hgd (v := .slice (some ⟨w.heap.size, 0, none⟩) n n) (w' := w.alloc (.cells (numCells .i64 (List.replicate n 0)) 3)) ?_ (h _ ((Below.refl _ _).alloc (Nat.le_refl _) _) (Blk.new w _ _) (by simp))
  unfold execOp
  simp only [ho, hx, hy, hi, hj, Sem.run_bind, run_make_ints kl kc n hn w, Result.andThen_ok]
  simp

set_option maxHeartbeats 8000000 in
set_option maxRecDepth 100000 in
theorem block3_any (key b : List Nat) (back : Bool) (hk : key.length = 8) (gk : ∀ c ∈ key, c < 256) (hb : b.length = 8) (gb : ∀ c ∈ b, c < 256) (A B : Option Addr) (ca cb : Nat) (w : World) (hA : At w A key) (hB : At w B b) :
    Calls Tryz.prog 79 #[.slice A 8 ca, .slice B 8 cb, .bool back] w fun e w' => (∃ v, e = .returned v ∧ Own w' w.heap.size v (blockN key b back)) ∧ Below w.heap.size w w' := by
  rw [← blockR_eq key b back hk gk hb gb]
  have HK := Lib.hid (fun W hA => keys3_any key hk gk A ca W hA)
  have HB := Lib.hid (fun W hB => bits_any b gb (by omega) B cb W hB)
  rw [hk] at HK
  rw [hb] at HB
  have hbl := bitsL_len b
  rw [hb] at hbl
  have hblt := bitsL_lt b
  have hdef : blockR key b back = bytesR (unR ((ladderR (pickR key back) ((permR (bitsL b) psIP).take 32) ((permR (bitsL b) psIP).drop 32) 16).2 ++ (ladderR (pickR key back) ((permR (bitsL b) psIP).take 32) ((permR (bitsL b) psIP).drop 32) 16).1) 64) := rfl
  rw [hdef]
  have h64 := permR_len (bitsL b) psIP
  have hMlt := permR_lt (bitsL b) psIP hblt
  rw [show psIP.length = 64 from rfl] at h64
  have hPick : ∀ r, pickR key back r = keyR key (if back then 15 - r else r) := fun r => rfl
  clear hdef hblt
  generalize bitsL b = L at *
  have HP := Lib.hid (fun A' c' (tab : ByteArray) (ht : Tab tab 64 psIP) W hA => perm3_any L A' c' tab 64 psIP ht (by decide) (by rw [hbl]; decide) W hA)
  rw [hbl] at HP
  generalize permR L psIP = M at *
  have hl0 : (M.take 32).length = 32 := by rw [List.length_take, h64]; rfl
  have hl1 : (M.drop 32).length = 32 := by rw [List.length_drop, h64]
  have hLR := ladderR_len (pickR key back) (M.take 32) (M.drop 32) hl0 hl1
  have hLT := ladderR_lt (pickR key back) (M.take 32) (M.drop 32) (fun b hb => hMlt b (List.mem_of_mem_take hb)) (fun b hb => hMlt b (List.mem_of_mem_drop hb))
  have hKlt := fun r => keyR_lt key r
  have hKln := fun r => keyR_len key r
  have hstep : ∀ r, ladderR (pickR key back) (M.take 32) (M.drop 32) (r + 1) = ((ladderR (pickR key back) (M.take 32) (M.drop 32) r).2, (List.range 32).map fun i => (ladderR (pickR key back) (M.take 32) (M.drop 32) r).1.getD i 0 ^^^ (mixR (ladderR (pickR key back) (M.take 32) (M.drop 32) r).2 (pickR key back r)).getD i 0) := fun r => rfl
  have h0 : ladderR (pickR key back) (M.take 32) (M.drop 32) 0 = (M.take 32, M.drop 32) := rfl
  generalize ladderR (pickR key back) (M.take 32) (M.drop 32) = LD at *
  generalize pickR key back = PK at *
  have HLR := Lib.hid hLR; clear hLR
  have HLT := Lib.hid hLT; clear hLT
  have HKLT := Lib.hid hKlt; clear hKlt
  have HKLN := Lib.hid hKln; clear hKln
  have HST := Lib.hid hstep; clear hstep
  have H0 := Lib.hid h0; clear h0
  have HPK := Lib.hid hPick; clear hPick
  have HBL := Lib.hid hbl; clear hbl
  have H64 := Lib.hid h64; clear h64
  clear hk gk hb gb hMlt hl0 hl1
  go_enter Tryz.func79, Tryz.ntmps79
  go_wp2_with fail
  refine (HK.out _ hA).mono ?_
  rintro e w1 ⟨⟨v, rfl, hv⟩, hb1⟩
  obtain ⟨gK, cK, rfl, hgK, hKc⟩ := hv.form
  clear hv HK
  go_wp2_with fail
  refine (HB.out _ (hB.below hb1 (Nat.le_refl _))).mono ?_
  rintro e w2 ⟨⟨v, rfl, hv⟩, hb2⟩
  obtain ⟨A1, c1, rfl, -, hN1⟩ := hv.form
  rw [HBL.out]
  clear hv HB
  go_wp2_with fail
  refine (HP.out _ _ _ (tab_of (by kernel_rfl)) _ hN1).mono ?_
  rintro e w3 ⟨⟨v, rfl, hv⟩, hb3⟩
  obtain ⟨g, cap, rfl, -, hcap, hg, hN⟩ := hv.at_ (by intro h; have := H64.out; rw [h] at this; cases this)
  rw [H64.out] at hcap ⊢
  have hb12 : Below w1.heap.size w1 w3 := hb2.trans (hb3.mono hb2.size)
  have hb13 : Below w.heap.size w w3 := hb1.trans (hb12.mono hb1.size)
  have hKc3 : ∀ W, Below w3.heap.size w3 W → ∀ j, j < 16 → ∃ gk ck, W.cell? ⟨gK, j, none⟩ = some (.slice (some ⟨gk, 0, none⟩) 48 ck) ∧ gk < W.heap.size ∧ Ns .i64 W gk 0 (keyR key j) := fun W hW j hj => by
    obtain ⟨gk, ck, h1, h2, h3⟩ := hKc j hj
    have hs := hb12.size
    have hx := (hb12.trans (hW.mono hs))
    exact ⟨gk, ck, (hx.cell (p := ⟨gK, j, none⟩) hgK).trans h1, Nat.lt_of_lt_of_le h2 (Nat.le_trans hs hW.size), h3.below hx h2⟩
  have hci : (64 : Int) ≤ (cap : Int) := by omega
  have hci2 : (32 : Int) ≤ (cap : Int) := by omega
  have hci3 : ¬ cap = 32 := by omega
  have hBL : BitsAt w3 (.slice (some ⟨g, 0, none⟩) 32 cap) (LD 0).1 := ⟨g, 0, cap, rfl, by omega, by have := hN.sub 0 32; rw [H0.out]; simpa using this, hg⟩
  have hBR : BitsAt w3 (.slice (some ⟨g, 32, none⟩) 32 (cap - 32)) (LD 0).2 := ⟨g, 32, cap - 32, rfl, by omega, by have := hN.sub 32 32; rw [H0.out]; rwa [Nat.zero_add, List.take_of_length_le (by rw [List.length_drop, H64.out]; decide)] at this, hg⟩
  clear hv hN hN1 hb1 hb2 hb3 HP hKc hb12
  have HBLt := Lib.hid hBL; clear hBL
  have HBRt := Lib.hid hBR; clear hBR
  have HKC := Lib.hid hKc3; clear hKc3
  go_wp2
  go_loopw [9, 10, 11, 12, 13, 14, 15] (fun l r i _ _ _ _ wr => ∃ k : Nat, k ≤ 16 ∧ i = .int .i64 k ∧ BitsAt wr l (LD k).1 ∧ BitsAt wr r (LD k).2 ∧ Below w3.heap.size w3 wr) (fun _ _ i _ _ _ _ _ => 16 - (intOf i).toNat)
  case atStart => exact ⟨0, by omega, rfl, HBLt.out, HBRt.out, Below.refl _ _⟩
  case round =>
    obtain ⟨k, hk, rfl, ⟨gl, ol, cl, rfl, hcl, Nl, kl⟩, ⟨gr, or_, cr, rfl, hcr, Nr, kr⟩, hbel⟩ := hrel
    by_cases hlt : k < 16
    · have hki : (k : Int) < 16 := by omega
      cases back with
      | false =>
        obtain ⟨gk, ck, hkc, hkg, hkN⟩ := HKC.out wr hbel k hlt
        have hPKk : PK k = keyR key k := HPK.out k
        have hl48 := HKLN.out k
        have hlt48 := HKLT.out k
        generalize keyR key k = KK at *
        have hst := HST.out k
        rw [hPKk] at hst
        obtain ⟨hlL, hlR⟩ := HLR.out k
        obtain ⟨htL, htR⟩ := HLT.out k
        have hst1 : (LD (k + 1)).1 = (LD k).2 := by rw [hst]
        have hst2 : (LD (k + 1)).2 = (List.range 32).map fun i => (LD k).1.getD i 0 ^^^ (mixR (LD k).2 KK).getD i 0 := by rw [hst]
        have hN32 := (HLR.out (k + 1)).2
        clear hst hPKk
        have HS1 := Lib.hid hst1; clear hst1
        generalize hNd : (LD (k + 1)).2 = N at *
        have HND := Lib.hid hNd; clear hNd
        generalize (LD k).1 = LL at *
        generalize (LD k).2 = RR at *
        have HMX := Lib.hid (fun W a b => mix3_any RR KK hlR hl48 htR hlt48 (some ⟨gr, or_, none⟩) (some ⟨gk, 0, none⟩) cr ck W a b)
        rw [hlR, hl48] at HMX
        have hF32 := mixR_len RR KK
        have hFlt := mixR_lt RR KK
        generalize mixR RR KK = FF at *
        have hNt : ∀ j, j < 32 → N.take (j + 1) = N.take j ++ [LL.getD j 0 ^^^ FF.getD j 0] := fun j hj => by
          rw [List.take_succ_eq_append_getElem (by rw [hN32]; exact hj)]
          subst hst2
          simp
        have HNT := Lib.hid hNt; clear hNt hst2
        have HN32 := Lib.hid hN32; clear hN32
        have HF32 := Lib.hid hF32; clear hF32
        have HLL := Lib.hid hlL; clear hlL
        have HLLt := Lib.hid (fun j => getD_lt2 LL htL j)
        have HFFt := Lib.hid (fun j => getD_lt2 FF hFlt j)
        have HRR := Lib.hid hlR; clear hlR
        clear hl48 hlt48 htL htR hFlt
        go_wp2_with fail
        refine (HMX.out _ (fun _ => ⟨_, _, rfl, Nr⟩) (fun _ => ⟨_, _, rfl, hkN⟩)).mono ?_
        rintro e w4 ⟨⟨v, rfl, hv⟩, hb4⟩
        obtain ⟨gF, cF, rfl, -, -, hgF, hNF⟩ := hv.at_ (by intro h; have := HF32.out; rw [h] at this; cases this)
        rw [HF32.out]
        have hNl4 : ∀ W, Below w4.heap.size w4 W → ∀ j, j < 32 → W.cell? ⟨gl, ol + j, none⟩ = some (.int .i64 (LL.getD j 0 : Nat)) := fun W hW j hj => by
          rw [getD_of _ _ (by rw [HLL.out]; exact hj)]
          exact ((Nl.below hb4 kl).below hW (Nat.lt_of_lt_of_le kl hb4.size)).cell j (by rw [HLL.out]; exact hj)
        have hNf4 : ∀ W, Below w4.heap.size w4 W → ∀ j, j < 32 → W.cell? ⟨gF, j, none⟩ = some (.int .i64 (FF.getD j 0 : Nat)) := fun W hW j hj => by
          rw [getD_of _ _ (by rw [HF32.out]; exact hj)]
          have := (hNF.below hW hgF).cell j (by rw [HF32.out]; exact hj)
          rwa [Nat.zero_add] at this
        have HNL := Lib.hid hNl4; clear hNl4
        have HNF := Lib.hid hNf4; clear hNf4
        have hbel4 : Below w3.heap.size w3 w4 := hbel.trans (hb4.mono hbel.size)
        have hBR4 : BitsAt w4 (.slice (some ⟨gr, or_, none⟩) 32 cr) RR := BitsAt.below ⟨gr, or_, cr, rfl, hcr, Nr, kr⟩ hb4 (Nat.le_refl _)
        have HBR4 := Lib.hid hBR4; clear hBR4
        clear hv hNF HMX Nl Nr hkN hb4 kl kr
        go_wp2
        go_loopw [14, 15] (fun v i wr => ∃ j : Nat, j ≤ 32 ∧ i = .int .i64 j ∧ OwnN 3 .i64 wr w4.heap.size v (N.take j) ∧ Below w4.heap.size w4 wr) (fun _ i _ => 32 - (intOf i).toNat)
        case atStart => exact ⟨0, by omega, rfl, OwnN.nil _ _ _ _, Below.refl _ _⟩
        case round =>
          obtain ⟨j, hj, rfl, hown, hbl5⟩ := hrel
          by_cases hj2 : j < 32
          · have hji : (j : Int) < 32 := by omega
            have hx := i64_xor_bits _ _ (HLLt.out j) (HFFt.out j)
            have hst := HNT.out j hj2
            have hL1 := fun W hW => HNL.out W hW j hj2
            have hL2 := fun W hW => HNF.out W hW j hj2
            generalize LL.getD j 0 = x1 at *
            generalize FF.getD j 0 = x2 at *
            generalize x1 ^^^ x2 = x at *
            have hl4 : (N.take j).length ≤ 32 := by rw [List.length_take]; omega
            obtain ⟨T, hT⟩ : ∃ T, N.take j = T := ⟨_, rfl⟩
            rw [hT] at hst hown hl4
            clear hT
            have HSTj := Lib.hid hst; clear hst
            have HX := Lib.hid hx; clear hx
            have HL1 := Lib.hid hL1; clear hL1
            have HL2 := Lib.hid hL2; clear hL2
            go_wp2_with fail
            refine wp_region_tree (.q 0 (.q 1 (.q 2 (.q 3 (.q 4 (.q 5 (.q 6 (.q 7 (.q 8 (.q 9 (.e [10] fun _ => .e [11] fun _ => .q 12 .done))))))))))) (fun W => Below w4.heap.size w4 W) rfl (by kernel_rfl) (fun _ _ d _ _ h => by cases d <;> exact h) ?_
            have hw3 : Below w4.heap.size w4 wr.drew := below_drewN hbl5 1
            have hszr : w4.heap.size ≤ wr.heap.size := hbl5.size
            iterate 3 (refine t_q rfl rfl hw3 _ (fun W hW => by (go_simp; rfl)) ?_; go_simp)
            refine t_q rfl rfl hw3 (.pointer (some ⟨gl, ol + j, none⟩)) (fun W hW => by go_simp) ?_
            go_simp
            refine t_q rfl rfl hw3 (.int .i64 (x1 : Nat)) (fun W hW => by (have hc := HL1.out W hW; go_simp)) ?_
            go_simp
            iterate 2 (refine t_q rfl rfl hw3 _ (fun W hW => by (go_simp; rfl)) ?_; go_simp)
            refine t_q rfl rfl hw3 (.pointer (some ⟨gF, j, none⟩)) (fun W hW => by go_simp) ?_
            go_simp
            refine t_q rfl rfl hw3 (.int .i64 (x2 : Nat)) (fun W hW => by (have hc := HL2.out W hW; go_simp)) ?_
            go_simp
            refine t_q rfl rfl hw3 (.int .i64 (x : Nat)) (fun W hW => by (go_simp; exact HX.out)) ?_
            go_simp
            refine t_e rfl rfl fun K hK => ?_
            go_simp
            refine hK _ _ (hw3.alloc (by simpa using hszr) _) ?_
            clear hK K
            change wpT _ _ _ _ _ _ (wr.drew.alloc (.cells #[.int .i64 (x : Int)] 3))
            have hown4 : OwnN 3 .i64 (wr.drew.alloc (.cells #[.int .i64 (x : Int)] 3)) w4.heap.size _ T := OwnN.below hown ((below_drewN (Below.refl wr.heap.size wr) 1).alloc (Nat.le_refl _) _) (Nat.le_refl _)
            refine t_e rfl rfl fun K hK => ?_
            refine op_append_nums (.tmp 49) (.tmp 59) 42 rfl .i64 3 8 Tryz.underlying42 info_int w4.heap.size w4 _ T rfl hown4 (hw3.alloc (by simpa using hszr) _) (by simp; omega) _ 1 1 [x] rfl rfl ⟨_, _, rfl, Ns.new .i64 wr.drew 3 x⟩ (by omega) (by omega) fun v5 w5 hown5 hbel5 hsz5 => ?_
            rw [← HSTj.out] at hown5
            refine hK _ _ hbel5 ?_
            clear hK K
            go_simp
            refine t_q rfl rfl hbel5 _ (fun W hW => by (go_simp; rfl)) ?_
            go_simp
            refine t_done ?_
            go_wp2
            go_roundw
            case rel => exact ⟨j + 1, by omega, by go_num, hown5, hbel5⟩
            case measure => simp [intOf]; omega
          · obtain rfl : j = 32 := by omega
            have hN : N.take 32 = N := List.take_of_length_le (by rw [HN32.out]; exact Nat.le_refl _)
            rw [hN] at hown
            clear hN
            obtain ⟨gN, cN, rfl, -, hcN, hgN, hNN⟩ := hown.at_ (by intro h; have := HN32.out; rw [h] at this; cases this)
            rw [HN32.out] at hcN ⊢
            have hBR5 := HBR4.out.below hbl5 (Nat.le_refl _)
            rw [← HS1.out] at hBR5
            have HBR5 := Lib.hid hBR5; clear hBR5
            clear hown
            go_wp2
            go_roundw
            case rel => exact ⟨k + 1, by omega, by go_num, HBR5.out, ⟨gN, 0, cN, rfl, hcN, by rw [HND.out]; exact hNN, hgN⟩, hbel4.trans (hbl5.mono hbel4.size)⟩
            case measure => simp [intOf]; omega
      | true =>
        obtain ⟨gz, cz, hkz, -, -⟩ := HKC.out wr hbel k hlt
        obtain ⟨gk, ck, hkc, hkg, hkN⟩ := HKC.out wr hbel (15 - k) (by omega)
        have hPKk : PK k = keyR key (15 - k) := HPK.out k
        have e15 : (15 - (k : Int)).toNat = 15 - k := by omega
        have e15a : (0 : Int) ≤ 15 - (k : Int) := by omega
        have e15b : 15 - (k : Int) < 16 := by omega
        have hl48 := HKLN.out (15 - k)
        have hlt48 := HKLT.out (15 - k)
        generalize keyR key (15 - k) = KK at *
        have hst := HST.out k
        rw [hPKk] at hst
        obtain ⟨hlL, hlR⟩ := HLR.out k
        obtain ⟨htL, htR⟩ := HLT.out k
        have hst1 : (LD (k + 1)).1 = (LD k).2 := by rw [hst]
        have hst2 : (LD (k + 1)).2 = (List.range 32).map fun i => (LD k).1.getD i 0 ^^^ (mixR (LD k).2 KK).getD i 0 := by rw [hst]
        have hN32 := (HLR.out (k + 1)).2
        clear hst hPKk
        have HS1 := Lib.hid hst1; clear hst1
        generalize hNd : (LD (k + 1)).2 = N at *
        have HND := Lib.hid hNd; clear hNd
        generalize (LD k).1 = LL at *
        generalize (LD k).2 = RR at *
        have HMX := Lib.hid (fun W a b => mix3_any RR KK hlR hl48 htR hlt48 (some ⟨gr, or_, none⟩) (some ⟨gk, 0, none⟩) cr ck W a b)
        rw [hlR, hl48] at HMX
        have hF32 := mixR_len RR KK
        have hFlt := mixR_lt RR KK
        generalize mixR RR KK = FF at *
        have hNt : ∀ j, j < 32 → N.take (j + 1) = N.take j ++ [LL.getD j 0 ^^^ FF.getD j 0] := fun j hj => by
          rw [List.take_succ_eq_append_getElem (by rw [hN32]; exact hj)]
          subst hst2
          simp
        have HNT := Lib.hid hNt; clear hNt hst2
        have HN32 := Lib.hid hN32; clear hN32
        have HF32 := Lib.hid hF32; clear hF32
        have HLL := Lib.hid hlL; clear hlL
        have HLLt := Lib.hid (fun j => getD_lt2 LL htL j)
        have HFFt := Lib.hid (fun j => getD_lt2 FF hFlt j)
        have HRR := Lib.hid hlR; clear hlR
        clear hl48 hlt48 htL htR hFlt
        go_wp2_with fail
        refine (HMX.out _ (fun _ => ⟨_, _, rfl, Nr⟩) (fun _ => ⟨_, _, rfl, hkN⟩)).mono ?_
        rintro e w4 ⟨⟨v, rfl, hv⟩, hb4⟩
        obtain ⟨gF, cF, rfl, -, -, hgF, hNF⟩ := hv.at_ (by intro h; have := HF32.out; rw [h] at this; cases this)
        rw [HF32.out]
        have hNl4 : ∀ W, Below w4.heap.size w4 W → ∀ j, j < 32 → W.cell? ⟨gl, ol + j, none⟩ = some (.int .i64 (LL.getD j 0 : Nat)) := fun W hW j hj => by
          rw [getD_of _ _ (by rw [HLL.out]; exact hj)]
          exact ((Nl.below hb4 kl).below hW (Nat.lt_of_lt_of_le kl hb4.size)).cell j (by rw [HLL.out]; exact hj)
        have hNf4 : ∀ W, Below w4.heap.size w4 W → ∀ j, j < 32 → W.cell? ⟨gF, j, none⟩ = some (.int .i64 (FF.getD j 0 : Nat)) := fun W hW j hj => by
          rw [getD_of _ _ (by rw [HF32.out]; exact hj)]
          have := (hNF.below hW hgF).cell j (by rw [HF32.out]; exact hj)
          rwa [Nat.zero_add] at this
        have HNL := Lib.hid hNl4; clear hNl4
        have HNF := Lib.hid hNf4; clear hNf4
        have hbel4 : Below w3.heap.size w3 w4 := hbel.trans (hb4.mono hbel.size)
        have hBR4 : BitsAt w4 (.slice (some ⟨gr, or_, none⟩) 32 cr) RR := BitsAt.below ⟨gr, or_, cr, rfl, hcr, Nr, kr⟩ hb4 (Nat.le_refl _)
        have HBR4 := Lib.hid hBR4; clear hBR4
        clear hv hNF HMX Nl Nr hkN hb4 kl kr
        go_wp2
        go_loopw [14, 15] (fun v i wr => ∃ j : Nat, j ≤ 32 ∧ i = .int .i64 j ∧ OwnN 3 .i64 wr w4.heap.size v (N.take j) ∧ Below w4.heap.size w4 wr) (fun _ i _ => 32 - (intOf i).toNat)
        case atStart => exact ⟨0, by omega, rfl, OwnN.nil _ _ _ _, Below.refl _ _⟩
        case round =>
          obtain ⟨j, hj, rfl, hown, hbl5⟩ := hrel
          by_cases hj2 : j < 32
          · have hji : (j : Int) < 32 := by omega
            have hx := i64_xor_bits _ _ (HLLt.out j) (HFFt.out j)
            have hst := HNT.out j hj2
            have hL1 := fun W hW => HNL.out W hW j hj2
            have hL2 := fun W hW => HNF.out W hW j hj2
            generalize LL.getD j 0 = x1 at *
            generalize FF.getD j 0 = x2 at *
            generalize x1 ^^^ x2 = x at *
            have hl4 : (N.take j).length ≤ 32 := by rw [List.length_take]; omega
            obtain ⟨T, hT⟩ : ∃ T, N.take j = T := ⟨_, rfl⟩
            rw [hT] at hst hown hl4
            clear hT
            have HSTj := Lib.hid hst; clear hst
            have HX := Lib.hid hx; clear hx
            have HL1 := Lib.hid hL1; clear hL1
            have HL2 := Lib.hid hL2; clear hL2
            go_wp2_with fail
            refine wp_region_tree (.q 0 (.q 1 (.q 2 (.q 3 (.q 4 (.q 5 (.q 6 (.q 7 (.q 8 (.q 9 (.e [10] fun _ => .e [11] fun _ => .q 12 .done))))))))))) (fun W => Below w4.heap.size w4 W) rfl (by kernel_rfl) (fun _ _ d _ _ h => by cases d <;> exact h) ?_
            have hw3 : Below w4.heap.size w4 wr.drew := below_drewN hbl5 1
            have hszr : w4.heap.size ≤ wr.heap.size := hbl5.size
            iterate 3 (refine t_q rfl rfl hw3 _ (fun W hW => by (go_simp; rfl)) ?_; go_simp)
            refine t_q rfl rfl hw3 (.pointer (some ⟨gl, ol + j, none⟩)) (fun W hW => by go_simp) ?_
            go_simp
            refine t_q rfl rfl hw3 (.int .i64 (x1 : Nat)) (fun W hW => by (have hc := HL1.out W hW; go_simp)) ?_
            go_simp
            iterate 2 (refine t_q rfl rfl hw3 _ (fun W hW => by (go_simp; rfl)) ?_; go_simp)
            refine t_q rfl rfl hw3 (.pointer (some ⟨gF, j, none⟩)) (fun W hW => by go_simp) ?_
            go_simp
            refine t_q rfl rfl hw3 (.int .i64 (x2 : Nat)) (fun W hW => by (have hc := HL2.out W hW; go_simp)) ?_
            go_simp
            refine t_q rfl rfl hw3 (.int .i64 (x : Nat)) (fun W hW => by (go_simp; exact HX.out)) ?_
            go_simp
            refine t_e rfl rfl fun K hK => ?_
            go_simp
            refine hK _ _ (hw3.alloc (by simpa using hszr) _) ?_
            clear hK K
            change wpT _ _ _ _ _ _ (wr.drew.alloc (.cells #[.int .i64 (x : Int)] 3))
            have hown4 : OwnN 3 .i64 (wr.drew.alloc (.cells #[.int .i64 (x : Int)] 3)) w4.heap.size _ T := OwnN.below hown ((below_drewN (Below.refl wr.heap.size wr) 1).alloc (Nat.le_refl _) _) (Nat.le_refl _)
            refine t_e rfl rfl fun K hK => ?_
            refine op_append_nums (.tmp 49) (.tmp 59) 42 rfl .i64 3 8 Tryz.underlying42 info_int w4.heap.size w4 _ T rfl hown4 (hw3.alloc (by simpa using hszr) _) (by simp; omega) _ 1 1 [x] rfl rfl ⟨_, _, rfl, Ns.new .i64 wr.drew 3 x⟩ (by omega) (by omega) fun v5 w5 hown5 hbel5 hsz5 => ?_
            rw [← HSTj.out] at hown5
            refine hK _ _ hbel5 ?_
            clear hK K
            go_simp
            refine t_q rfl rfl hbel5 _ (fun W hW => by (go_simp; rfl)) ?_
            go_simp
            refine t_done ?_
            go_wp2
            go_roundw
            case rel => exact ⟨j + 1, by omega, by go_num, hown5, hbel5⟩
            case measure => simp [intOf]; omega
          · obtain rfl : j = 32 := by omega
            have hN : N.take 32 = N := List.take_of_length_le (by rw [HN32.out]; exact Nat.le_refl _)
            rw [hN] at hown
            clear hN
            obtain ⟨gN, cN, rfl, -, hcN, hgN, hNN⟩ := hown.at_ (by intro h; have := HN32.out; rw [h] at this; cases this)
            rw [HN32.out] at hcN ⊢
            have hBR5 := HBR4.out.below hbl5 (Nat.le_refl _)
            rw [← HS1.out] at hBR5
            have HBR5 := Lib.hid hBR5; clear hBR5
            clear hown
            go_wp2
            go_roundw
            case rel => exact ⟨k + 1, by omega, by go_num, HBR5.out, ⟨gN, 0, cN, rfl, hcN, by rw [HND.out]; exact hNN, hgN⟩, hbel4.trans (hbl5.mono hbel4.size)⟩
            case measure => simp [intOf]; omega
    · obtain rfl : k = 16 := by omega
      obtain ⟨wo, rfl⟩ : ∃ wo, wo = wr := ⟨_, rfl⟩
      obtain ⟨hlL, hlR⟩ := HLR.out 16
      obtain ⟨htL, htR⟩ := HLT.out 16
      generalize hLe : (LD 16).1 = LL at *
      generalize hRe : (LD 16).2 = RR at *
      have HLE := Lib.hid hLe; clear hLe
      have HRE := Lib.hid hRe; clear hRe
      have hmE : OwnN 3 .i64 (wo.alloc (.cells #[] 3)) wo.heap.size (.slice (some ⟨wo.heap.size, 0, none⟩) 0 0) [] := OwnN.made _ _ wo _ (Nat.le_refl _)
      have hbE : Below wo.heap.size wo (wo.alloc (.cells #[] 3)) := (Below.refl _ _).alloc (Nat.le_refl _) _
      have hXt : ∀ b ∈ RR ++ LL, b < 2 := fun b hb => by
        rcases List.mem_append.1 hb with h | h
        · exact htR b h
        · exact htL b h
      have hX64 : (RR ++ LL).length = 64 := by rw [List.length_append, hlR, hlL]
      have HLL := Lib.hid hlL; clear hlL
      have HRR := Lib.hid hlR; clear hlR
      clear htL htR
      go_wp2_with (first
        | (at_builtin; refine wpList_append_nums rfl (.tmp 63) (.tmp 64) 42 rfl .i64 3 8 Tryz.underlying42 info_int wo.heap.size wo _ [] rfl hmE hbE (by simp) _ 32 _ RR rfl HRR.out ⟨_, _, rfl, Nr.alloc _⟩ (by simp) (by omega) ?_; intro x4 w4 hx4 hy4 hz4)
        | (at_builtin; refine wpList_append_nums rfl (.tmp 65) (.tmp 66) 42 rfl .i64 3 8 Tryz.underlying42 info_int wo.heap.size wo _ ([] ++ RR) rfl hx4 hy4 hy4.size _ 32 _ LL rfl HLL.out ⟨_, _, rfl, Nl.below hy4 kl⟩ (by rw [List.nil_append, HRR.out]; decide) (by omega) ?_; intro x5 w5 hx5 hy5 hz5; rw [List.nil_append] at hx5)
        | (refine wpList_make_ints rfl _ _ rfl .i64 .i64 64 64 64 rfl rfl rfl rfl (by omega) ?_; intro w6 hb6 hB6 hs6))
      obtain ⟨gX, cX, rfl, -, -, hgX, hNX⟩ := hx5.at_ (by intro h; rw [h] at hX64; cases hX64)
      rw [hX64]
      have hXc : ∀ W, Below w5.heap.size w5 W → ∀ j, j < 64 → W.cell? ⟨gX, j, none⟩ = some (.int .i64 ((RR ++ LL).getD j 0 : Nat)) := fun W hW j hj => by
        rw [getD_of _ _ (by rw [hX64]; exact hj)]
        have := (hNX.below hW hgX).cell j (by rw [hX64]; exact hj)
        rwa [Nat.zero_add] at this
      have hU0 : List.replicate 64 0 = unR (RR ++ LL) 0 := rfl
      rw [hU0] at hB6
      clear hU0
      have hUl := fun k => unR_len (RR ++ LL) k
      have hUt := fun k => unR_lt (RR ++ LL) hXt k
      have hUs : ∀ k, unR (RR ++ LL) (k + 1) = (unR (RR ++ LL) k).set (psIP.getD k 0 - 1) ((RR ++ LL).getD k 0) := fun k => rfl
      have HXC := Lib.hid hXc; clear hXc
      have HUL := Lib.hid hUl; clear hUl
      have HUT := Lib.hid hUt; clear hUt
      have HUS := Lib.hid hUs; clear hUs
      generalize hXX : (RR ++ LL) = XX at *
      have HXX := Lib.hid hXX; clear hXX
      have hPl := Lib.hid (fun (tab : ByteArray) (ht : Tab tab 64 psIP) (j : Nat) (hj : j < 64) W => place3_any tab 64 psIP ht (by decide) j hj W)
      have hpok := Lib.hid psIP_ok
      have hpget : ∀ j (hj : j < 64), psIP[j]'hj = psIP.getD j 0 := fun j hj => (getD_of psIP j hj).symm
      have HPG := Lib.hid hpget; clear hpget
      clear hx5 hx4 hNX hX64 hXt Nl Nr hmE hbE
      obtain ⟨go, hgo⟩ : ∃ go, w5.heap.size = go := ⟨_, rfl⟩
      rw [hgo] at hB6 hb6 HXC ⊢
      have HB6 := Lib.hid hB6; clear hB6
      go_wp2
      go_loopw [18] (fun i wx => ∃ k : Nat, k ≤ 64 ∧ i = .int .i64 k ∧ Blk wx go 3 (numCells .i64 (unR XX k)) ∧ Below go w5 wx) (fun i _ => 64 - (intOf i).toNat)
      case atStart => exact ⟨0, by omega, rfl, HB6.out, hb6⟩
      case round =>
        obtain ⟨k, hk, rfl, hBk, hbk⟩ := hrel
        by_cases hlt : k < 64
        · have hki : (k : Int) < 64 := by omega
          have hX1 := fun W hW => HXC.out W hW k hlt
          have hus := HUS.out k
          have hul := HUL.out k
          obtain ⟨p1, p2⟩ := hpok.out k hlt
          have hpg := HPG.out k hlt
          have hPl1 := fun tab ht W => hPl.out tab ht k hlt W
          simp only [hpg] at hPl1
          clear hpg
          generalize psIP.getD k 0 = p at *
          generalize XX.getD k 0 = x at *
          generalize unR XX k = U at *
          have HUSk := Lib.hid hus; clear hus
          have HX1 := Lib.hid hX1; clear hX1
          have HPL1 := Lib.hid hPl1; clear hPl1
          have e1 : IntKind.i64.wrap ((p : Int) - 1) = ((p - 1 : Nat) : Int) := by rw [IntWalk.i64_in _ (by omega)]; omega
          have e2 : ((p : Int) - 1).toNat = p - 1 := by omega
          go_wp2_with fail
          refine wp_region_tree (.q 0 (.q 1 (.q 4 (.q 5 (.q 6 (.q 7 (.e [2] fun _ => .q 3 (.q 8 (.e [9] fun _ => .done))))))))) (fun W => Below go w5 W) rfl (by kernel_rfl) (fun _ _ d _ _ h => by cases d <;> exact h) ?_
          have hw3 : Below go w5 wr.drew := below_drewN hbk 1
          iterate 4 (refine t_q rfl rfl hw3 _ (fun W hW => by (go_simp; rfl)) ?_; go_simp)
          refine t_q rfl rfl hw3 (.pointer (some ⟨gX, k, none⟩)) (fun W hW => by go_simp) ?_
          go_simp
          refine t_q rfl rfl hw3 (.int .i64 (x : Nat)) (fun W hW => by (have hc := HX1.out W hW; go_simp)) ?_
          go_simp
          refine t_e rfl rfl fun K hK => ?_
          go_simp
          refine (HPL1.out _ (tab_of (by kernel_rfl)) _).mono ?_
          rintro e wy ⟨rfl, ny, rfl⟩
          refine hK _ _ (below_drewN hw3 _) ?_
          clear hK K
          go_simp
          have hw4 : Below go w5 (wr.drewN (1 + ny)) := below_drewN hbk _
          have hB4 : Blk (wr.drewN (1 + ny)) go 3 (numCells .i64 U) := hBk.drewN _
          generalize wr.drewN (1 + ny) = wz at *
          refine t_q rfl rfl hw4 (.int .i64 ((p - 1 : Nat) : Int)) (fun W hW => by go_simp) ?_
          go_simp
          have hpi : ((p - 1 : Nat) : Int) < 64 := by omega
          refine t_q rfl rfl hw4 (.pointer (some ⟨go, p - 1, none⟩)) (fun W hW => by go_simp) ?_
          go_simp
          have hcl : wz.cell? ⟨go, p - 1, none⟩ = some (.int .i64 (U[p - 1]'(by omega) : Nat)) := by rw [hB4.cell]; exact get_numCells _ _ _ (by omega)
          have hfr := hB4.frozen (p - 1)
          have hB5 := hB4.set_ (p - 1) (.int .i64 (x : Nat))
          rw [set_numCells, ← HUSk.out] at hB5
          have hw5 : Below go w5 (wz.setCell ⟨go, p - 1, none⟩ (.int .i64 (x : Nat))) := hw4.setCell (Nat.le_refl _) _
          refine t_e rfl rfl fun K hK => ?_
          go_simp
          refine hK _ _ hw5 ?_
          clear hK K
          go_simp
          refine t_done ?_
          go_wp2
          go_roundw
          case rel => exact ⟨k + 1, by omega, by go_num, hB5, hw5⟩
          case measure => simp [intOf]; omega
        · obtain rfl : k = 64 := by omega
          have hU := HUL.out 64
          have hUt := HUT.out 64
          have hfin : bytesR (unR XX 64) = bytesR (unR ((LD 16).2 ++ (LD 16).1) 64) := by rw [HRE.out, HLE.out, HXX.out]
          have HFIN := Lib.hid hfin; clear hfin
          generalize unR XX 64 = U at *
          have HBY := Lib.hid (fun W hA => bytes3_any U hUt 8 (by rw [hU]) (by omega) (some ⟨go, 0, none⟩) 64 W hA)
          rw [hU] at HBY
          have hNU : Ns .i64 wr go 0 U := Blk.range hBk 0 _ (fun j v hv => by rw [Nat.zero_add]; simpa using hv)
          go_wp2_with fail
          refine (HBY.out _ (fun _ => ⟨_, _, rfl, hNU⟩)).mono ?_
          rintro e w9 ⟨⟨v, rfl, hv⟩, hb9⟩
          go_wp2
          go_ret
          have s1 := hb13.size
          have s2 := hbel.size
          have s3 := hy5.size
          have s4 := hbk.size
          have hbA : Below w.heap.size w w5 := hb13.trans ((hbel.trans (hy5.mono s2)).mono s1)
          have hbB : Below w.heap.size w w9 := hbA.trans ((hbk.trans (hb9.mono (by omega))).mono (by omega))
          exact ⟨⟨_, rfl, by rw [← HFIN.out]; exact hv.more (by omega)⟩, hbB⟩

set_option maxHeartbeats 2000000 in
set_option maxRecDepth 100000 in
theorem triple3_any (key b : List Nat) (hk : key.length = 16) (gk : ∀ c ∈ key, c < 256) (hb : b.length = 8) (gb : ∀ c ∈ b, c < 256) (A B : Option Addr) (ca cb : Nat) (hca : 16 ≤ ca) (w : World) (hA : At w A key) (hB : At w B b) :
    Calls Tryz.prog 44 #[.slice A 16 ca, .slice B 8 cb, .bool false] w fun e w' => (∃ v, e = .returned v ∧ Own w' w.heap.size v (triple16 (key.take 8) (key.drop 8) b false)) ∧ Below w.heap.size w w' := by
  obtain ⟨g, o, rfl, hN⟩ := hA (by intro h; rw [h] at hk; cases hk)
  have hg := hN.lt (by intro h; rw [h] at hk; cases hk)
  have h0 : (key.take 8).length = 8 := by rw [List.length_take, hk]; rfl
  have h1 : (key.drop 8).length = 8 := by rw [List.length_drop, hk]
  have n0 : Bs w g o (key.take 8) := by have := hN.sub 0 8; simpa using this
  have n1 : Bs w g (o + 8) (key.drop 8) := by have := hN.sub 8 8; rwa [List.take_of_length_le (by rw [h1]; decide)] at this
  have g0 : ∀ c ∈ key.take 8, c < 256 := fun c h => gk c (List.mem_of_mem_take h)
  have g1 : ∀ c ∈ key.drop 8, c < 256 := fun c h => gk c (List.mem_of_mem_drop h)
  have hT : triple16 (key.take 8) (key.drop 8) b false = blockN (key.take 8) (blockN (key.drop 8) (blockN (key.take 8) b false) true) false := rfl
  rw [hT]
  clear hT hA hN
  generalize key.take 8 = k0 at *
  generalize key.drop 8 = k1 at *
  have hx1 := blockN_len k0 b false
  have hx1b := blockN_lt k0 b false
  have HC1 := Lib.hid (fun W a c => block3_any k0 b false h0 g0 hb gb (some ⟨g, o, none⟩) B ca cb W a c)
  generalize blockN k0 b false = x1 at *
  have hx2 := blockN_len k1 x1 true
  have hx2b := blockN_lt k1 x1 true
  have HC2 := Lib.hid (fun A' c' W a c => block3_any k1 x1 true h1 g1 hx1 hx1b (some ⟨g, o + 8, none⟩) A' (ca - 8) c' W a c)
  generalize blockN k1 x1 true = x2 at *
  have HC3 := Lib.hid (fun A' c' W a c => block3_any k0 x2 false h0 g0 hx2 hx2b (some ⟨g, o, none⟩) A' ca c' W a c)
  generalize blockN k0 x2 false = x3 at *
  have HX1 := Lib.hid hx1; clear hx1
  have HX2 := Lib.hid hx2; clear hx2
  have hci : (16 : Int) ≤ (ca : Int) := by omega
  have hci2 : (8 : Int) ≤ (ca : Int) := by omega
  have hci3 : ¬ ca = 8 := by omega
  clear h0 h1 hk hb gk gb g0 g1 hx1b hx2b
  go_enter Tryz.func44, Tryz.ntmps44
  go_wp2_with fail
  refine (HC1.out _ (fun _ => ⟨_, _, rfl, n0⟩) hB).mono ?_
  rintro e w1 ⟨⟨v, rfl, hv⟩, hb1⟩
  obtain ⟨v1, c1, rfl, -, -, hg1, hN1⟩ := hv.form (by intro h; have := HX1.out; rw [h] at this; cases this)
  rw [HX1.out]
  go_wp2_with fail
  refine (HC2.out _ _ _ (fun _ => ⟨_, _, rfl, n1.below hb1 hg⟩) (fun _ => ⟨_, _, rfl, hN1⟩)).mono ?_
  rintro e w2 ⟨⟨v, rfl, hv2⟩, hb2⟩
  obtain ⟨v2, c2, rfl, -, -, hg2, hN2⟩ := hv2.form (by intro h; have := HX2.out; rw [h] at this; cases this)
  rw [HX2.out]
  have hb12 : Below w.heap.size w w2 := hb1.trans (hb2.mono hb1.size)
  go_wp2_with fail
  refine (HC3.out _ _ _ (fun _ => ⟨_, _, rfl, n0.below hb12 hg⟩) (fun _ => ⟨_, _, rfl, hN2⟩)).mono ?_
  rintro e w3 ⟨⟨v, rfl, hv3⟩, hb3⟩
  go_wp2
  go_ret
  exact ⟨⟨_, rfl, hv3.more hb12.size⟩, hb12.trans (hb3.mono hb12.size)⟩
end Go.Proofs.YtnkgglmfoimbhaaGreatDoor

