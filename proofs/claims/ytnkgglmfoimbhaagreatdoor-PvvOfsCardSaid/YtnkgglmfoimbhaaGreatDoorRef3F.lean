/- The contract of lockboxref03.Keys: the walk. (Printed by wip/gen_keys.py.) -/
import Derived.Test.YtnkgglmfoimbhaaGreatDoorRef3BC
namespace Go.Proofs.YtnkgglmfoimbhaaGreatDoor
open Go Go.RowKit Pr

theorem Ns.alloc {kd : IntKind} {w : World} {b o : Nat} {l : List Nat} (h : Ns kd w b o l) (ob : Obj) : Ns kd (w.alloc ob) b o l := fun j v hv => by
  have hc := h j v hv
  have hb := block_lt_of_cell hc
  rw [World.cell?_alloc_lt w ob _ hb]; exact hc
/-- half of the key's bits, somewhere but in the row v -/
def HalfAt (w : World) (v c : Value) (l : List Nat) : Prop := ∃ g o cp, c = .slice (some ⟨g, o, none⟩) 28 cp ∧ 28 ≤ cp ∧ l.length = 28 ∧ Ns .i64 w g o l ∧ g < w.heap.size ∧ v.ownBlock ≠ some g
/-- the round keys that are made -/
def KeysAt (key : List Nat) (B : Nat) (w : World) (v : Value) (n : Nat) : Prop := ∃ vs : List Value, w.ownsRow B 42 1 v n vs ∧ ∀ j, j < n → ∃ u, vs[j]? = some u ∧ RowOf w u (keyR key j) ∧ v.ownBlock ≠ u.ownBlock
theorem owns_below {w w' : World} {e : TypeId} {v : Value} {n B C : Nat} {vs : List Value} (h1 : w.ownsRow B e 1 v n vs) (hb : Below C w w') (hC : w.heap.size ≤ C) : w'.ownsRow B e 1 v n vs := by
  rcases h1 with ⟨e, h1⟩
  refine ⟨e, ?_⟩
  rcases h1 with h1 | ⟨g, cap, cur, rfl, hg, hgb, r⟩
  · exact .inl h1
  · refine .inr ⟨g, cap, cur, rfl, hg, (hb.block g ?_).trans hgb, r⟩
    rcases Nat.lt_or_ge g w.heap.size with hlt | hge
    · omega
    · rw [Array.getElem?_eq_none hge] at hgb; cases hgb
theorem KeysAt.below {w w' : World} {v : Value} {key : List Nat} {n B C : Nat} (h : KeysAt key B w v n) (hb : Below C w w') (hC : w.heap.size ≤ C) : KeysAt key B w' v n := by
  obtain ⟨vs, h1, h2⟩ := h
  refine ⟨vs, owns_below h1 hb hC, fun j hj => ?_⟩
  obtain ⟨u, hu, hr, hne⟩ := h2 j hj
  exact ⟨u, hu, hr.below hb hC, hne⟩
theorem KeysAt.push {W W6 : World} {key : List Nat} {B n g5 cp5 : Nat} {v v6 : Value} {vs : List Value} (hrows : ∀ j, j < n → ∃ u, vs[j]? = some u ∧ RowOf W u (keyR key j) ∧ v.ownBlock ≠ u.ownBlock) (hn : vs.length = n)
    (hlt : g5 < W.heap.size) (hl : (keyR key n).length = 48) (hN : Ns .i64 W g5 0 (keyR key n)) (hne : v.ownBlock ≠ some g5)
    (h1 : W6.ownsRow B 42 1 v6 (n + 1) (vs ++ [.slice (some ⟨g5, 0, none⟩) 48 cp5])) (h2 : W.grownBy W6 v.ownBlock) (h3 : v6.ownBlock = v.ownBlock ∨ v6.ownBlock = some W.heap.size) : KeysAt key B W6 v6 (n + 1) := by
  have hb : ∀ g, g < W.heap.size → v.ownBlock ≠ some g → v6.ownBlock ≠ some g := fun g hg hv => by
    rcases h3 with h3 | h3
    · rw [h3]; exact hv
    · rw [h3]; intro h; cases h; omega
  refine ⟨_, h1, fun j hj => ?_⟩
  by_cases e : j = n
  · subst e
    refine ⟨.slice (some ⟨g5, 0, none⟩) 48 cp5, by rw [List.getElem?_append_right (by omega), hn, Nat.sub_self]; rfl, ⟨g5, cp5, by rw [hl], Nat.lt_of_lt_of_le hlt h2.size, fun i u hi => ?_⟩, hb g5 hlt hne⟩
    exact (World.cell?_of_block (h2.block g5 hlt (Ne.symm hne))).trans (hN i u hi)
  · obtain ⟨u, hu, hr, hv⟩ := hrows j (by omega)
    refine ⟨u, by rw [List.getElem?_append_left (by omega)]; exact hu, hr.keep h2 (Ne.symm hv), ?_⟩
    obtain ⟨g, cap, rfl, hg, _⟩ := hr
    exact hb g hg hv
theorem HalfAt.push {W W6 : World} {v v6 c : Value} {l : List Nat} (h : HalfAt W v c l) (h2 : W.grownBy W6 v.ownBlock) (h3 : v6.ownBlock = v.ownBlock ∨ v6.ownBlock = some W.heap.size) : HalfAt W6 v6 c l := by
  obtain ⟨g, o, cp, rfl, a1, a2, a3, a4, a5⟩ := h
  refine ⟨g, o, cp, rfl, a1, a2, fun j u hj => (World.cell?_of_block (h2.block g a4 (Ne.symm a5))).trans (a3 j u hj), Nat.lt_of_lt_of_le a4 h2.size, ?_⟩
  rcases h3 with h3 | h3
  · rw [h3]; exact a5
  · rw [h3]; intro h; cases h; omega
theorem keyR_len (key : List Nat) (r : Nat) : (keyR key r).length = 48 := by unfold keyR; rw [permR_len]; rfl
theorem refC_len (c : List Nat) (h : c.length = 28) : ∀ r, (refC c r).length = 28
  | 0 => h
  | r + 1 => by
    have := refC_len c h r
    have h2 := rotN_le r
    rw [refC, List.length_append, List.length_drop, List.length_take, this]; omega

set_option maxHeartbeats 8000000 in
set_option maxRecDepth 100000 in
theorem keys3_any (key : List Nat) (hk : key.length = 8) (gk : ∀ c ∈ key, c < 256) (A : Option Addr) (cp : Nat) (w : World) (hA : At w A key) :
    Calls Tryz.prog 102 #[.slice A key.length cp] w fun e w' => (∃ v, e = .returned v ∧ KeysAt key w.heap.size w' v 16) ∧ Below w.heap.size w w' := by
  have HB := Lib.hid (fun W hA => bits_any key gk (by omega) A cp W hA)
  have hbl := bitsL_len key
  rw [hk] at hbl
  have hC0 : ∀ r, refC ((permR (bitsB key) psPC1).take 28) (r + 1) = (refC ((permR (bitsB key) psPC1).take 28) r).drop (rotN r) ++ (refC ((permR (bitsB key) psPC1).take 28) r).take (rotN r) := fun r => rfl
  have hD0 : ∀ r, refC ((permR (bitsB key) psPC1).drop 28) (r + 1) = (refC ((permR (bitsB key) psPC1).drop 28) r).drop (rotN r) ++ (refC ((permR (bitsB key) psPC1).drop 28) r).take (rotN r) := fun r => rfl
  have hKR : ∀ r, keyR key r = permR (refC ((permR (bitsB key) psPC1).take 28) (r + 1) ++ refC ((permR (bitsB key) psPC1).drop 28) (r + 1)) psPC2 := fun r => rfl
  rw [← bitsL_eq] at hC0 hD0 hKR
  have h56 := permR_len (bitsL key) psPC1
  rw [show psPC1.length = 56 from rfl] at h56
  generalize bitsL key = L at *
  have HP := Lib.hid (fun A' c' (tab : ByteArray) (ht : Tab tab 64 psPC1) W hA => perm3_any L A' c' tab 64 psPC1 ht (by decide) (by rw [hbl]; decide) W hA)
  rw [hbl] at HP
  generalize permR L psPC1 = M at *
  have hl0 : (M.take 28).length = 28 := by rw [List.length_take, h56]; rfl
  have hl1 : (M.drop 28).length = 28 := by rw [List.length_drop, h56]
  have HLC := Lib.hid (refC_len _ hl0)
  have HLD := Lib.hid (refC_len _ hl1)
  have hC00 : refC (M.take 28) 0 = M.take 28 := rfl
  have hD00 : refC (M.drop 28) 0 = M.drop 28 := rfl
  have HBL := Lib.hid hbl; clear hbl
  have H56 := Lib.hid h56; clear h56
  have HMC := Lib.hid hC00; clear hC00
  have HMD := Lib.hid hD00; clear hD00
  generalize refC (M.take 28) = RC at *
  generalize refC (M.drop 28) = RD at *
  have HC0 := Lib.hid hC0; clear hC0
  have HD0 := Lib.hid hD0; clear hD0
  have HKR := Lib.hid hKR; clear hKR
  clear hl0 hl1 gk
  rw [hk] at HB ⊢
  clear hk
  go_enter Tryz.func102, Tryz.ntmps102
  go_wp2_with fail
  refine (HB.out _ hA).mono ?_
  rintro e w1 ⟨⟨v, rfl, hv⟩, hb1⟩
  obtain ⟨A1, c1, rfl, -, hN1⟩ := hv.form
  rw [HBL.out]
  clear hv HB
  go_wp2_with fail
  refine (HP.out _ _ _ (tab_of (by kernel_rfl)) _ hN1).mono ?_
  rintro e w2 ⟨⟨v, rfl, hv⟩, hb2⟩
  obtain ⟨g, cap, rfl, -, hcap, hg, hN⟩ := hv.at_ (by intro h; have := H56.out; rw [h] at this; cases this)
  rw [H56.out] at hcap ⊢
  have hb2' : Below w.heap.size w w2 := hb1.trans (hb2.mono hb1.size)
  have hci : (56 : Int) ≤ (cap : Int) := by omega
  have hci2 : (28 : Int) ≤ (cap : Int) := by omega
  have hci3 : ¬ cap = 28 := by omega
  have hHC : HalfAt w2 (.slice none 0 0) (.slice (some ⟨g, 0, none⟩) 28 cap) (RC 0) := ⟨g, 0, cap, rfl, by omega, by rw [HLC.out], by have := hN.sub 0 28; rw [HMC.out]; simpa using this, hg, by intro h; cases h⟩
  have hHD : HalfAt w2 (.slice none 0 0) (.slice (some ⟨g, 28, none⟩) 28 (cap - 28)) (RD 0) := ⟨g, 28, cap - 28, rfl, by omega, by rw [HLD.out], by have := hN.sub 28 28; rw [HMD.out]; rwa [Nat.zero_add, List.take_of_length_le (by rw [List.length_drop, H56.out]; decide)] at this, hg, by intro h; cases h⟩
  have hKA : KeysAt key w.heap.size w2 (.slice none 0 0) 0 := ⟨[], World.ownsRow_nil _ _ _ _, fun j h => by omega⟩
  clear hv hN hN1 hb1 hb2 HP
  have HHC := Lib.hid hHC; clear hHC
  have HHD := Lib.hid hHD; clear hHD
  have HKA := Lib.hid hKA; clear hKA
  go_wp2
  go_loopw [4, 5, 6, 7] (fun c d v i wr => ∃ q : Nat, 1 ≤ q ∧ q ≤ 17 ∧ i = .int .i64 q ∧ HalfAt wr v c (RC (q - 1)) ∧ HalfAt wr v d (RD (q - 1)) ∧ KeysAt key w.heap.size wr v (q - 1) ∧ Below w.heap.size w wr) (fun _ _ _ i _ => 17 - (intOf i).toNat)
  case atStart => exact ⟨1, by omega, by omega, rfl, HHC.out, HHD.out, HKA.out, hb2'⟩
  case round =>
    obtain ⟨q, hq1, hq17, rfl, ⟨gc, oc, cc, rfl, hcc, lc, Nc, kc, nc⟩, ⟨gd, od, cd, rfl, hcd, ld, Nd, kd, nd⟩, hKy, hbel⟩ := hrel
    by_cases hq : q ≤ 16
    · have hqi : (q : Int) ≤ 16 := by omega
      obtain ⟨C, hCe⟩ : ∃ C, RC (q - 1) = C := ⟨_, rfl⟩
      obtain ⟨D, hDe⟩ : ∃ D, RD (q - 1) = D := ⟨_, rfl⟩
      rw [hCe] at lc Nc
      rw [hDe] at ld Nd
      have hkr := HKR.out (q - 1)
      have hcc1 : (28 : Int) ≤ (cc : Int) := by omega
      have hcd1 : (28 : Int) ≤ (cd : Int) := by omega
      have hcc2 : (1 : Int) ≤ (cc : Int) := by omega
      have hcd2 : (1 : Int) ≤ (cd : Int) := by omega
      have hcc3 : (2 : Int) ≤ (cc : Int) := by omega
      have hcd3 : (2 : Int) ≤ (cd : Int) := by omega
      have HKR1 := Lib.hid hkr; clear hkr
      obtain ⟨vs, hvs, hrows⟩ := hKy
      have hvn := hvs.1
      have hvlt := World.ownsRow.lt hvs
      have HVN := Lib.hid hvn; clear hvn
      rcases (by omega : (q = 1) ∨ (q ≠ 1 ∧ q = 2) ∨ (q ≠ 1 ∧ q ≠ 2 ∧ q = 9) ∨ (q ≠ 1 ∧ q ≠ 2 ∧ q ≠ 9 ∧ q = 16) ∨ (q ≠ 1 ∧ q ≠ 2 ∧ q ≠ 9 ∧ q ≠ 16)) with hc | hc | hc | hc | hc
      · have t0 : ((q : Int) == 1) = true := by rw [beq_iff_eq]; omega
        have hrot : rotN (q - 1) = 1 := by unfold rotN; rw [if_pos (by omega)]
        have hC1 := HC0.out (q - 1)
        have hD1 := HD0.out (q - 1)
        rw [hrot, hCe] at hC1
        rw [hrot, hDe] at hD1
        clear hc hrot
        have HC1 := Lib.hid hC1; clear hC1
        have HD1 := Lib.hid hD1; clear hD1
        go_wp2_with fail
        refine wp_region_tree (.q 1 (.q 2 (.q 3 (.q 5 (.q 6 (.q 7 (.e [0] fun _ => .e [4] fun _ => .e [8] fun _ => .q 9 .done))))))) (fun _ => True) rfl (by kernel_rfl) (fun _ _ d _ _ h => by cases d <;> exact h) ?_
        iterate 2 (refine t_q rfl rfl trivial _ (fun W hW => by (go_simp; rfl)) ?_; go_simp)
        refine t_q rfl rfl trivial (.slice (some ⟨gc, oc + 1, none⟩) 27 (cc - 1)) (fun W hW => by (go_simp; try omega)) ?_
        go_simp
        iterate 2 (refine t_q rfl rfl trivial _ (fun W hW => by (go_simp; rfl)) ?_; go_simp)
        refine t_q rfl rfl trivial (.slice (some ⟨gc, oc, none⟩) 1 cc) (fun W hW => by (go_simp; try omega)) ?_
        go_simp
        refine t_e rfl rfl fun K hK => ?_
        go_simp
        refine hK _ _ trivial ?_
        clear hK K
        change wpT _ _ _ _ _ _ ((wr).drew.alloc (.cells #[] 3))
        have hmA : OwnN 3 .i64 ((wr).drew.alloc (.cells #[] 3)) (wr).heap.size (.slice (some ⟨(wr).heap.size, 0, none⟩) 0 0) [] := OwnN.made _ _ (wr).drew _ (Nat.le_refl _)
        have hbA : Below (wr).heap.size wr ((wr).drew.alloc (.cells #[] 3)) := (below_drewN (Below.refl _ _) 1).alloc (Nat.le_refl _) _
        refine t_e rfl rfl fun K hK => ?_
        refine op_append_nums (.tmp 34) (.tmp 37) 42 rfl .i64 3 8 Tryz.underlying42 info_int (wr).heap.size wr _ [] rfl hmA hbA (by simp) _ 27 _ (C.drop 1) rfl (by rw [List.length_drop, lc]) ⟨_, _, rfl, (Ns.drewN (by have := Nc.sub 1 27; rwa [List.take_of_length_le (by rw [List.length_drop, lc]; decide)] at this) 1).alloc _⟩ (by simp) (by omega) fun x1A w1A hx1A hy1A hz1A => ?_
        refine hK _ _ trivial ?_
        clear hK K
        go_simp
        refine t_e rfl rfl fun K hK => ?_
        refine op_append_nums (.tmp 38) (.tmp 41) 42 rfl .i64 3 8 Tryz.underlying42 info_int (wr).heap.size wr _ ([] ++ C.drop 1) rfl hx1A hy1A hy1A.size _ 1 _ (C.take 1) rfl (by rw [List.length_take, lc]; decide) ⟨_, _, rfl, (by have := (Nc.below hy1A kc).sub 0 1; simpa using this)⟩ (by rw [List.nil_append, List.length_drop, lc]; decide) (by omega) fun x2A wA hx2A hy2A hz2A => ?_
        refine hK _ _ trivial ?_
        clear hK K
        go_simp
        refine t_q rfl rfl trivial _ (fun W hW => by (go_simp; rfl)) ?_
        go_simp
        refine t_done ?_
        rw [List.nil_append] at hx2A
        have hLA : (C.drop 1 ++ C.take 1).length = 28 := by rw [List.length_append, List.length_drop, List.length_take, lc]; decide
        obtain ⟨gA, cpA, rfl, hgA, hcpA, hltA, hNA⟩ := hx2A.at_ (by intro h; rw [h] at hLA; cases hLA)
        rw [hLA] at hcpA ⊢
        clear hx1A hx2A hmA
        have Nd := Nd.below hy2A kd
        have kd : gd < wA.heap.size := Nat.lt_of_lt_of_le kd hy2A.size
        go_wp2_with fail
        refine wp_region_tree (.q 1 (.q 2 (.q 3 (.q 5 (.q 6 (.q 7 (.e [0] fun _ => .e [4] fun _ => .e [8] fun _ => .q 9 .done))))))) (fun _ => True) rfl (by kernel_rfl) (fun _ _ d _ _ h => by cases d <;> exact h) ?_
        iterate 2 (refine t_q rfl rfl trivial _ (fun W hW => by (go_simp; rfl)) ?_; go_simp)
        refine t_q rfl rfl trivial (.slice (some ⟨gd, od + 1, none⟩) 27 (cd - 1)) (fun W hW => by (go_simp; try omega)) ?_
        go_simp
        iterate 2 (refine t_q rfl rfl trivial _ (fun W hW => by (go_simp; rfl)) ?_; go_simp)
        refine t_q rfl rfl trivial (.slice (some ⟨gd, od, none⟩) 1 cd) (fun W hW => by (go_simp; try omega)) ?_
        go_simp
        refine t_e rfl rfl fun K hK => ?_
        go_simp
        refine hK _ _ trivial ?_
        clear hK K
        change wpT _ _ _ _ _ _ ((wA).drew.alloc (.cells #[] 3))
        have hmB : OwnN 3 .i64 ((wA).drew.alloc (.cells #[] 3)) (wA).heap.size (.slice (some ⟨(wA).heap.size, 0, none⟩) 0 0) [] := OwnN.made _ _ (wA).drew _ (Nat.le_refl _)
        have hbB : Below (wA).heap.size wA ((wA).drew.alloc (.cells #[] 3)) := (below_drewN (Below.refl _ _) 1).alloc (Nat.le_refl _) _
        refine t_e rfl rfl fun K hK => ?_
        refine op_append_nums (.tmp 43) (.tmp 46) 42 rfl .i64 3 8 Tryz.underlying42 info_int (wA).heap.size wA _ [] rfl hmB hbB (by simp) _ 27 _ (D.drop 1) rfl (by rw [List.length_drop, ld]) ⟨_, _, rfl, (Ns.drewN (by have := Nd.sub 1 27; rwa [List.take_of_length_le (by rw [List.length_drop, ld]; decide)] at this) 1).alloc _⟩ (by simp) (by omega) fun x1B w1B hx1B hy1B hz1B => ?_
        refine hK _ _ trivial ?_
        clear hK K
        go_simp
        refine t_e rfl rfl fun K hK => ?_
        refine op_append_nums (.tmp 47) (.tmp 50) 42 rfl .i64 3 8 Tryz.underlying42 info_int (wA).heap.size wA _ ([] ++ D.drop 1) rfl hx1B hy1B hy1B.size _ 1 _ (D.take 1) rfl (by rw [List.length_take, ld]; decide) ⟨_, _, rfl, (by have := (Nd.below hy1B kd).sub 0 1; simpa using this)⟩ (by rw [List.nil_append, List.length_drop, ld]; decide) (by omega) fun x2B wB hx2B hy2B hz2B => ?_
        refine hK _ _ trivial ?_
        clear hK K
        go_simp
        refine t_q rfl rfl trivial _ (fun W hW => by (go_simp; rfl)) ?_
        go_simp
        refine t_done ?_
        rw [List.nil_append] at hx2B
        have hLB : (D.drop 1 ++ D.take 1).length = 28 := by rw [List.length_append, List.length_drop, List.length_take, ld]; decide
        obtain ⟨gB, cpB, rfl, hgB, hcpB, hltB, hNB⟩ := hx2B.at_ (by intro h; rw [h] at hLB; cases hLB)
        rw [hLB] at hcpB ⊢
        clear hx1B hx2B hmB
        have hAN := hNA.below hy2B hltA
        have hbw : Below wr.heap.size wr wB := hy2A.trans (hy2B.mono hy2A.size)
        have hmE : OwnN 3 .i64 (wB.alloc (.cells #[] 3)) wB.heap.size (.slice (some ⟨wB.heap.size, 0, none⟩) 0 0) [] := OwnN.made _ _ wB _ (Nat.le_refl _)
        have hbE : Below wB.heap.size wB (wB.alloc (.cells #[] 3)) := (Below.refl _ _).alloc (Nat.le_refl _) _
        have hltA2 : gA < wB.heap.size := Nat.lt_of_lt_of_le hltA hy2B.size
        obtain ⟨CA, hCA⟩ : ∃ CA, C.drop 1 ++ C.take 1 = CA := ⟨_, rfl⟩
        obtain ⟨DA, hDA⟩ : ∃ DA, D.drop 1 ++ D.take 1 = DA := ⟨_, rfl⟩
        rw [hCA] at hAN hLA HC1
        rw [hDA] at hNB hLB HD1
        rw [HC1.out, HD1.out] at HKR1
        clear hCA hDA hNA
        have HLA := Lib.hid hLA; clear hLA
        have HLB := Lib.hid hLB; clear hLB
        go_wp2_with (first
          | (at_builtin; refine wpList_append_nums rfl (.tmp 53) (.tmp 54) 42 rfl .i64 3 8 Tryz.underlying42 info_int wB.heap.size wB _ [] rfl hmE hbE (by simp) _ 28 _ CA rfl HLA.out ⟨_, _, rfl, hAN.alloc _⟩ (by simp) (by omega) ?_; intro x3 w3 hx3 hy3 hz3)
          | (at_builtin; refine wpList_append_nums rfl (.tmp 55) (.tmp 56) 42 rfl .i64 3 8 Tryz.underlying42 info_int wB.heap.size wB _ ([] ++ CA) rfl hx3 hy3 hy3.size _ 28 _ DA rfl HLB.out ⟨_, _, rfl, hNB.below hy3 hltB⟩ (by rw [List.nil_append, HLA.out]; decide) (by omega) ?_; intro x4 w4 hx4 hy4 hz4; rw [List.nil_append] at hx4; obtain ⟨A4, c4, rfl, -, hN4⟩ := hx4.form))
        have hL4 : (CA ++ DA).length = 56 := by rw [List.length_append, HLA.out, HLB.out]
        have HP2 := Lib.hid (fun (tab : ByteArray) (ht : Tab tab 56 psPC2) W hA => perm3_any (CA ++ DA) A4 c4 tab 56 psPC2 ht (by decide) (by rw [hL4]; decide) W hA)
        rw [← HKR1.out, hL4] at HP2
        rw [show CA.length + DA.length = 56 by rw [HLA.out, HLB.out]]
        refine (HP2.out _ (tab_of (by kernel_rfl)) _ hN4).mono ?_
        rintro e w5 ⟨⟨v5, rfl, hv5⟩, hb5⟩
        have hl48 := keyR_len key (q - 1)
        obtain ⟨g5, c5, rfl, hg5, hc5, hlt5, hN5⟩ := hv5.at_ (by intro h; rw [h] at hl48; cases hl48)
        rw [hl48]
        have hbw5 : Below wr.heap.size wr w5 := hbw.trans ((hy4.mono hbw.size).trans (hb5.mono (Nat.le_trans hbw.size hy4.size)))
        have hbw6 : Below wr.heap.size wr (w5.alloc (.cells #[.slice (some ⟨g5, 0, none⟩) 48 c5] 42)) := hbw5.alloc hbw5.size _
        have hu5 : (w5.alloc (.cells #[.slice (some ⟨g5, 0, none⟩) 48 c5] 42)).cell? ⟨w5.heap.size, 0, none⟩ = some (.slice (some ⟨g5, 0, none⟩) 48 c5) := (Blk.new w5 42 #[.slice (some ⟨g5, 0, none⟩) 48 c5]).cell 0
        clear hv5 hx4 hx3 HP2 hmE hbE
        go_wp2_with (at_builtin; go_loud (refine wpList_append_one rfl (.tmp 52) (.tmp 59) 168 rfl 42 24 Tryz.underlying168 info_ints w.heap.size _ (q - 1) vs rfl (owns_below hvs hbw6 (Nat.le_refl _)) (Nat.le_trans hbel.size hbw6.size) w5.heap.size 0 1 (.slice (some ⟨g5, 0, none⟩) 48 c5) rfl hu5 rfl (by omega) (by omega) ?_); intro v6 w6 h61 h62 h63)
        go_wp2
        go_roundw
        case rel =>
          have hq' : q + 1 - 1 = q - 1 + 1 := by omega
          have hWB : Below wB.heap.size wB (w5.alloc (.cells #[.slice (some ⟨g5, 0, none⟩) 48 c5] 42)) := (hy4.trans (hb5.mono hy4.size)).alloc (hy4.trans (hb5.mono hy4.size)).size _
          refine ⟨q + 1, by omega, by omega, by go_num, ?_, ?_, ?_, ?_⟩
          · rw [hq', HC1.out]
            exact HalfAt.push ⟨gA, 0, cpA, rfl, hcpA, HLA.out, hAN.below hWB hltA2, Nat.lt_of_lt_of_le hltA2 hWB.size, fun h => by have := (hvlt _ h).2; omega⟩ h62 h63
          · rw [hq', HD1.out]
            exact HalfAt.push ⟨gB, 0, cpB, rfl, hcpB, HLB.out, hNB.below hWB hltB, Nat.lt_of_lt_of_le hltB hWB.size, fun h => by have := (hvlt _ h).2; have := hy2A.size; omega⟩ h62 h63
          · rw [hq']
            refine KeysAt.push (fun j hj => ?_) (by rw [HVN.out]; omega) (by simp; omega) hl48 (hN5.alloc _) (fun h => by have := (hvlt _ h).2; have := hbw.size; have := hy4.size; omega) h61 h62 h63
            obtain ⟨u, hu, hr, hne⟩ := hrows j hj
            exact ⟨u, hu, hr.below hbw6 (Nat.le_refl _), hne⟩
          · exact (hbel.trans (hbw6.mono hbel.size)).grown h62 (Nat.le_trans hbel.size hbw6.size) (fun k hk => (hvlt k hk).1)
        case measure => simp [intOf]; omega
        
      · have t0 : ((q : Int) == 1) = false := by rw [beq_eq_false_iff_ne]; omega
        have t1 : ((q : Int) == 2) = true := by rw [beq_iff_eq]; omega
        have hrot : rotN (q - 1) = 1 := by unfold rotN; rw [if_pos (by omega)]
        have hC1 := HC0.out (q - 1)
        have hD1 := HD0.out (q - 1)
        rw [hrot, hCe] at hC1
        rw [hrot, hDe] at hD1
        clear hc hrot
        have HC1 := Lib.hid hC1; clear hC1
        have HD1 := Lib.hid hD1; clear hD1
        go_wp2_with fail
        refine wp_region_tree (.q 1 (.q 2 (.q 3 (.q 5 (.q 6 (.q 7 (.e [0] fun _ => .e [4] fun _ => .e [8] fun _ => .q 9 .done))))))) (fun _ => True) rfl (by kernel_rfl) (fun _ _ d _ _ h => by cases d <;> exact h) ?_
        iterate 2 (refine t_q rfl rfl trivial _ (fun W hW => by (go_simp; rfl)) ?_; go_simp)
        refine t_q rfl rfl trivial (.slice (some ⟨gc, oc + 1, none⟩) 27 (cc - 1)) (fun W hW => by (go_simp; try omega)) ?_
        go_simp
        iterate 2 (refine t_q rfl rfl trivial _ (fun W hW => by (go_simp; rfl)) ?_; go_simp)
        refine t_q rfl rfl trivial (.slice (some ⟨gc, oc, none⟩) 1 cc) (fun W hW => by (go_simp; try omega)) ?_
        go_simp
        refine t_e rfl rfl fun K hK => ?_
        go_simp
        refine hK _ _ trivial ?_
        clear hK K
        change wpT _ _ _ _ _ _ ((wr).drew.alloc (.cells #[] 3))
        have hmA : OwnN 3 .i64 ((wr).drew.alloc (.cells #[] 3)) (wr).heap.size (.slice (some ⟨(wr).heap.size, 0, none⟩) 0 0) [] := OwnN.made _ _ (wr).drew _ (Nat.le_refl _)
        have hbA : Below (wr).heap.size wr ((wr).drew.alloc (.cells #[] 3)) := (below_drewN (Below.refl _ _) 1).alloc (Nat.le_refl _) _
        refine t_e rfl rfl fun K hK => ?_
        refine op_append_nums (.tmp 34) (.tmp 37) 42 rfl .i64 3 8 Tryz.underlying42 info_int (wr).heap.size wr _ [] rfl hmA hbA (by simp) _ 27 _ (C.drop 1) rfl (by rw [List.length_drop, lc]) ⟨_, _, rfl, (Ns.drewN (by have := Nc.sub 1 27; rwa [List.take_of_length_le (by rw [List.length_drop, lc]; decide)] at this) 1).alloc _⟩ (by simp) (by omega) fun x1A w1A hx1A hy1A hz1A => ?_
        refine hK _ _ trivial ?_
        clear hK K
        go_simp
        refine t_e rfl rfl fun K hK => ?_
        refine op_append_nums (.tmp 38) (.tmp 41) 42 rfl .i64 3 8 Tryz.underlying42 info_int (wr).heap.size wr _ ([] ++ C.drop 1) rfl hx1A hy1A hy1A.size _ 1 _ (C.take 1) rfl (by rw [List.length_take, lc]; decide) ⟨_, _, rfl, (by have := (Nc.below hy1A kc).sub 0 1; simpa using this)⟩ (by rw [List.nil_append, List.length_drop, lc]; decide) (by omega) fun x2A wA hx2A hy2A hz2A => ?_
        refine hK _ _ trivial ?_
        clear hK K
        go_simp
        refine t_q rfl rfl trivial _ (fun W hW => by (go_simp; rfl)) ?_
        go_simp
        refine t_done ?_
        rw [List.nil_append] at hx2A
        have hLA : (C.drop 1 ++ C.take 1).length = 28 := by rw [List.length_append, List.length_drop, List.length_take, lc]; decide
        obtain ⟨gA, cpA, rfl, hgA, hcpA, hltA, hNA⟩ := hx2A.at_ (by intro h; rw [h] at hLA; cases hLA)
        rw [hLA] at hcpA ⊢
        clear hx1A hx2A hmA
        have Nd := Nd.below hy2A kd
        have kd : gd < wA.heap.size := Nat.lt_of_lt_of_le kd hy2A.size
        go_wp2_with fail
        refine wp_region_tree (.q 1 (.q 2 (.q 3 (.q 5 (.q 6 (.q 7 (.e [0] fun _ => .e [4] fun _ => .e [8] fun _ => .q 9 .done))))))) (fun _ => True) rfl (by kernel_rfl) (fun _ _ d _ _ h => by cases d <;> exact h) ?_
        iterate 2 (refine t_q rfl rfl trivial _ (fun W hW => by (go_simp; rfl)) ?_; go_simp)
        refine t_q rfl rfl trivial (.slice (some ⟨gd, od + 1, none⟩) 27 (cd - 1)) (fun W hW => by (go_simp; try omega)) ?_
        go_simp
        iterate 2 (refine t_q rfl rfl trivial _ (fun W hW => by (go_simp; rfl)) ?_; go_simp)
        refine t_q rfl rfl trivial (.slice (some ⟨gd, od, none⟩) 1 cd) (fun W hW => by (go_simp; try omega)) ?_
        go_simp
        refine t_e rfl rfl fun K hK => ?_
        go_simp
        refine hK _ _ trivial ?_
        clear hK K
        change wpT _ _ _ _ _ _ ((wA).drew.alloc (.cells #[] 3))
        have hmB : OwnN 3 .i64 ((wA).drew.alloc (.cells #[] 3)) (wA).heap.size (.slice (some ⟨(wA).heap.size, 0, none⟩) 0 0) [] := OwnN.made _ _ (wA).drew _ (Nat.le_refl _)
        have hbB : Below (wA).heap.size wA ((wA).drew.alloc (.cells #[] 3)) := (below_drewN (Below.refl _ _) 1).alloc (Nat.le_refl _) _
        refine t_e rfl rfl fun K hK => ?_
        refine op_append_nums (.tmp 43) (.tmp 46) 42 rfl .i64 3 8 Tryz.underlying42 info_int (wA).heap.size wA _ [] rfl hmB hbB (by simp) _ 27 _ (D.drop 1) rfl (by rw [List.length_drop, ld]) ⟨_, _, rfl, (Ns.drewN (by have := Nd.sub 1 27; rwa [List.take_of_length_le (by rw [List.length_drop, ld]; decide)] at this) 1).alloc _⟩ (by simp) (by omega) fun x1B w1B hx1B hy1B hz1B => ?_
        refine hK _ _ trivial ?_
        clear hK K
        go_simp
        refine t_e rfl rfl fun K hK => ?_
        refine op_append_nums (.tmp 47) (.tmp 50) 42 rfl .i64 3 8 Tryz.underlying42 info_int (wA).heap.size wA _ ([] ++ D.drop 1) rfl hx1B hy1B hy1B.size _ 1 _ (D.take 1) rfl (by rw [List.length_take, ld]; decide) ⟨_, _, rfl, (by have := (Nd.below hy1B kd).sub 0 1; simpa using this)⟩ (by rw [List.nil_append, List.length_drop, ld]; decide) (by omega) fun x2B wB hx2B hy2B hz2B => ?_
        refine hK _ _ trivial ?_
        clear hK K
        go_simp
        refine t_q rfl rfl trivial _ (fun W hW => by (go_simp; rfl)) ?_
        go_simp
        refine t_done ?_
        rw [List.nil_append] at hx2B
        have hLB : (D.drop 1 ++ D.take 1).length = 28 := by rw [List.length_append, List.length_drop, List.length_take, ld]; decide
        obtain ⟨gB, cpB, rfl, hgB, hcpB, hltB, hNB⟩ := hx2B.at_ (by intro h; rw [h] at hLB; cases hLB)
        rw [hLB] at hcpB ⊢
        clear hx1B hx2B hmB
        have hAN := hNA.below hy2B hltA
        have hbw : Below wr.heap.size wr wB := hy2A.trans (hy2B.mono hy2A.size)
        have hmE : OwnN 3 .i64 (wB.alloc (.cells #[] 3)) wB.heap.size (.slice (some ⟨wB.heap.size, 0, none⟩) 0 0) [] := OwnN.made _ _ wB _ (Nat.le_refl _)
        have hbE : Below wB.heap.size wB (wB.alloc (.cells #[] 3)) := (Below.refl _ _).alloc (Nat.le_refl _) _
        have hltA2 : gA < wB.heap.size := Nat.lt_of_lt_of_le hltA hy2B.size
        obtain ⟨CA, hCA⟩ : ∃ CA, C.drop 1 ++ C.take 1 = CA := ⟨_, rfl⟩
        obtain ⟨DA, hDA⟩ : ∃ DA, D.drop 1 ++ D.take 1 = DA := ⟨_, rfl⟩
        rw [hCA] at hAN hLA HC1
        rw [hDA] at hNB hLB HD1
        rw [HC1.out, HD1.out] at HKR1
        clear hCA hDA hNA
        have HLA := Lib.hid hLA; clear hLA
        have HLB := Lib.hid hLB; clear hLB
        go_wp2_with (first
          | (at_builtin; refine wpList_append_nums rfl (.tmp 53) (.tmp 54) 42 rfl .i64 3 8 Tryz.underlying42 info_int wB.heap.size wB _ [] rfl hmE hbE (by simp) _ 28 _ CA rfl HLA.out ⟨_, _, rfl, hAN.alloc _⟩ (by simp) (by omega) ?_; intro x3 w3 hx3 hy3 hz3)
          | (at_builtin; refine wpList_append_nums rfl (.tmp 55) (.tmp 56) 42 rfl .i64 3 8 Tryz.underlying42 info_int wB.heap.size wB _ ([] ++ CA) rfl hx3 hy3 hy3.size _ 28 _ DA rfl HLB.out ⟨_, _, rfl, hNB.below hy3 hltB⟩ (by rw [List.nil_append, HLA.out]; decide) (by omega) ?_; intro x4 w4 hx4 hy4 hz4; rw [List.nil_append] at hx4; obtain ⟨A4, c4, rfl, -, hN4⟩ := hx4.form))
        have hL4 : (CA ++ DA).length = 56 := by rw [List.length_append, HLA.out, HLB.out]
        have HP2 := Lib.hid (fun (tab : ByteArray) (ht : Tab tab 56 psPC2) W hA => perm3_any (CA ++ DA) A4 c4 tab 56 psPC2 ht (by decide) (by rw [hL4]; decide) W hA)
        rw [← HKR1.out, hL4] at HP2
        rw [show CA.length + DA.length = 56 by rw [HLA.out, HLB.out]]
        refine (HP2.out _ (tab_of (by kernel_rfl)) _ hN4).mono ?_
        rintro e w5 ⟨⟨v5, rfl, hv5⟩, hb5⟩
        have hl48 := keyR_len key (q - 1)
        obtain ⟨g5, c5, rfl, hg5, hc5, hlt5, hN5⟩ := hv5.at_ (by intro h; rw [h] at hl48; cases hl48)
        rw [hl48]
        have hbw5 : Below wr.heap.size wr w5 := hbw.trans ((hy4.mono hbw.size).trans (hb5.mono (Nat.le_trans hbw.size hy4.size)))
        have hbw6 : Below wr.heap.size wr (w5.alloc (.cells #[.slice (some ⟨g5, 0, none⟩) 48 c5] 42)) := hbw5.alloc hbw5.size _
        have hu5 : (w5.alloc (.cells #[.slice (some ⟨g5, 0, none⟩) 48 c5] 42)).cell? ⟨w5.heap.size, 0, none⟩ = some (.slice (some ⟨g5, 0, none⟩) 48 c5) := (Blk.new w5 42 #[.slice (some ⟨g5, 0, none⟩) 48 c5]).cell 0
        clear hv5 hx4 hx3 HP2 hmE hbE
        go_wp2_with (at_builtin; go_loud (refine wpList_append_one rfl (.tmp 52) (.tmp 59) 168 rfl 42 24 Tryz.underlying168 info_ints w.heap.size _ (q - 1) vs rfl (owns_below hvs hbw6 (Nat.le_refl _)) (Nat.le_trans hbel.size hbw6.size) w5.heap.size 0 1 (.slice (some ⟨g5, 0, none⟩) 48 c5) rfl hu5 rfl (by omega) (by omega) ?_); intro v6 w6 h61 h62 h63)
        go_wp2
        go_roundw
        case rel =>
          have hq' : q + 1 - 1 = q - 1 + 1 := by omega
          have hWB : Below wB.heap.size wB (w5.alloc (.cells #[.slice (some ⟨g5, 0, none⟩) 48 c5] 42)) := (hy4.trans (hb5.mono hy4.size)).alloc (hy4.trans (hb5.mono hy4.size)).size _
          refine ⟨q + 1, by omega, by omega, by go_num, ?_, ?_, ?_, ?_⟩
          · rw [hq', HC1.out]
            exact HalfAt.push ⟨gA, 0, cpA, rfl, hcpA, HLA.out, hAN.below hWB hltA2, Nat.lt_of_lt_of_le hltA2 hWB.size, fun h => by have := (hvlt _ h).2; omega⟩ h62 h63
          · rw [hq', HD1.out]
            exact HalfAt.push ⟨gB, 0, cpB, rfl, hcpB, HLB.out, hNB.below hWB hltB, Nat.lt_of_lt_of_le hltB hWB.size, fun h => by have := (hvlt _ h).2; have := hy2A.size; omega⟩ h62 h63
          · rw [hq']
            refine KeysAt.push (fun j hj => ?_) (by rw [HVN.out]; omega) (by simp; omega) hl48 (hN5.alloc _) (fun h => by have := (hvlt _ h).2; have := hbw.size; have := hy4.size; omega) h61 h62 h63
            obtain ⟨u, hu, hr, hne⟩ := hrows j hj
            exact ⟨u, hu, hr.below hbw6 (Nat.le_refl _), hne⟩
          · exact (hbel.trans (hbw6.mono hbel.size)).grown h62 (Nat.le_trans hbel.size hbw6.size) (fun k hk => (hvlt k hk).1)
        case measure => simp [intOf]; omega
        
      · have t0 : ((q : Int) == 1) = false := by rw [beq_eq_false_iff_ne]; omega
        have t1 : ((q : Int) == 2) = false := by rw [beq_eq_false_iff_ne]; omega
        have t2 : ((q : Int) == 9) = true := by rw [beq_iff_eq]; omega
        have hrot : rotN (q - 1) = 1 := by unfold rotN; rw [if_pos (by omega)]
        have hC1 := HC0.out (q - 1)
        have hD1 := HD0.out (q - 1)
        rw [hrot, hCe] at hC1
        rw [hrot, hDe] at hD1
        clear hc hrot
        have HC1 := Lib.hid hC1; clear hC1
        have HD1 := Lib.hid hD1; clear hD1
        go_wp2_with fail
        refine wp_region_tree (.q 1 (.q 2 (.q 3 (.q 5 (.q 6 (.q 7 (.e [0] fun _ => .e [4] fun _ => .e [8] fun _ => .q 9 .done))))))) (fun _ => True) rfl (by kernel_rfl) (fun _ _ d _ _ h => by cases d <;> exact h) ?_
        iterate 2 (refine t_q rfl rfl trivial _ (fun W hW => by (go_simp; rfl)) ?_; go_simp)
        refine t_q rfl rfl trivial (.slice (some ⟨gc, oc + 1, none⟩) 27 (cc - 1)) (fun W hW => by (go_simp; try omega)) ?_
        go_simp
        iterate 2 (refine t_q rfl rfl trivial _ (fun W hW => by (go_simp; rfl)) ?_; go_simp)
        refine t_q rfl rfl trivial (.slice (some ⟨gc, oc, none⟩) 1 cc) (fun W hW => by (go_simp; try omega)) ?_
        go_simp
        refine t_e rfl rfl fun K hK => ?_
        go_simp
        refine hK _ _ trivial ?_
        clear hK K
        change wpT _ _ _ _ _ _ ((wr).drew.alloc (.cells #[] 3))
        have hmA : OwnN 3 .i64 ((wr).drew.alloc (.cells #[] 3)) (wr).heap.size (.slice (some ⟨(wr).heap.size, 0, none⟩) 0 0) [] := OwnN.made _ _ (wr).drew _ (Nat.le_refl _)
        have hbA : Below (wr).heap.size wr ((wr).drew.alloc (.cells #[] 3)) := (below_drewN (Below.refl _ _) 1).alloc (Nat.le_refl _) _
        refine t_e rfl rfl fun K hK => ?_
        refine op_append_nums (.tmp 34) (.tmp 37) 42 rfl .i64 3 8 Tryz.underlying42 info_int (wr).heap.size wr _ [] rfl hmA hbA (by simp) _ 27 _ (C.drop 1) rfl (by rw [List.length_drop, lc]) ⟨_, _, rfl, (Ns.drewN (by have := Nc.sub 1 27; rwa [List.take_of_length_le (by rw [List.length_drop, lc]; decide)] at this) 1).alloc _⟩ (by simp) (by omega) fun x1A w1A hx1A hy1A hz1A => ?_
        refine hK _ _ trivial ?_
        clear hK K
        go_simp
        refine t_e rfl rfl fun K hK => ?_
        refine op_append_nums (.tmp 38) (.tmp 41) 42 rfl .i64 3 8 Tryz.underlying42 info_int (wr).heap.size wr _ ([] ++ C.drop 1) rfl hx1A hy1A hy1A.size _ 1 _ (C.take 1) rfl (by rw [List.length_take, lc]; decide) ⟨_, _, rfl, (by have := (Nc.below hy1A kc).sub 0 1; simpa using this)⟩ (by rw [List.nil_append, List.length_drop, lc]; decide) (by omega) fun x2A wA hx2A hy2A hz2A => ?_
        refine hK _ _ trivial ?_
        clear hK K
        go_simp
        refine t_q rfl rfl trivial _ (fun W hW => by (go_simp; rfl)) ?_
        go_simp
        refine t_done ?_
        rw [List.nil_append] at hx2A
        have hLA : (C.drop 1 ++ C.take 1).length = 28 := by rw [List.length_append, List.length_drop, List.length_take, lc]; decide
        obtain ⟨gA, cpA, rfl, hgA, hcpA, hltA, hNA⟩ := hx2A.at_ (by intro h; rw [h] at hLA; cases hLA)
        rw [hLA] at hcpA ⊢
        clear hx1A hx2A hmA
        have Nd := Nd.below hy2A kd
        have kd : gd < wA.heap.size := Nat.lt_of_lt_of_le kd hy2A.size
        go_wp2_with fail
        refine wp_region_tree (.q 1 (.q 2 (.q 3 (.q 5 (.q 6 (.q 7 (.e [0] fun _ => .e [4] fun _ => .e [8] fun _ => .q 9 .done))))))) (fun _ => True) rfl (by kernel_rfl) (fun _ _ d _ _ h => by cases d <;> exact h) ?_
        iterate 2 (refine t_q rfl rfl trivial _ (fun W hW => by (go_simp; rfl)) ?_; go_simp)
        refine t_q rfl rfl trivial (.slice (some ⟨gd, od + 1, none⟩) 27 (cd - 1)) (fun W hW => by (go_simp; try omega)) ?_
        go_simp
        iterate 2 (refine t_q rfl rfl trivial _ (fun W hW => by (go_simp; rfl)) ?_; go_simp)
        refine t_q rfl rfl trivial (.slice (some ⟨gd, od, none⟩) 1 cd) (fun W hW => by (go_simp; try omega)) ?_
        go_simp
        refine t_e rfl rfl fun K hK => ?_
        go_simp
        refine hK _ _ trivial ?_
        clear hK K
        change wpT _ _ _ _ _ _ ((wA).drew.alloc (.cells #[] 3))
        have hmB : OwnN 3 .i64 ((wA).drew.alloc (.cells #[] 3)) (wA).heap.size (.slice (some ⟨(wA).heap.size, 0, none⟩) 0 0) [] := OwnN.made _ _ (wA).drew _ (Nat.le_refl _)
        have hbB : Below (wA).heap.size wA ((wA).drew.alloc (.cells #[] 3)) := (below_drewN (Below.refl _ _) 1).alloc (Nat.le_refl _) _
        refine t_e rfl rfl fun K hK => ?_
        refine op_append_nums (.tmp 43) (.tmp 46) 42 rfl .i64 3 8 Tryz.underlying42 info_int (wA).heap.size wA _ [] rfl hmB hbB (by simp) _ 27 _ (D.drop 1) rfl (by rw [List.length_drop, ld]) ⟨_, _, rfl, (Ns.drewN (by have := Nd.sub 1 27; rwa [List.take_of_length_le (by rw [List.length_drop, ld]; decide)] at this) 1).alloc _⟩ (by simp) (by omega) fun x1B w1B hx1B hy1B hz1B => ?_
        refine hK _ _ trivial ?_
        clear hK K
        go_simp
        refine t_e rfl rfl fun K hK => ?_
        refine op_append_nums (.tmp 47) (.tmp 50) 42 rfl .i64 3 8 Tryz.underlying42 info_int (wA).heap.size wA _ ([] ++ D.drop 1) rfl hx1B hy1B hy1B.size _ 1 _ (D.take 1) rfl (by rw [List.length_take, ld]; decide) ⟨_, _, rfl, (by have := (Nd.below hy1B kd).sub 0 1; simpa using this)⟩ (by rw [List.nil_append, List.length_drop, ld]; decide) (by omega) fun x2B wB hx2B hy2B hz2B => ?_
        refine hK _ _ trivial ?_
        clear hK K
        go_simp
        refine t_q rfl rfl trivial _ (fun W hW => by (go_simp; rfl)) ?_
        go_simp
        refine t_done ?_
        rw [List.nil_append] at hx2B
        have hLB : (D.drop 1 ++ D.take 1).length = 28 := by rw [List.length_append, List.length_drop, List.length_take, ld]; decide
        obtain ⟨gB, cpB, rfl, hgB, hcpB, hltB, hNB⟩ := hx2B.at_ (by intro h; rw [h] at hLB; cases hLB)
        rw [hLB] at hcpB ⊢
        clear hx1B hx2B hmB
        have hAN := hNA.below hy2B hltA
        have hbw : Below wr.heap.size wr wB := hy2A.trans (hy2B.mono hy2A.size)
        have hmE : OwnN 3 .i64 (wB.alloc (.cells #[] 3)) wB.heap.size (.slice (some ⟨wB.heap.size, 0, none⟩) 0 0) [] := OwnN.made _ _ wB _ (Nat.le_refl _)
        have hbE : Below wB.heap.size wB (wB.alloc (.cells #[] 3)) := (Below.refl _ _).alloc (Nat.le_refl _) _
        have hltA2 : gA < wB.heap.size := Nat.lt_of_lt_of_le hltA hy2B.size
        obtain ⟨CA, hCA⟩ : ∃ CA, C.drop 1 ++ C.take 1 = CA := ⟨_, rfl⟩
        obtain ⟨DA, hDA⟩ : ∃ DA, D.drop 1 ++ D.take 1 = DA := ⟨_, rfl⟩
        rw [hCA] at hAN hLA HC1
        rw [hDA] at hNB hLB HD1
        rw [HC1.out, HD1.out] at HKR1
        clear hCA hDA hNA
        have HLA := Lib.hid hLA; clear hLA
        have HLB := Lib.hid hLB; clear hLB
        go_wp2_with (first
          | (at_builtin; refine wpList_append_nums rfl (.tmp 53) (.tmp 54) 42 rfl .i64 3 8 Tryz.underlying42 info_int wB.heap.size wB _ [] rfl hmE hbE (by simp) _ 28 _ CA rfl HLA.out ⟨_, _, rfl, hAN.alloc _⟩ (by simp) (by omega) ?_; intro x3 w3 hx3 hy3 hz3)
          | (at_builtin; refine wpList_append_nums rfl (.tmp 55) (.tmp 56) 42 rfl .i64 3 8 Tryz.underlying42 info_int wB.heap.size wB _ ([] ++ CA) rfl hx3 hy3 hy3.size _ 28 _ DA rfl HLB.out ⟨_, _, rfl, hNB.below hy3 hltB⟩ (by rw [List.nil_append, HLA.out]; decide) (by omega) ?_; intro x4 w4 hx4 hy4 hz4; rw [List.nil_append] at hx4; obtain ⟨A4, c4, rfl, -, hN4⟩ := hx4.form))
        have hL4 : (CA ++ DA).length = 56 := by rw [List.length_append, HLA.out, HLB.out]
        have HP2 := Lib.hid (fun (tab : ByteArray) (ht : Tab tab 56 psPC2) W hA => perm3_any (CA ++ DA) A4 c4 tab 56 psPC2 ht (by decide) (by rw [hL4]; decide) W hA)
        rw [← HKR1.out, hL4] at HP2
        rw [show CA.length + DA.length = 56 by rw [HLA.out, HLB.out]]
        refine (HP2.out _ (tab_of (by kernel_rfl)) _ hN4).mono ?_
        rintro e w5 ⟨⟨v5, rfl, hv5⟩, hb5⟩
        have hl48 := keyR_len key (q - 1)
        obtain ⟨g5, c5, rfl, hg5, hc5, hlt5, hN5⟩ := hv5.at_ (by intro h; rw [h] at hl48; cases hl48)
        rw [hl48]
        have hbw5 : Below wr.heap.size wr w5 := hbw.trans ((hy4.mono hbw.size).trans (hb5.mono (Nat.le_trans hbw.size hy4.size)))
        have hbw6 : Below wr.heap.size wr (w5.alloc (.cells #[.slice (some ⟨g5, 0, none⟩) 48 c5] 42)) := hbw5.alloc hbw5.size _
        have hu5 : (w5.alloc (.cells #[.slice (some ⟨g5, 0, none⟩) 48 c5] 42)).cell? ⟨w5.heap.size, 0, none⟩ = some (.slice (some ⟨g5, 0, none⟩) 48 c5) := (Blk.new w5 42 #[.slice (some ⟨g5, 0, none⟩) 48 c5]).cell 0
        clear hv5 hx4 hx3 HP2 hmE hbE
        go_wp2_with (at_builtin; go_loud (refine wpList_append_one rfl (.tmp 52) (.tmp 59) 168 rfl 42 24 Tryz.underlying168 info_ints w.heap.size _ (q - 1) vs rfl (owns_below hvs hbw6 (Nat.le_refl _)) (Nat.le_trans hbel.size hbw6.size) w5.heap.size 0 1 (.slice (some ⟨g5, 0, none⟩) 48 c5) rfl hu5 rfl (by omega) (by omega) ?_); intro v6 w6 h61 h62 h63)
        go_wp2
        go_roundw
        case rel =>
          have hq' : q + 1 - 1 = q - 1 + 1 := by omega
          have hWB : Below wB.heap.size wB (w5.alloc (.cells #[.slice (some ⟨g5, 0, none⟩) 48 c5] 42)) := (hy4.trans (hb5.mono hy4.size)).alloc (hy4.trans (hb5.mono hy4.size)).size _
          refine ⟨q + 1, by omega, by omega, by go_num, ?_, ?_, ?_, ?_⟩
          · rw [hq', HC1.out]
            exact HalfAt.push ⟨gA, 0, cpA, rfl, hcpA, HLA.out, hAN.below hWB hltA2, Nat.lt_of_lt_of_le hltA2 hWB.size, fun h => by have := (hvlt _ h).2; omega⟩ h62 h63
          · rw [hq', HD1.out]
            exact HalfAt.push ⟨gB, 0, cpB, rfl, hcpB, HLB.out, hNB.below hWB hltB, Nat.lt_of_lt_of_le hltB hWB.size, fun h => by have := (hvlt _ h).2; have := hy2A.size; omega⟩ h62 h63
          · rw [hq']
            refine KeysAt.push (fun j hj => ?_) (by rw [HVN.out]; omega) (by simp; omega) hl48 (hN5.alloc _) (fun h => by have := (hvlt _ h).2; have := hbw.size; have := hy4.size; omega) h61 h62 h63
            obtain ⟨u, hu, hr, hne⟩ := hrows j hj
            exact ⟨u, hu, hr.below hbw6 (Nat.le_refl _), hne⟩
          · exact (hbel.trans (hbw6.mono hbel.size)).grown h62 (Nat.le_trans hbel.size hbw6.size) (fun k hk => (hvlt k hk).1)
        case measure => simp [intOf]; omega
        
      · have t0 : ((q : Int) == 1) = false := by rw [beq_eq_false_iff_ne]; omega
        have t1 : ((q : Int) == 2) = false := by rw [beq_eq_false_iff_ne]; omega
        have t2 : ((q : Int) == 9) = false := by rw [beq_eq_false_iff_ne]; omega
        have t3 : ((q : Int) == 16) = true := by rw [beq_iff_eq]; omega
        have hrot : rotN (q - 1) = 1 := by unfold rotN; rw [if_pos (by omega)]
        have hC1 := HC0.out (q - 1)
        have hD1 := HD0.out (q - 1)
        rw [hrot, hCe] at hC1
        rw [hrot, hDe] at hD1
        clear hc hrot
        have HC1 := Lib.hid hC1; clear hC1
        have HD1 := Lib.hid hD1; clear hD1
        go_wp2_with fail
        refine wp_region_tree (.q 1 (.q 2 (.q 3 (.q 5 (.q 6 (.q 7 (.e [0] fun _ => .e [4] fun _ => .e [8] fun _ => .q 9 .done))))))) (fun _ => True) rfl (by kernel_rfl) (fun _ _ d _ _ h => by cases d <;> exact h) ?_
        iterate 2 (refine t_q rfl rfl trivial _ (fun W hW => by (go_simp; rfl)) ?_; go_simp)
        refine t_q rfl rfl trivial (.slice (some ⟨gc, oc + 1, none⟩) 27 (cc - 1)) (fun W hW => by (go_simp; try omega)) ?_
        go_simp
        iterate 2 (refine t_q rfl rfl trivial _ (fun W hW => by (go_simp; rfl)) ?_; go_simp)
        refine t_q rfl rfl trivial (.slice (some ⟨gc, oc, none⟩) 1 cc) (fun W hW => by (go_simp; try omega)) ?_
        go_simp
        refine t_e rfl rfl fun K hK => ?_
        go_simp
        refine hK _ _ trivial ?_
        clear hK K
        change wpT _ _ _ _ _ _ ((wr).drew.alloc (.cells #[] 3))
        have hmA : OwnN 3 .i64 ((wr).drew.alloc (.cells #[] 3)) (wr).heap.size (.slice (some ⟨(wr).heap.size, 0, none⟩) 0 0) [] := OwnN.made _ _ (wr).drew _ (Nat.le_refl _)
        have hbA : Below (wr).heap.size wr ((wr).drew.alloc (.cells #[] 3)) := (below_drewN (Below.refl _ _) 1).alloc (Nat.le_refl _) _
        refine t_e rfl rfl fun K hK => ?_
        refine op_append_nums (.tmp 34) (.tmp 37) 42 rfl .i64 3 8 Tryz.underlying42 info_int (wr).heap.size wr _ [] rfl hmA hbA (by simp) _ 27 _ (C.drop 1) rfl (by rw [List.length_drop, lc]) ⟨_, _, rfl, (Ns.drewN (by have := Nc.sub 1 27; rwa [List.take_of_length_le (by rw [List.length_drop, lc]; decide)] at this) 1).alloc _⟩ (by simp) (by omega) fun x1A w1A hx1A hy1A hz1A => ?_
        refine hK _ _ trivial ?_
        clear hK K
        go_simp
        refine t_e rfl rfl fun K hK => ?_
        refine op_append_nums (.tmp 38) (.tmp 41) 42 rfl .i64 3 8 Tryz.underlying42 info_int (wr).heap.size wr _ ([] ++ C.drop 1) rfl hx1A hy1A hy1A.size _ 1 _ (C.take 1) rfl (by rw [List.length_take, lc]; decide) ⟨_, _, rfl, (by have := (Nc.below hy1A kc).sub 0 1; simpa using this)⟩ (by rw [List.nil_append, List.length_drop, lc]; decide) (by omega) fun x2A wA hx2A hy2A hz2A => ?_
        refine hK _ _ trivial ?_
        clear hK K
        go_simp
        refine t_q rfl rfl trivial _ (fun W hW => by (go_simp; rfl)) ?_
        go_simp
        refine t_done ?_
        rw [List.nil_append] at hx2A
        have hLA : (C.drop 1 ++ C.take 1).length = 28 := by rw [List.length_append, List.length_drop, List.length_take, lc]; decide
        obtain ⟨gA, cpA, rfl, hgA, hcpA, hltA, hNA⟩ := hx2A.at_ (by intro h; rw [h] at hLA; cases hLA)
        rw [hLA] at hcpA ⊢
        clear hx1A hx2A hmA
        have Nd := Nd.below hy2A kd
        have kd : gd < wA.heap.size := Nat.lt_of_lt_of_le kd hy2A.size
        go_wp2_with fail
        refine wp_region_tree (.q 1 (.q 2 (.q 3 (.q 5 (.q 6 (.q 7 (.e [0] fun _ => .e [4] fun _ => .e [8] fun _ => .q 9 .done))))))) (fun _ => True) rfl (by kernel_rfl) (fun _ _ d _ _ h => by cases d <;> exact h) ?_
        iterate 2 (refine t_q rfl rfl trivial _ (fun W hW => by (go_simp; rfl)) ?_; go_simp)
        refine t_q rfl rfl trivial (.slice (some ⟨gd, od + 1, none⟩) 27 (cd - 1)) (fun W hW => by (go_simp; try omega)) ?_
        go_simp
        iterate 2 (refine t_q rfl rfl trivial _ (fun W hW => by (go_simp; rfl)) ?_; go_simp)
        refine t_q rfl rfl trivial (.slice (some ⟨gd, od, none⟩) 1 cd) (fun W hW => by (go_simp; try omega)) ?_
        go_simp
        refine t_e rfl rfl fun K hK => ?_
        go_simp
        refine hK _ _ trivial ?_
        clear hK K
        change wpT _ _ _ _ _ _ ((wA).drew.alloc (.cells #[] 3))
        have hmB : OwnN 3 .i64 ((wA).drew.alloc (.cells #[] 3)) (wA).heap.size (.slice (some ⟨(wA).heap.size, 0, none⟩) 0 0) [] := OwnN.made _ _ (wA).drew _ (Nat.le_refl _)
        have hbB : Below (wA).heap.size wA ((wA).drew.alloc (.cells #[] 3)) := (below_drewN (Below.refl _ _) 1).alloc (Nat.le_refl _) _
        refine t_e rfl rfl fun K hK => ?_
        refine op_append_nums (.tmp 43) (.tmp 46) 42 rfl .i64 3 8 Tryz.underlying42 info_int (wA).heap.size wA _ [] rfl hmB hbB (by simp) _ 27 _ (D.drop 1) rfl (by rw [List.length_drop, ld]) ⟨_, _, rfl, (Ns.drewN (by have := Nd.sub 1 27; rwa [List.take_of_length_le (by rw [List.length_drop, ld]; decide)] at this) 1).alloc _⟩ (by simp) (by omega) fun x1B w1B hx1B hy1B hz1B => ?_
        refine hK _ _ trivial ?_
        clear hK K
        go_simp
        refine t_e rfl rfl fun K hK => ?_
        refine op_append_nums (.tmp 47) (.tmp 50) 42 rfl .i64 3 8 Tryz.underlying42 info_int (wA).heap.size wA _ ([] ++ D.drop 1) rfl hx1B hy1B hy1B.size _ 1 _ (D.take 1) rfl (by rw [List.length_take, ld]; decide) ⟨_, _, rfl, (by have := (Nd.below hy1B kd).sub 0 1; simpa using this)⟩ (by rw [List.nil_append, List.length_drop, ld]; decide) (by omega) fun x2B wB hx2B hy2B hz2B => ?_
        refine hK _ _ trivial ?_
        clear hK K
        go_simp
        refine t_q rfl rfl trivial _ (fun W hW => by (go_simp; rfl)) ?_
        go_simp
        refine t_done ?_
        rw [List.nil_append] at hx2B
        have hLB : (D.drop 1 ++ D.take 1).length = 28 := by rw [List.length_append, List.length_drop, List.length_take, ld]; decide
        obtain ⟨gB, cpB, rfl, hgB, hcpB, hltB, hNB⟩ := hx2B.at_ (by intro h; rw [h] at hLB; cases hLB)
        rw [hLB] at hcpB ⊢
        clear hx1B hx2B hmB
        have hAN := hNA.below hy2B hltA
        have hbw : Below wr.heap.size wr wB := hy2A.trans (hy2B.mono hy2A.size)
        have hmE : OwnN 3 .i64 (wB.alloc (.cells #[] 3)) wB.heap.size (.slice (some ⟨wB.heap.size, 0, none⟩) 0 0) [] := OwnN.made _ _ wB _ (Nat.le_refl _)
        have hbE : Below wB.heap.size wB (wB.alloc (.cells #[] 3)) := (Below.refl _ _).alloc (Nat.le_refl _) _
        have hltA2 : gA < wB.heap.size := Nat.lt_of_lt_of_le hltA hy2B.size
        obtain ⟨CA, hCA⟩ : ∃ CA, C.drop 1 ++ C.take 1 = CA := ⟨_, rfl⟩
        obtain ⟨DA, hDA⟩ : ∃ DA, D.drop 1 ++ D.take 1 = DA := ⟨_, rfl⟩
        rw [hCA] at hAN hLA HC1
        rw [hDA] at hNB hLB HD1
        rw [HC1.out, HD1.out] at HKR1
        clear hCA hDA hNA
        have HLA := Lib.hid hLA; clear hLA
        have HLB := Lib.hid hLB; clear hLB
        go_wp2_with (first
          | (at_builtin; refine wpList_append_nums rfl (.tmp 53) (.tmp 54) 42 rfl .i64 3 8 Tryz.underlying42 info_int wB.heap.size wB _ [] rfl hmE hbE (by simp) _ 28 _ CA rfl HLA.out ⟨_, _, rfl, hAN.alloc _⟩ (by simp) (by omega) ?_; intro x3 w3 hx3 hy3 hz3)
          | (at_builtin; refine wpList_append_nums rfl (.tmp 55) (.tmp 56) 42 rfl .i64 3 8 Tryz.underlying42 info_int wB.heap.size wB _ ([] ++ CA) rfl hx3 hy3 hy3.size _ 28 _ DA rfl HLB.out ⟨_, _, rfl, hNB.below hy3 hltB⟩ (by rw [List.nil_append, HLA.out]; decide) (by omega) ?_; intro x4 w4 hx4 hy4 hz4; rw [List.nil_append] at hx4; obtain ⟨A4, c4, rfl, -, hN4⟩ := hx4.form))
        have hL4 : (CA ++ DA).length = 56 := by rw [List.length_append, HLA.out, HLB.out]
        have HP2 := Lib.hid (fun (tab : ByteArray) (ht : Tab tab 56 psPC2) W hA => perm3_any (CA ++ DA) A4 c4 tab 56 psPC2 ht (by decide) (by rw [hL4]; decide) W hA)
        rw [← HKR1.out, hL4] at HP2
        rw [show CA.length + DA.length = 56 by rw [HLA.out, HLB.out]]
        refine (HP2.out _ (tab_of (by kernel_rfl)) _ hN4).mono ?_
        rintro e w5 ⟨⟨v5, rfl, hv5⟩, hb5⟩
        have hl48 := keyR_len key (q - 1)
        obtain ⟨g5, c5, rfl, hg5, hc5, hlt5, hN5⟩ := hv5.at_ (by intro h; rw [h] at hl48; cases hl48)
        rw [hl48]
        have hbw5 : Below wr.heap.size wr w5 := hbw.trans ((hy4.mono hbw.size).trans (hb5.mono (Nat.le_trans hbw.size hy4.size)))
        have hbw6 : Below wr.heap.size wr (w5.alloc (.cells #[.slice (some ⟨g5, 0, none⟩) 48 c5] 42)) := hbw5.alloc hbw5.size _
        have hu5 : (w5.alloc (.cells #[.slice (some ⟨g5, 0, none⟩) 48 c5] 42)).cell? ⟨w5.heap.size, 0, none⟩ = some (.slice (some ⟨g5, 0, none⟩) 48 c5) := (Blk.new w5 42 #[.slice (some ⟨g5, 0, none⟩) 48 c5]).cell 0
        clear hv5 hx4 hx3 HP2 hmE hbE
        go_wp2_with (at_builtin; go_loud (refine wpList_append_one rfl (.tmp 52) (.tmp 59) 168 rfl 42 24 Tryz.underlying168 info_ints w.heap.size _ (q - 1) vs rfl (owns_below hvs hbw6 (Nat.le_refl _)) (Nat.le_trans hbel.size hbw6.size) w5.heap.size 0 1 (.slice (some ⟨g5, 0, none⟩) 48 c5) rfl hu5 rfl (by omega) (by omega) ?_); intro v6 w6 h61 h62 h63)
        go_wp2
        go_roundw
        case rel =>
          have hq' : q + 1 - 1 = q - 1 + 1 := by omega
          have hWB : Below wB.heap.size wB (w5.alloc (.cells #[.slice (some ⟨g5, 0, none⟩) 48 c5] 42)) := (hy4.trans (hb5.mono hy4.size)).alloc (hy4.trans (hb5.mono hy4.size)).size _
          refine ⟨q + 1, by omega, by omega, by go_num, ?_, ?_, ?_, ?_⟩
          · rw [hq', HC1.out]
            exact HalfAt.push ⟨gA, 0, cpA, rfl, hcpA, HLA.out, hAN.below hWB hltA2, Nat.lt_of_lt_of_le hltA2 hWB.size, fun h => by have := (hvlt _ h).2; omega⟩ h62 h63
          · rw [hq', HD1.out]
            exact HalfAt.push ⟨gB, 0, cpB, rfl, hcpB, HLB.out, hNB.below hWB hltB, Nat.lt_of_lt_of_le hltB hWB.size, fun h => by have := (hvlt _ h).2; have := hy2A.size; omega⟩ h62 h63
          · rw [hq']
            refine KeysAt.push (fun j hj => ?_) (by rw [HVN.out]; omega) (by simp; omega) hl48 (hN5.alloc _) (fun h => by have := (hvlt _ h).2; have := hbw.size; have := hy4.size; omega) h61 h62 h63
            obtain ⟨u, hu, hr, hne⟩ := hrows j hj
            exact ⟨u, hu, hr.below hbw6 (Nat.le_refl _), hne⟩
          · exact (hbel.trans (hbw6.mono hbel.size)).grown h62 (Nat.le_trans hbel.size hbw6.size) (fun k hk => (hvlt k hk).1)
        case measure => simp [intOf]; omega
        
      · have t0 : ((q : Int) == 1) = false := by rw [beq_eq_false_iff_ne]; omega
        have t1 : ((q : Int) == 2) = false := by rw [beq_eq_false_iff_ne]; omega
        have t2 : ((q : Int) == 9) = false := by rw [beq_eq_false_iff_ne]; omega
        have t3 : ((q : Int) == 16) = false := by rw [beq_eq_false_iff_ne]; omega
        have hrot : rotN (q - 1) = 2 := by unfold rotN; rw [if_neg (by omega)]
        have hC1 := HC0.out (q - 1)
        have hD1 := HD0.out (q - 1)
        rw [hrot, hCe] at hC1
        rw [hrot, hDe] at hD1
        clear hc hrot
        have HC1 := Lib.hid hC1; clear hC1
        have HD1 := Lib.hid hD1; clear hD1
        go_wp2_with fail
        refine wp_region_tree (.q 1 (.q 2 (.q 3 (.q 5 (.q 6 (.q 7 (.e [0] fun _ => .e [4] fun _ => .e [8] fun _ => .q 9 .done))))))) (fun _ => True) rfl (by kernel_rfl) (fun _ _ d _ _ h => by cases d <;> exact h) ?_
        iterate 2 (refine t_q rfl rfl trivial _ (fun W hW => by (go_simp; rfl)) ?_; go_simp)
        refine t_q rfl rfl trivial (.slice (some ⟨gc, oc + 2, none⟩) 26 (cc - 2)) (fun W hW => by (go_simp; try omega)) ?_
        go_simp
        iterate 2 (refine t_q rfl rfl trivial _ (fun W hW => by (go_simp; rfl)) ?_; go_simp)
        refine t_q rfl rfl trivial (.slice (some ⟨gc, oc, none⟩) 2 cc) (fun W hW => by (go_simp; try omega)) ?_
        go_simp
        refine t_e rfl rfl fun K hK => ?_
        go_simp
        refine hK _ _ trivial ?_
        clear hK K
        change wpT _ _ _ _ _ _ ((wr).drew.alloc (.cells #[] 3))
        have hmA : OwnN 3 .i64 ((wr).drew.alloc (.cells #[] 3)) (wr).heap.size (.slice (some ⟨(wr).heap.size, 0, none⟩) 0 0) [] := OwnN.made _ _ (wr).drew _ (Nat.le_refl _)
        have hbA : Below (wr).heap.size wr ((wr).drew.alloc (.cells #[] 3)) := (below_drewN (Below.refl _ _) 1).alloc (Nat.le_refl _) _
        refine t_e rfl rfl fun K hK => ?_
        refine op_append_nums (.tmp 34) (.tmp 37) 42 rfl .i64 3 8 Tryz.underlying42 info_int (wr).heap.size wr _ [] rfl hmA hbA (by simp) _ 26 _ (C.drop 2) rfl (by rw [List.length_drop, lc]) ⟨_, _, rfl, (Ns.drewN (by have := Nc.sub 2 26; rwa [List.take_of_length_le (by rw [List.length_drop, lc]; decide)] at this) 1).alloc _⟩ (by simp) (by omega) fun x1A w1A hx1A hy1A hz1A => ?_
        refine hK _ _ trivial ?_
        clear hK K
        go_simp
        refine t_e rfl rfl fun K hK => ?_
        refine op_append_nums (.tmp 38) (.tmp 41) 42 rfl .i64 3 8 Tryz.underlying42 info_int (wr).heap.size wr _ ([] ++ C.drop 2) rfl hx1A hy1A hy1A.size _ 2 _ (C.take 2) rfl (by rw [List.length_take, lc]; decide) ⟨_, _, rfl, (by have := (Nc.below hy1A kc).sub 0 2; simpa using this)⟩ (by rw [List.nil_append, List.length_drop, lc]; decide) (by omega) fun x2A wA hx2A hy2A hz2A => ?_
        refine hK _ _ trivial ?_
        clear hK K
        go_simp
        refine t_q rfl rfl trivial _ (fun W hW => by (go_simp; rfl)) ?_
        go_simp
        refine t_done ?_
        rw [List.nil_append] at hx2A
        have hLA : (C.drop 2 ++ C.take 2).length = 28 := by rw [List.length_append, List.length_drop, List.length_take, lc]; decide
        obtain ⟨gA, cpA, rfl, hgA, hcpA, hltA, hNA⟩ := hx2A.at_ (by intro h; rw [h] at hLA; cases hLA)
        rw [hLA] at hcpA ⊢
        clear hx1A hx2A hmA
        have Nd := Nd.below hy2A kd
        have kd : gd < wA.heap.size := Nat.lt_of_lt_of_le kd hy2A.size
        go_wp2_with fail
        refine wp_region_tree (.q 1 (.q 2 (.q 3 (.q 5 (.q 6 (.q 7 (.e [0] fun _ => .e [4] fun _ => .e [8] fun _ => .q 9 .done))))))) (fun _ => True) rfl (by kernel_rfl) (fun _ _ d _ _ h => by cases d <;> exact h) ?_
        iterate 2 (refine t_q rfl rfl trivial _ (fun W hW => by (go_simp; rfl)) ?_; go_simp)
        refine t_q rfl rfl trivial (.slice (some ⟨gd, od + 2, none⟩) 26 (cd - 2)) (fun W hW => by (go_simp; try omega)) ?_
        go_simp
        iterate 2 (refine t_q rfl rfl trivial _ (fun W hW => by (go_simp; rfl)) ?_; go_simp)
        refine t_q rfl rfl trivial (.slice (some ⟨gd, od, none⟩) 2 cd) (fun W hW => by (go_simp; try omega)) ?_
        go_simp
        refine t_e rfl rfl fun K hK => ?_
        go_simp
        refine hK _ _ trivial ?_
        clear hK K
        change wpT _ _ _ _ _ _ ((wA).drew.alloc (.cells #[] 3))
        have hmB : OwnN 3 .i64 ((wA).drew.alloc (.cells #[] 3)) (wA).heap.size (.slice (some ⟨(wA).heap.size, 0, none⟩) 0 0) [] := OwnN.made _ _ (wA).drew _ (Nat.le_refl _)
        have hbB : Below (wA).heap.size wA ((wA).drew.alloc (.cells #[] 3)) := (below_drewN (Below.refl _ _) 1).alloc (Nat.le_refl _) _
        refine t_e rfl rfl fun K hK => ?_
        refine op_append_nums (.tmp 43) (.tmp 46) 42 rfl .i64 3 8 Tryz.underlying42 info_int (wA).heap.size wA _ [] rfl hmB hbB (by simp) _ 26 _ (D.drop 2) rfl (by rw [List.length_drop, ld]) ⟨_, _, rfl, (Ns.drewN (by have := Nd.sub 2 26; rwa [List.take_of_length_le (by rw [List.length_drop, ld]; decide)] at this) 1).alloc _⟩ (by simp) (by omega) fun x1B w1B hx1B hy1B hz1B => ?_
        refine hK _ _ trivial ?_
        clear hK K
        go_simp
        refine t_e rfl rfl fun K hK => ?_
        refine op_append_nums (.tmp 47) (.tmp 50) 42 rfl .i64 3 8 Tryz.underlying42 info_int (wA).heap.size wA _ ([] ++ D.drop 2) rfl hx1B hy1B hy1B.size _ 2 _ (D.take 2) rfl (by rw [List.length_take, ld]; decide) ⟨_, _, rfl, (by have := (Nd.below hy1B kd).sub 0 2; simpa using this)⟩ (by rw [List.nil_append, List.length_drop, ld]; decide) (by omega) fun x2B wB hx2B hy2B hz2B => ?_
        refine hK _ _ trivial ?_
        clear hK K
        go_simp
        refine t_q rfl rfl trivial _ (fun W hW => by (go_simp; rfl)) ?_
        go_simp
        refine t_done ?_
        rw [List.nil_append] at hx2B
        have hLB : (D.drop 2 ++ D.take 2).length = 28 := by rw [List.length_append, List.length_drop, List.length_take, ld]; decide
        obtain ⟨gB, cpB, rfl, hgB, hcpB, hltB, hNB⟩ := hx2B.at_ (by intro h; rw [h] at hLB; cases hLB)
        rw [hLB] at hcpB ⊢
        clear hx1B hx2B hmB
        have hAN := hNA.below hy2B hltA
        have hbw : Below wr.heap.size wr wB := hy2A.trans (hy2B.mono hy2A.size)
        have hmE : OwnN 3 .i64 (wB.alloc (.cells #[] 3)) wB.heap.size (.slice (some ⟨wB.heap.size, 0, none⟩) 0 0) [] := OwnN.made _ _ wB _ (Nat.le_refl _)
        have hbE : Below wB.heap.size wB (wB.alloc (.cells #[] 3)) := (Below.refl _ _).alloc (Nat.le_refl _) _
        have hltA2 : gA < wB.heap.size := Nat.lt_of_lt_of_le hltA hy2B.size
        obtain ⟨CA, hCA⟩ : ∃ CA, C.drop 2 ++ C.take 2 = CA := ⟨_, rfl⟩
        obtain ⟨DA, hDA⟩ : ∃ DA, D.drop 2 ++ D.take 2 = DA := ⟨_, rfl⟩
        rw [hCA] at hAN hLA HC1
        rw [hDA] at hNB hLB HD1
        rw [HC1.out, HD1.out] at HKR1
        clear hCA hDA hNA
        have HLA := Lib.hid hLA; clear hLA
        have HLB := Lib.hid hLB; clear hLB
        go_wp2_with (first
          | (at_builtin; refine wpList_append_nums rfl (.tmp 53) (.tmp 54) 42 rfl .i64 3 8 Tryz.underlying42 info_int wB.heap.size wB _ [] rfl hmE hbE (by simp) _ 28 _ CA rfl HLA.out ⟨_, _, rfl, hAN.alloc _⟩ (by simp) (by omega) ?_; intro x3 w3 hx3 hy3 hz3)
          | (at_builtin; refine wpList_append_nums rfl (.tmp 55) (.tmp 56) 42 rfl .i64 3 8 Tryz.underlying42 info_int wB.heap.size wB _ ([] ++ CA) rfl hx3 hy3 hy3.size _ 28 _ DA rfl HLB.out ⟨_, _, rfl, hNB.below hy3 hltB⟩ (by rw [List.nil_append, HLA.out]; decide) (by omega) ?_; intro x4 w4 hx4 hy4 hz4; rw [List.nil_append] at hx4; obtain ⟨A4, c4, rfl, -, hN4⟩ := hx4.form))
        have hL4 : (CA ++ DA).length = 56 := by rw [List.length_append, HLA.out, HLB.out]
        have HP2 := Lib.hid (fun (tab : ByteArray) (ht : Tab tab 56 psPC2) W hA => perm3_any (CA ++ DA) A4 c4 tab 56 psPC2 ht (by decide) (by rw [hL4]; decide) W hA)
        rw [← HKR1.out, hL4] at HP2
        rw [show CA.length + DA.length = 56 by rw [HLA.out, HLB.out]]
        refine (HP2.out _ (tab_of (by kernel_rfl)) _ hN4).mono ?_
        rintro e w5 ⟨⟨v5, rfl, hv5⟩, hb5⟩
        have hl48 := keyR_len key (q - 1)
        obtain ⟨g5, c5, rfl, hg5, hc5, hlt5, hN5⟩ := hv5.at_ (by intro h; rw [h] at hl48; cases hl48)
        rw [hl48]
        have hbw5 : Below wr.heap.size wr w5 := hbw.trans ((hy4.mono hbw.size).trans (hb5.mono (Nat.le_trans hbw.size hy4.size)))
        have hbw6 : Below wr.heap.size wr (w5.alloc (.cells #[.slice (some ⟨g5, 0, none⟩) 48 c5] 42)) := hbw5.alloc hbw5.size _
        have hu5 : (w5.alloc (.cells #[.slice (some ⟨g5, 0, none⟩) 48 c5] 42)).cell? ⟨w5.heap.size, 0, none⟩ = some (.slice (some ⟨g5, 0, none⟩) 48 c5) := (Blk.new w5 42 #[.slice (some ⟨g5, 0, none⟩) 48 c5]).cell 0
        clear hv5 hx4 hx3 HP2 hmE hbE
        go_wp2_with (at_builtin; go_loud (refine wpList_append_one rfl (.tmp 52) (.tmp 59) 168 rfl 42 24 Tryz.underlying168 info_ints w.heap.size _ (q - 1) vs rfl (owns_below hvs hbw6 (Nat.le_refl _)) (Nat.le_trans hbel.size hbw6.size) w5.heap.size 0 1 (.slice (some ⟨g5, 0, none⟩) 48 c5) rfl hu5 rfl (by omega) (by omega) ?_); intro v6 w6 h61 h62 h63)
        go_wp2
        go_roundw
        case rel =>
          have hq' : q + 1 - 1 = q - 1 + 1 := by omega
          have hWB : Below wB.heap.size wB (w5.alloc (.cells #[.slice (some ⟨g5, 0, none⟩) 48 c5] 42)) := (hy4.trans (hb5.mono hy4.size)).alloc (hy4.trans (hb5.mono hy4.size)).size _
          refine ⟨q + 1, by omega, by omega, by go_num, ?_, ?_, ?_, ?_⟩
          · rw [hq', HC1.out]
            exact HalfAt.push ⟨gA, 0, cpA, rfl, hcpA, HLA.out, hAN.below hWB hltA2, Nat.lt_of_lt_of_le hltA2 hWB.size, fun h => by have := (hvlt _ h).2; omega⟩ h62 h63
          · rw [hq', HD1.out]
            exact HalfAt.push ⟨gB, 0, cpB, rfl, hcpB, HLB.out, hNB.below hWB hltB, Nat.lt_of_lt_of_le hltB hWB.size, fun h => by have := (hvlt _ h).2; have := hy2A.size; omega⟩ h62 h63
          · rw [hq']
            refine KeysAt.push (fun j hj => ?_) (by rw [HVN.out]; omega) (by simp; omega) hl48 (hN5.alloc _) (fun h => by have := (hvlt _ h).2; have := hbw.size; have := hy4.size; omega) h61 h62 h63
            obtain ⟨u, hu, hr, hne⟩ := hrows j hj
            exact ⟨u, hu, hr.below hbw6 (Nat.le_refl _), hne⟩
          · exact (hbel.trans (hbw6.mono hbel.size)).grown h62 (Nat.le_trans hbel.size hbw6.size) (fun k hk => (hvlt k hk).1)
        case measure => simp [intOf]; omega
        
    · obtain rfl : q = 17 := by omega
      go_wp2
      go_ret
      exact ⟨⟨_, rfl, hKy⟩, hbel⟩
end Go.Proofs.YtnkgglmfoimbhaaGreatDoor
