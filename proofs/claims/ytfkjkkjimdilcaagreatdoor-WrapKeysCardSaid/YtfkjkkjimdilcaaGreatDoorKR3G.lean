/- The contract of lockboxref03.Keys: the walk. (Printed by wip/gen_keys.py.) The contracts of lockboxref03.Block, Triple. -/
import Derived.Test.YtfkjkkjimdilcaaGreatDoorKR3
import Derived.Test.YtfkjkkjimdilcaaGreatDoorKConv
/- The contract of lockboxref03.Keys: the walk. (Printed by wip/gen_keys.py.) -/
namespace Go.Proofs.YtfkjkkjimdilcaaGreatDoor
open Go Go.RowKit Pr

theorem Ns.alloc {kd : IntKind} {w : World} {b o : Nat} {l : List Nat} (h : Ns kd w b o l) (ob : Obj) : Ns kd (w.alloc ob) b o l := fun j v hv => by
  have hc := h j v hv
  have hb := block_lt_of_cell hc
  rw [World.cell?_alloc_lt w ob _ hb]; exact hc
/-- half of the key's bits, somewhere but in the row v -/
def HalfAt (w : World) (v c : Value) (l : List Nat) : Prop := ∃ g o cp, c = .slice (some ⟨g, o, none⟩) 28 cp ∧ 28 ≤ cp ∧ l.length = 28 ∧ Ns .i64 w g o l ∧ g < w.heap.size ∧ v.ownBlock ≠ some g
/-- the round keys that are made -/
def KeysAt (key : List Nat) (B : Nat) (w : World) (v : Value) (n : Nat) : Prop := ∃ vs : List Value, w.ownsRow B 28 1 v n vs ∧ ∀ j, j < n → ∃ u, vs[j]? = some u ∧ RowOf w u (keyR key j) ∧ v.ownBlock ≠ u.ownBlock
theorem owns_below {w w' : World} {e : TypeId} {v : Value} {n B C : Nat} {vs : List Value} (h1 : w.ownsRow B e 1 v n vs) (hb : Below C w w') (hC : w.heap.size ≤ C) : w'.ownsRow B e 1 v n vs := by
  rcases h1 with ⟨e, h1⟩
  refine ⟨e, ?_⟩
  rcases h1 with h1 | ⟨g, cap, cur, rfl, hg, hgb, r⟩
  · exact .inl h1
  · refine .inr ⟨g, cap, cur, rfl, hg, (hb.block g ?_).trans hgb, r⟩
    rcases Nat.lt_or_ge g w.heap.size with hlt | hge
    · omega
    · rw [Array.getElem?_eq_none hge] at hgb; cases hgb
theorem KeysAt.below {w w' : World} {v : Value} {key : List Nat} {n B C : Nat} (h : KeysAt key B w v n) (hb : Below C w w') (hC : w.heap.size ≤ C) : KeysAt key B w' v n := by
  obtain ⟨vs, h1, h2⟩ := h
  refine ⟨vs, owns_below h1 hb hC, fun j hj => ?_⟩
  obtain ⟨u, hu, hr, hne⟩ := h2 j hj
  exact ⟨u, hu, hr.below hb hC, hne⟩
theorem KeysAt.push {W W6 : World} {key : List Nat} {B n g5 cp5 : Nat} {v v6 : Value} {vs : List Value} (hrows : ∀ j, j < n → ∃ u, vs[j]? = some u ∧ RowOf W u (keyR key j) ∧ v.ownBlock ≠ u.ownBlock) (hn : vs.length = n)
    (hlt : g5 < W.heap.size) (hl : (keyR key n).length = 48) (hN : Ns .i64 W g5 0 (keyR key n)) (hne : v.ownBlock ≠ some g5)
    (h1 : W6.ownsRow B 28 1 v6 (n + 1) (vs ++ [.slice (some ⟨g5, 0, none⟩) 48 cp5])) (h2 : W.grownBy W6 v.ownBlock) (h3 : v6.ownBlock = v.ownBlock ∨ v6.ownBlock = some W.heap.size) : KeysAt key B W6 v6 (n + 1) := by
  have hb : ∀ g, g < W.heap.size → v.ownBlock ≠ some g → v6.ownBlock ≠ some g := fun g hg hv => by
    rcases h3 with h3 | h3
    · rw [h3]; exact hv
    · rw [h3]; intro h; cases h; omega
  refine ⟨_, h1, fun j hj => ?_⟩
  by_cases e : j = n
  · subst e
    refine ⟨.slice (some ⟨g5, 0, none⟩) 48 cp5, by rw [List.getElem?_append_right (by omega), hn, Nat.sub_self]; rfl, ⟨g5, cp5, by rw [hl], Nat.lt_of_lt_of_le hlt h2.size, fun i u hi => ?_⟩, hb g5 hlt hne⟩
    exact (World.cell?_of_block (h2.block g5 hlt (Ne.symm hne))).trans (hN i u hi)
  · obtain ⟨u, hu, hr, hv⟩ := hrows j (by omega)
    refine ⟨u, by rw [List.getElem?_append_left (by omega)]; exact hu, hr.keep h2 (Ne.symm hv), ?_⟩
    obtain ⟨g, cap, rfl, hg, _⟩ := hr
    exact hb g hg hv
theorem HalfAt.push {W W6 : World} {v v6 c : Value} {l : List Nat} (h : HalfAt W v c l) (h2 : W.grownBy W6 v.ownBlock) (h3 : v6.ownBlock = v.ownBlock ∨ v6.ownBlock = some W.heap.size) : HalfAt W6 v6 c l := by
  obtain ⟨g, o, cp, rfl, a1, a2, a3, a4, a5⟩ := h
  refine ⟨g, o, cp, rfl, a1, a2, fun j u hj => (World.cell?_of_block (h2.block g a4 (Ne.symm a5))).trans (a3 j u hj), Nat.lt_of_lt_of_le a4 h2.size, ?_⟩
  rcases h3 with h3 | h3
  · rw [h3]; exact a5
  · rw [h3]; intro h; cases h; omega
theorem keyR_len (key : List Nat) (r : Nat) : (keyR key r).length = 48 := by unfold keyR; rw [permR_len]; rfl
theorem refC_len (c : List Nat) (h : c.length = 28) : ∀ r, (refC c r).length = 28
  | 0 => h
  | r + 1 => by
    have := refC_len c h r
    have h2 := rotN_le r
    rw [refC, List.length_append, List.length_drop, List.length_take, this]; omega

set_option maxHeartbeats 8000000 in
set_option maxRecDepth 100000 in
theorem keys3_any (key : List Nat) (hk : key.length = 8) (gk : ∀ c ∈ key, c < 256) (A : Option Addr) (cp : Nat) (w : World) (hA : At w A key) :
    Calls Tryz.prog 145 #[.slice A key.length cp] w fun e w' => (∃ v, e = .returned v ∧ KeysAt key w.heap.size w' v 16) ∧ Below w.heap.size w w' := by
  have HB := Lib.hid (fun W hA => bits_any key gk (by omega) A cp W hA)
  have hbl := bitsL_len key
  rw [hk] at hbl
  have hC0 : ∀ r, refC ((permR (bitsB key) psPC1).take 28) (r + 1) = (refC ((permR (bitsB key) psPC1).take 28) r).drop (rotN r) ++ (refC ((permR (bitsB key) psPC1).take 28) r).take (rotN r) := fun r => rfl
  have hD0 : ∀ r, refC ((permR (bitsB key) psPC1).drop 28) (r + 1) = (refC ((permR (bitsB key) psPC1).drop 28) r).drop (rotN r) ++ (refC ((permR (bitsB key) psPC1).drop 28) r).take (rotN r) := fun r => rfl
  have hKR : ∀ r, keyR key r = permR (refC ((permR (bitsB key) psPC1).take 28) (r + 1) ++ refC ((permR (bitsB key) psPC1).drop 28) (r + 1)) psPC2 := fun r => rfl
  rw [← bitsL_eq] at hC0 hD0 hKR
  have h56 := permR_len (bitsL key) psPC1
  rw [show psPC1.length = 56 from rfl] at h56
  generalize bitsL key = L at *
  have HP := Lib.hid (fun A' c' (tab : ByteArray) (ht : Tab tab 64 psPC1) W hA => perm3_any L A' c' tab 64 psPC1 ht (by decide) (by rw [hbl]; decide) W hA)
  rw [hbl] at HP
  generalize permR L psPC1 = M at *
  have hl0 : (M.take 28).length = 28 := by rw [List.length_take, h56]; rfl
  have hl1 : (M.drop 28).length = 28 := by rw [List.length_drop, h56]
  have HLC := Lib.hid (refC_len _ hl0)
  have HLD := Lib.hid (refC_len _ hl1)
  have hC00 : refC (M.take 28) 0 = M.take 28 := rfl
  have hD00 : refC (M.drop 28) 0 = M.drop 28 := rfl
  have HBL := Lib.hid hbl; clear hbl
  have H56 := Lib.hid h56; clear h56
  have HMC := Lib.hid hC00; clear hC00
  have HMD := Lib.hid hD00; clear hD00
  generalize refC (M.take 28) = RC at *
  generalize refC (M.drop 28) = RD at *
  have HC0 := Lib.hid hC0; clear hC0
  have HD0 := Lib.hid hD0; clear hD0
  have HKR := Lib.hid hKR; clear hKR
  clear hl0 hl1 gk
  rw [hk] at HB ⊢
  clear hk
  go_enter Tryz.func145, Tryz.ntmps145
  go_wp2_with fail
  refine (HB.out _ hA).mono ?_
  rintro e w1 ⟨⟨v, rfl, hv⟩, hb1⟩
  obtain ⟨A1, c1, rfl, -, hN1⟩ := hv.form
  rw [HBL.out]
  clear hv HB
  go_wp2_with fail
  refine (HP.out _ _ _ (tab_of (by kernel_rfl)) _ hN1).mono ?_
  rintro e w2 ⟨⟨v, rfl, hv⟩, hb2⟩
  obtain ⟨g, cap, rfl, -, hcap, hg, hN⟩ := hv.at_ (by intro h; have := H56.out; rw [h] at this; cases this)
  rw [H56.out] at hcap ⊢
  have hb2' : Below w.heap.size w w2 := hb1.trans (hb2.mono hb1.size)
  have hci : (56 : Int) ≤ (cap : Int) := by omega
  have hci2 : (28 : Int) ≤ (cap : Int) := by omega
  have hci3 : ¬ cap = 28 := by omega
  have hHC : HalfAt w2 (.slice none 0 0) (.slice (some ⟨g, 0, none⟩) 28 cap) (RC 0) := ⟨g, 0, cap, rfl, by omega, by rw [HLC.out], by have := hN.sub 0 28; rw [HMC.out]; simpa using this, hg, by intro h; cases h⟩
  have hHD : HalfAt w2 (.slice none 0 0) (.slice (some ⟨g, 28, none⟩) 28 (cap - 28)) (RD 0) := ⟨g, 28, cap - 28, rfl, by omega, by rw [HLD.out], by have := hN.sub 28 28; rw [HMD.out]; rwa [Nat.zero_add, List.take_of_length_le (by rw [List.length_drop, H56.out]; decide)] at this, hg, by intro h; cases h⟩
  have hKA : KeysAt key w.heap.size w2 (.slice none 0 0) 0 := ⟨[], World.ownsRow_nil _ _ _ _, fun j h => by omega⟩
  clear hv hN hN1 hb1 hb2 HP
  have HHC := Lib.hid hHC; clear hHC
  have HHD := Lib.hid hHD; clear hHD
  have HKA := Lib.hid hKA; clear hKA
  go_wp2
  go_loopw [4, 5, 6, 7] (fun c d v i wr => ∃ q : Nat, 1 ≤ q ∧ q ≤ 17 ∧ i = .int .i64 q ∧ HalfAt wr v c (RC (q - 1)) ∧ HalfAt wr v d (RD (q - 1)) ∧ KeysAt key w.heap.size wr v (q - 1) ∧ Below w.heap.size w wr) (fun _ _ _ i _ => 17 - (intOf i).toNat)
  case atStart => exact ⟨1, by omega, by omega, rfl, HHC.out, HHD.out, HKA.out, hb2'⟩
  case round =>
    obtain ⟨q, hq1, hq17, rfl, ⟨gc, oc, cc, rfl, hcc, lc, Nc, kc, nc⟩, ⟨gd, od, cd, rfl, hcd, ld, Nd, kd, nd⟩, hKy, hbel⟩ := hrel
    by_cases hq : q ≤ 16
    · have hqi : (q : Int) ≤ 16 := by omega
      obtain ⟨C, hCe⟩ : ∃ C, RC (q - 1) = C := ⟨_, rfl⟩
      obtain ⟨D, hDe⟩ : ∃ D, RD (q - 1) = D := ⟨_, rfl⟩
      rw [hCe] at lc Nc
      rw [hDe] at ld Nd
      have hkr := HKR.out (q - 1)
      have hcc1 : (28 : Int) ≤ (cc : Int) := by omega
      have hcd1 : (28 : Int) ≤ (cd : Int) := by omega
      have hcc2 : (1 : Int) ≤ (cc : Int) := by omega
      have hcd2 : (1 : Int) ≤ (cd : Int) := by omega
      have hcc3 : (2 : Int) ≤ (cc : Int) := by omega
      have hcd3 : (2 : Int) ≤ (cd : Int) := by omega
      have HKR1 := Lib.hid hkr; clear hkr
      obtain ⟨vs, hvs, hrows⟩ := hKy
      have hvn := hvs.1
      have hvlt := World.ownsRow.lt hvs
      have HVN := Lib.hid hvn; clear hvn
      rcases (by omega : (q = 1) ∨ (q ≠ 1 ∧ q = 2) ∨ (q ≠ 1 ∧ q ≠ 2 ∧ q = 9) ∨ (q ≠ 1 ∧ q ≠ 2 ∧ q ≠ 9 ∧ q = 16) ∨ (q ≠ 1 ∧ q ≠ 2 ∧ q ≠ 9 ∧ q ≠ 16)) with hc | hc | hc | hc | hc
      · have t0 : ((q : Int) == 1) = true := by rw [beq_iff_eq]; omega
        have hrot : rotN (q - 1) = 1 := by unfold rotN; rw [if_pos (by omega)]
        have hC1 := HC0.out (q - 1)
        have hD1 := HD0.out (q - 1)
        rw [hrot, hCe] at hC1
        rw [hrot, hDe] at hD1
        clear hc hrot
        have HC1 := Lib.hid hC1; clear hC1
        have HD1 := Lib.hid hD1; clear hD1
        go_wp2_with fail
        refine wp_region_tree (.q 1 (.q 2 (.q 3 (.q 5 (.q 6 (.q 7 (.e [0] fun _ => .e [4] fun _ => .e [8] fun _ => .q 9 .done))))))) (fun _ => True) rfl (by kernel_rfl) (fun _ _ d _ _ h => by cases d <;> exact h) ?_
        iterate 2 (refine t_q rfl rfl trivial _ (fun W hW => by (go_simp; rfl)) ?_; go_simp)
        refine t_q rfl rfl trivial (.slice (some ⟨gc, oc + 1, none⟩) 27 (cc - 1)) (fun W hW => by (go_simp; try omega)) ?_
        go_simp
        iterate 2 (refine t_q rfl rfl trivial _ (fun W hW => by (go_simp; rfl)) ?_; go_simp)
        refine t_q rfl rfl trivial (.slice (some ⟨gc, oc, none⟩) 1 cc) (fun W hW => by (go_simp; try omega)) ?_
        go_simp
        refine t_e rfl rfl fun K hK => ?_
        go_simp
        refine hK _ _ trivial ?_
        clear hK K
        change wpT _ _ _ _ _ _ ((wr).drew.alloc (.cells #[] 3))
        have hmA : OwnN 3 .i64 ((wr).drew.alloc (.cells #[] 3)) (wr).heap.size (.slice (some ⟨(wr).heap.size, 0, none⟩) 0 0) [] := OwnN.made _ _ (wr).drew _ (Nat.le_refl _)
        have hbA : Below (wr).heap.size wr ((wr).drew.alloc (.cells #[] 3)) := (below_drewN (Below.refl _ _) 1).alloc (Nat.le_refl _) _
        refine t_e rfl rfl fun K hK => ?_
        refine op_append_nums (.tmp 34) (.tmp 37) 28 rfl .i64 3 8 Tryz.underlying28 info_int (wr).heap.size wr _ [] rfl hmA hbA (by simp) _ 27 _ (C.drop 1) rfl (by rw [List.length_drop, lc]) ⟨_, _, rfl, (Ns.drewN (by have := Nc.sub 1 27; rwa [List.take_of_length_le (by rw [List.length_drop, lc]; decide)] at this) 1).alloc _⟩ (by simp) (by omega) fun x1A w1A hx1A hy1A hz1A => ?_
        refine hK _ _ trivial ?_
        clear hK K
        go_simp
        refine t_e rfl rfl fun K hK => ?_
        refine op_append_nums (.tmp 38) (.tmp 41) 28 rfl .i64 3 8 Tryz.underlying28 info_int (wr).heap.size wr _ ([] ++ C.drop 1) rfl hx1A hy1A hy1A.size _ 1 _ (C.take 1) rfl (by rw [List.length_take, lc]; decide) ⟨_, _, rfl, (by have := (Nc.below hy1A kc).sub 0 1; simpa using this)⟩ (by rw [List.nil_append, List.length_drop, lc]; decide) (by omega) fun x2A wA hx2A hy2A hz2A => ?_
        refine hK _ _ trivial ?_
        clear hK K
        go_simp
        refine t_q rfl rfl trivial _ (fun W hW => by (go_simp; rfl)) ?_
        go_simp
        refine t_done ?_
        rw [List.nil_append] at hx2A
        have hLA : (C.drop 1 ++ C.take 1).length = 28 := by rw [List.length_append, List.length_drop, List.length_take, lc]; decide
        obtain ⟨gA, cpA, rfl, hgA, hcpA, hltA, hNA⟩ := hx2A.at_ (by intro h; rw [h] at hLA; cases hLA)
        rw [hLA] at hcpA ⊢
        clear hx1A hx2A hmA
        have Nd := Nd.below hy2A kd
        have kd : gd < wA.heap.size := Nat.lt_of_lt_of_le kd hy2A.size
        go_wp2_with fail
        refine wp_region_tree (.q 1 (.q 2 (.q 3 (.q 5 (.q 6 (.q 7 (.e [0] fun _ => .e [4] fun _ => .e [8] fun _ => .q 9 .done))))))) (fun _ => True) rfl (by kernel_rfl) (fun _ _ d _ _ h => by cases d <;> exact h) ?_
        iterate 2 (refine t_q rfl rfl trivial _ (fun W hW => by (go_simp; rfl)) ?_; go_simp)
        refine t_q rfl rfl trivial (.slice (some ⟨gd, od + 1, none⟩) 27 (cd - 1)) (fun W hW => by (go_simp; try omega)) ?_
        go_simp
        iterate 2 (refine t_q rfl rfl trivial _ (fun W hW => by (go_simp; rfl)) ?_; go_simp)
        refine t_q rfl rfl trivial (.slice (some ⟨gd, od, none⟩) 1 cd) (fun W hW => by (go_simp; try omega)) ?_
        go_simp
        refine t_e rfl rfl fun K hK => ?_
        go_simp
        refine hK _ _ trivial ?_
        clear hK K
        change wpT _ _ _ _ _ _ ((wA).drew.alloc (.cells #[] 3))
        have hmB : OwnN 3 .i64 ((wA).drew.alloc (.cells #[] 3)) (wA).heap.size (.slice (some ⟨(wA).heap.size, 0, none⟩) 0 0) [] := OwnN.made _ _ (wA).drew _ (Nat.le_refl _)
        have hbB : Below (wA).heap.size wA ((wA).drew.alloc (.cells #[] 3)) := (below_drewN (Below.refl _ _) 1).alloc (Nat.le_refl _) _
        refine t_e rfl rfl fun K hK => ?_
        refine op_append_nums (.tmp 43) (.tmp 46) 28 rfl .i64 3 8 Tryz.underlying28 info_int (wA).heap.size wA _ [] rfl hmB hbB (by simp) _ 27 _ (D.drop 1) rfl (by rw [List.length_drop, ld]) ⟨_, _, rfl, (Ns.drewN (by have := Nd.sub 1 27; rwa [List.take_of_length_le (by rw [List.length_drop, ld]; decide)] at this) 1).alloc _⟩ (by simp) (by omega) fun x1B w1B hx1B hy1B hz1B => ?_
        refine hK _ _ trivial ?_
        clear hK K
        go_simp
        refine t_e rfl rfl fun K hK => ?_
        refine op_append_nums (.tmp 47) (.tmp 50) 28 rfl .i64 3 8 Tryz.underlying28 info_int (wA).heap.size wA _ ([] ++ D.drop 1) rfl hx1B hy1B hy1B.size _ 1 _ (D.take 1) rfl (by rw [List.length_take, ld]; decide) ⟨_, _, rfl, (by have := (Nd.below hy1B kd).sub 0 1; simpa using this)⟩ (by rw [List.nil_append, List.length_drop, ld]; decide) (by omega) fun x2B wB hx2B hy2B hz2B => ?_
        refine hK _ _ trivial ?_
        clear hK K
        go_simp
        refine t_q rfl rfl trivial _ (fun W hW => by (go_simp; rfl)) ?_
        go_simp
        refine t_done ?_
        rw [List.nil_append] at hx2B
        have hLB : (D.drop 1 ++ D.take 1).length = 28 := by rw [List.length_append, List.length_drop, List.length_take, ld]; decide
        obtain ⟨gB, cpB, rfl, hgB, hcpB, hltB, hNB⟩ := hx2B.at_ (by intro h; rw [h] at hLB; cases hLB)
        rw [hLB] at hcpB ⊢
        clear hx1B hx2B hmB
        have hAN := hNA.below hy2B hltA
        have hbw : Below wr.heap.size wr wB := hy2A.trans (hy2B.mono hy2A.size)
        have hmE : OwnN 3 .i64 (wB.alloc (.cells #[] 3)) wB.heap.size (.slice (some ⟨wB.heap.size, 0, none⟩) 0 0) [] := OwnN.made _ _ wB _ (Nat.le_refl _)
        have hbE : Below wB.heap.size wB (wB.alloc (.cells #[] 3)) := (Below.refl _ _).alloc (Nat.le_refl _) _
        have hltA2 : gA < wB.heap.size := Nat.lt_of_lt_of_le hltA hy2B.size
        obtain ⟨CA, hCA⟩ : ∃ CA, C.drop 1 ++ C.take 1 = CA := ⟨_, rfl⟩
        obtain ⟨DA, hDA⟩ : ∃ DA, D.drop 1 ++ D.take 1 = DA := ⟨_, rfl⟩
        rw [hCA] at hAN hLA HC1
        rw [hDA] at hNB hLB HD1
        rw [HC1.out, HD1.out] at HKR1
        clear hCA hDA hNA
        have HLA := Lib.hid hLA; clear hLA
        have HLB := Lib.hid hLB; clear hLB
        go_wp2_with (first
          | (at_builtin; refine wpList_append_nums rfl (.tmp 53) (.tmp 54) 28 rfl .i64 3 8 Tryz.underlying28 info_int wB.heap.size wB _ [] rfl hmE hbE (by simp) _ 28 _ CA rfl HLA.out ⟨_, _, rfl, hAN.alloc _⟩ (by simp) (by omega) ?_; intro x3 w3 hx3 hy3 hz3)
          | (at_builtin; refine wpList_append_nums rfl (.tmp 55) (.tmp 56) 28 rfl .i64 3 8 Tryz.underlying28 info_int wB.heap.size wB _ ([] ++ CA) rfl hx3 hy3 hy3.size _ 28 _ DA rfl HLB.out ⟨_, _, rfl, hNB.below hy3 hltB⟩ (by rw [List.nil_append, HLA.out]; decide) (by omega) ?_; intro x4 w4 hx4 hy4 hz4; rw [List.nil_append] at hx4; obtain ⟨A4, c4, rfl, -, hN4⟩ := hx4.form))
        have hL4 : (CA ++ DA).length = 56 := by rw [List.length_append, HLA.out, HLB.out]
        have HP2 := Lib.hid (fun (tab : ByteArray) (ht : Tab tab 56 psPC2) W hA => perm3_any (CA ++ DA) A4 c4 tab 56 psPC2 ht (by decide) (by rw [hL4]; decide) W hA)
        rw [← HKR1.out, hL4] at HP2
        rw [show CA.length + DA.length = 56 by rw [HLA.out, HLB.out]]
        refine (HP2.out _ (tab_of (by kernel_rfl)) _ hN4).mono ?_
        rintro e w5 ⟨⟨v5, rfl, hv5⟩, hb5⟩
        have hl48 := keyR_len key (q - 1)
        obtain ⟨g5, c5, rfl, hg5, hc5, hlt5, hN5⟩ := hv5.at_ (by intro h; rw [h] at hl48; cases hl48)
        rw [hl48]
        have hbw5 : Below wr.heap.size wr w5 := hbw.trans ((hy4.mono hbw.size).trans (hb5.mono (Nat.le_trans hbw.size hy4.size)))
        have hbw6 : Below wr.heap.size wr (w5.alloc (.cells #[.slice (some ⟨g5, 0, none⟩) 48 c5] 28)) := hbw5.alloc hbw5.size _
        have hu5 : (w5.alloc (.cells #[.slice (some ⟨g5, 0, none⟩) 48 c5] 28)).cell? ⟨w5.heap.size, 0, none⟩ = some (.slice (some ⟨g5, 0, none⟩) 48 c5) := (Blk.new w5 28 #[.slice (some ⟨g5, 0, none⟩) 48 c5]).cell 0
        clear hv5 hx4 hx3 HP2 hmE hbE
        go_wp2_with (at_builtin; go_loud (refine wpList_append_one rfl (.tmp 52) (.tmp 59) 219 rfl 28 24 Tryz.underlying219 info_ints w.heap.size _ (q - 1) vs rfl (owns_below hvs hbw6 (Nat.le_refl _)) (Nat.le_trans hbel.size hbw6.size) w5.heap.size 0 1 (.slice (some ⟨g5, 0, none⟩) 48 c5) rfl hu5 rfl (by omega) (by omega) ?_); intro v6 w6 h61 h62 h63)
        go_wp2
        go_roundw
        case rel =>
          have hq' : q + 1 - 1 = q - 1 + 1 := by omega
          have hWB : Below wB.heap.size wB (w5.alloc (.cells #[.slice (some ⟨g5, 0, none⟩) 48 c5] 28)) := (hy4.trans (hb5.mono hy4.size)).alloc (hy4.trans (hb5.mono hy4.size)).size _
          refine ⟨q + 1, by omega, by omega, by go_num, ?_, ?_, ?_, ?_⟩
          · rw [hq', HC1.out]
            exact HalfAt.push ⟨gA, 0, cpA, rfl, hcpA, HLA.out, hAN.below hWB hltA2, Nat.lt_of_lt_of_le hltA2 hWB.size, fun h => by have := (hvlt _ h).2; omega⟩ h62 h63
          · rw [hq', HD1.out]
            exact HalfAt.push ⟨gB, 0, cpB, rfl, hcpB, HLB.out, hNB.below hWB hltB, Nat.lt_of_lt_of_le hltB hWB.size, fun h => by have := (hvlt _ h).2; have := hy2A.size; omega⟩ h62 h63
          · rw [hq']
            refine KeysAt.push (fun j hj => ?_) (by rw [HVN.out]; omega) (by simp; omega) hl48 (hN5.alloc _) (fun h => by have := (hvlt _ h).2; have := hbw.size; have := hy4.size; omega) h61 h62 h63
            obtain ⟨u, hu, hr, hne⟩ := hrows j hj
            exact ⟨u, hu, hr.below hbw6 (Nat.le_refl _), hne⟩
          · exact (hbel.trans (hbw6.mono hbel.size)).grown h62 (Nat.le_trans hbel.size hbw6.size) (fun k hk => (hvlt k hk).1)
        case measure => simp [intOf]; omega
        
      · have t0 : ((q : Int) == 1) = false := by rw [beq_eq_false_iff_ne]; omega
        have t1 : ((q : Int) == 2) = true := by rw [beq_iff_eq]; omega
        have hrot : rotN (q - 1) = 1 := by unfold rotN; rw [if_pos (by omega)]
        have hC1 := HC0.out (q - 1)
        have hD1 := HD0.out (q - 1)
        rw [hrot, hCe] at hC1
        rw [hrot, hDe] at hD1
        clear hc hrot
        have HC1 := Lib.hid hC1; clear hC1
        have HD1 := Lib.hid hD1; clear hD1
        go_wp2_with fail
        refine wp_region_tree (.q 1 (.q 2 (.q 3 (.q 5 (.q 6 (.q 7 (.e [0] fun _ => .e [4] fun _ => .e [8] fun _ => .q 9 .done))))))) (fun _ => True) rfl (by kernel_rfl) (fun _ _ d _ _ h => by cases d <;> exact h) ?_
        iterate 2 (refine t_q rfl rfl trivial _ (fun W hW => by (go_simp; rfl)) ?_; go_simp)
        refine t_q rfl rfl trivial (.slice (some ⟨gc, oc + 1, none⟩) 27 (cc - 1)) (fun W hW => by (go_simp; try omega)) ?_
        go_simp
        iterate 2 (refine t_q rfl rfl trivial _ (fun W hW => by (go_simp; rfl)) ?_; go_simp)
        refine t_q rfl rfl trivial (.slice (some ⟨gc, oc, none⟩) 1 cc) (fun W hW => by (go_simp; try omega)) ?_
        go_simp
        refine t_e rfl rfl fun K hK => ?_
        go_simp
        refine hK _ _ trivial ?_
        clear hK K
        change wpT _ _ _ _ _ _ ((wr).drew.alloc (.cells #[] 3))
        have hmA : OwnN 3 .i64 ((wr).drew.alloc (.cells #[] 3)) (wr).heap.size (.slice (some ⟨(wr).heap.size, 0, none⟩) 0 0) [] := OwnN.made _ _ (wr).drew _ (Nat.le_refl _)
        have hbA : Below (wr).heap.size wr ((wr).drew.alloc (.cells #[] 3)) := (below_drewN (Below.refl _ _) 1).alloc (Nat.le_refl _) _
        refine t_e rfl rfl fun K hK => ?_
        refine op_append_nums (.tmp 34) (.tmp 37) 28 rfl .i64 3 8 Tryz.underlying28 info_int (wr).heap.size wr _ [] rfl hmA hbA (by simp) _ 27 _ (C.drop 1) rfl (by rw [List.length_drop, lc]) ⟨_, _, rfl, (Ns.drewN (by have := Nc.sub 1 27; rwa [List.take_of_length_le (by rw [List.length_drop, lc]; decide)] at this) 1).alloc _⟩ (by simp) (by omega) fun x1A w1A hx1A hy1A hz1A => ?_
        refine hK _ _ trivial ?_
        clear hK K
        go_simp
        refine t_e rfl rfl fun K hK => ?_
        refine op_append_nums (.tmp 38) (.tmp 41) 28 rfl .i64 3 8 Tryz.underlying28 info_int (wr).heap.size wr _ ([] ++ C.drop 1) rfl hx1A hy1A hy1A.size _ 1 _ (C.take 1) rfl (by rw [List.length_take, lc]; decide) ⟨_, _, rfl, (by have := (Nc.below hy1A kc).sub 0 1; simpa using this)⟩ (by rw [List.nil_append, List.length_drop, lc]; decide) (by omega) fun x2A wA hx2A hy2A hz2A => ?_
        refine hK _ _ trivial ?_
        clear hK K
        go_simp
        refine t_q rfl rfl trivial _ (fun W hW => by (go_simp; rfl)) ?_
        go_simp
        refine t_done ?_
        rw [List.nil_append] at hx2A
        have hLA : (C.drop 1 ++ C.take 1).length = 28 := by rw [List.length_append, List.length_drop, List.length_take, lc]; decide
        obtain ⟨gA, cpA, rfl, hgA, hcpA, hltA, hNA⟩ := hx2A.at_ (by intro h; rw [h] at hLA; cases hLA)
        rw [hLA] at hcpA ⊢
        clear hx1A hx2A hmA
        have Nd := Nd.below hy2A kd
        have kd : gd < wA.heap.size := Nat.lt_of_lt_of_le kd hy2A.size
        go_wp2_with fail
        refine wp_region_tree (.q 1 (.q 2 (.q 3 (.q 5 (.q 6 (.q 7 (.e [0] fun _ => .e [4] fun _ => .e [8] fun _ => .q 9 .done))))))) (fun _ => True) rfl (by kernel_rfl) (fun _ _ d _ _ h => by cases d <;> exact h) ?_
        iterate 2 (refine t_q rfl rfl trivial _ (fun W hW => by (go_simp; rfl)) ?_; go_simp)
        refine t_q rfl rfl trivial (.slice (some ⟨gd, od + 1, none⟩) 27 (cd - 1)) (fun W hW => by (go_simp; try omega)) ?_
        go_simp
        iterate 2 (refine t_q rfl rfl trivial _ (fun W hW => by (go_simp; rfl)) ?_; go_simp)
        refine t_q rfl rfl trivial (.slice (some ⟨gd, od, none⟩) 1 cd) (fun W hW => by (go_simp; try omega)) ?_
        go_simp
        refine t_e rfl rfl fun K hK => ?_
        go_simp
        refine hK _ _ trivial ?_
        clear hK K
        change wpT _ _ _ _ _ _ ((wA).drew.alloc (.cells #[] 3))
        have hmB : OwnN 3 .i64 ((wA).drew.alloc (.cells #[] 3)) (wA).heap.size (.slice (some ⟨(wA).heap.size, 0, none⟩) 0 0) [] := OwnN.made _ _ (wA).drew _ (Nat.le_refl _)
        have hbB : Below (wA).heap.size wA ((wA).drew.alloc (.cells #[] 3)) := (below_drewN (Below.refl _ _) 1).alloc (Nat.le_refl _) _
        refine t_e rfl rfl fun K hK => ?_
        refine op_append_nums (.tmp 43) (.tmp 46) 28 rfl .i64 3 8 Tryz.underlying28 info_int (wA).heap.size wA _ [] rfl hmB hbB (by simp) _ 27 _ (D.drop 1) rfl (by rw [List.length_drop, ld]) ⟨_, _, rfl, (Ns.drewN (by have := Nd.sub 1 27; rwa [List.take_of_length_le (by rw [List.length_drop, ld]; decide)] at this) 1).alloc _⟩ (by simp) (by omega) fun x1B w1B hx1B hy1B hz1B => ?_
        refine hK _ _ trivial ?_
        clear hK K
        go_simp
        refine t_e rfl rfl fun K hK => ?_
        refine op_append_nums (.tmp 47) (.tmp 50) 28 rfl .i64 3 8 Tryz.underlying28 info_int (wA).heap.size wA _ ([] ++ D.drop 1) rfl hx1B hy1B hy1B.size _ 1 _ (D.take 1) rfl (by rw [List.length_take, ld]; decide) ⟨_, _, rfl, (by have := (Nd.below hy1B kd).sub 0 1; simpa using this)⟩ (by rw [List.nil_append, List.length_drop, ld]; decide) (by omega) fun x2B wB hx2B hy2B hz2B => ?_
        refine hK _ _ trivial ?_
        clear hK K
        go_simp
        refine t_q rfl rfl trivial _ (fun W hW => by (go_simp; rfl)) ?_
        go_simp
        refine t_done ?_
        rw [List.nil_append] at hx2B
        have hLB : (D.drop 1 ++ D.take 1).length = 28 := by rw [List.length_append, List.length_drop, List.length_take, ld]; decide
        obtain ⟨gB, cpB, rfl, hgB, hcpB, hltB, hNB⟩ := hx2B.at_ (by intro h; rw [h] at hLB; cases hLB)
        rw [hLB] at hcpB ⊢
        clear hx1B hx2B hmB
        have hAN := hNA.below hy2B hltA
        have hbw : Below wr.heap.size wr wB := hy2A.trans (hy2B.mono hy2A.size)
        have hmE : OwnN 3 .i64 (wB.alloc (.cells #[] 3)) wB.heap.size (.slice (some ⟨wB.heap.size, 0, none⟩) 0 0) [] := OwnN.made _ _ wB _ (Nat.le_refl _)
        have hbE : Below wB.heap.size wB (wB.alloc (.cells #[] 3)) := (Below.refl _ _).alloc (Nat.le_refl _) _
        have hltA2 : gA < wB.heap.size := Nat.lt_of_lt_of_le hltA hy2B.size
        obtain ⟨CA, hCA⟩ : ∃ CA, C.drop 1 ++ C.take 1 = CA := ⟨_, rfl⟩
        obtain ⟨DA, hDA⟩ : ∃ DA, D.drop 1 ++ D.take 1 = DA := ⟨_, rfl⟩
        rw [hCA] at hAN hLA HC1
        rw [hDA] at hNB hLB HD1
        rw [HC1.out, HD1.out] at HKR1
        clear hCA hDA hNA
        have HLA := Lib.hid hLA; clear hLA
        have HLB := Lib.hid hLB; clear hLB
        go_wp2_with (first
          | (at_builtin; refine wpList_append_nums rfl (.tmp 53) (.tmp 54) 28 rfl .i64 3 8 Tryz.underlying28 info_int wB.heap.size wB _ [] rfl hmE hbE (by simp) _ 28 _ CA rfl HLA.out ⟨_, _, rfl, hAN.alloc _⟩ (by simp) (by omega) ?_; intro x3 w3 hx3 hy3 hz3)
          | (at_builtin; refine wpList_append_nums rfl (.tmp 55) (.tmp 56) 28 rfl .i64 3 8 Tryz.underlying28 info_int wB.heap.size wB _ ([] ++ CA) rfl hx3 hy3 hy3.size _ 28 _ DA rfl HLB.out ⟨_, _, rfl, hNB.below hy3 hltB⟩ (by rw [List.nil_append, HLA.out]; decide) (by omega) ?_; intro x4 w4 hx4 hy4 hz4; rw [List.nil_append] at hx4; obtain ⟨A4, c4, rfl, -, hN4⟩ := hx4.form))
        have hL4 : (CA ++ DA).length = 56 := by rw [List.length_append, HLA.out, HLB.out]
        have HP2 := Lib.hid (fun (tab : ByteArray) (ht : Tab tab 56 psPC2) W hA => perm3_any (CA ++ DA) A4 c4 tab 56 psPC2 ht (by decide) (by rw [hL4]; decide) W hA)
        rw [← HKR1.out, hL4] at HP2
        rw [show CA.length + DA.length = 56 by rw [HLA.out, HLB.out]]
        refine (HP2.out _ (tab_of (by kernel_rfl)) _ hN4).mono ?_
        rintro e w5 ⟨⟨v5, rfl, hv5⟩, hb5⟩
        have hl48 := keyR_len key (q - 1)
        obtain ⟨g5, c5, rfl, hg5, hc5, hlt5, hN5⟩ := hv5.at_ (by intro h; rw [h] at hl48; cases hl48)
        rw [hl48]
        have hbw5 : Below wr.heap.size wr w5 := hbw.trans ((hy4.mono hbw.size).trans (hb5.mono (Nat.le_trans hbw.size hy4.size)))
        have hbw6 : Below wr.heap.size wr (w5.alloc (.cells #[.slice (some ⟨g5, 0, none⟩) 48 c5] 28)) := hbw5.alloc hbw5.size _
        have hu5 : (w5.alloc (.cells #[.slice (some ⟨g5, 0, none⟩) 48 c5] 28)).cell? ⟨w5.heap.size, 0, none⟩ = some (.slice (some ⟨g5, 0, none⟩) 48 c5) := (Blk.new w5 28 #[.slice (some ⟨g5, 0, none⟩) 48 c5]).cell 0
        clear hv5 hx4 hx3 HP2 hmE hbE
        go_wp2_with (at_builtin; go_loud (refine wpList_append_one rfl (.tmp 52) (.tmp 59) 219 rfl 28 24 Tryz.underlying219 info_ints w.heap.size _ (q - 1) vs rfl (owns_below hvs hbw6 (Nat.le_refl _)) (Nat.le_trans hbel.size hbw6.size) w5.heap.size 0 1 (.slice (some ⟨g5, 0, none⟩) 48 c5) rfl hu5 rfl (by omega) (by omega) ?_); intro v6 w6 h61 h62 h63)
        go_wp2
        go_roundw
        case rel =>
          have hq' : q + 1 - 1 = q - 1 + 1 := by omega
          have hWB : Below wB.heap.size wB (w5.alloc (.cells #[.slice (some ⟨g5, 0, none⟩) 48 c5] 28)) := (hy4.trans (hb5.mono hy4.size)).alloc (hy4.trans (hb5.mono hy4.size)).size _
          refine ⟨q + 1, by omega, by omega, by go_num, ?_, ?_, ?_, ?_⟩
          · rw [hq', HC1.out]
            exact HalfAt.push ⟨gA, 0, cpA, rfl, hcpA, HLA.out, hAN.below hWB hltA2, Nat.lt_of_lt_of_le hltA2 hWB.size, fun h => by have := (hvlt _ h).2; omega⟩ h62 h63
          · rw [hq', HD1.out]
            exact HalfAt.push ⟨gB, 0, cpB, rfl, hcpB, HLB.out, hNB.below hWB hltB, Nat.lt_of_lt_of_le hltB hWB.size, fun h => by have := (hvlt _ h).2; have := hy2A.size; omega⟩ h62 h63
          · rw [hq']
            refine KeysAt.push (fun j hj => ?_) (by rw [HVN.out]; omega) (by simp; omega) hl48 (hN5.alloc _) (fun h => by have := (hvlt _ h).2; have := hbw.size; have := hy4.size; omega) h61 h62 h63
            obtain ⟨u, hu, hr, hne⟩ := hrows j hj
            exact ⟨u, hu, hr.below hbw6 (Nat.le_refl _), hne⟩
          · exact (hbel.trans (hbw6.mono hbel.size)).grown h62 (Nat.le_trans hbel.size hbw6.size) (fun k hk => (hvlt k hk).1)
        case measure => simp [intOf]; omega
        
      · have t0 : ((q : Int) == 1) = false := by rw [beq_eq_false_iff_ne]; omega
        have t1 : ((q : Int) == 2) = false := by rw [beq_eq_false_iff_ne]; omega
        have t2 : ((q : Int) == 9) = true := by rw [beq_iff_eq]; omega
        have hrot : rotN (q - 1) = 1 := by unfold rotN; rw [if_pos (by omega)]
        have hC1 := HC0.out (q - 1)
        have hD1 := HD0.out (q - 1)
        rw [hrot, hCe] at hC1
        rw [hrot, hDe] at hD1
        clear hc hrot
        have HC1 := Lib.hid hC1; clear hC1
        have HD1 := Lib.hid hD1; clear hD1
        go_wp2_with fail
        refine wp_region_tree (.q 1 (.q 2 (.q 3 (.q 5 (.q 6 (.q 7 (.e [0] fun _ => .e [4] fun _ => .e [8] fun _ => .q 9 .done))))))) (fun _ => True) rfl (by kernel_rfl) (fun _ _ d _ _ h => by cases d <;> exact h) ?_
        iterate 2 (refine t_q rfl rfl trivial _ (fun W hW => by (go_simp; rfl)) ?_; go_simp)
        refine t_q rfl rfl trivial (.slice (some ⟨gc, oc + 1, none⟩) 27 (cc - 1)) (fun W hW => by (go_simp; try omega)) ?_
        go_simp
        iterate 2 (refine t_q rfl rfl trivial _ (fun W hW => by (go_simp; rfl)) ?_; go_simp)
        refine t_q rfl rfl trivial (.slice (some ⟨gc, oc, none⟩) 1 cc) (fun W hW => by (go_simp; try omega)) ?_
        go_simp
        refine t_e rfl rfl fun K hK => ?_
        go_simp
        refine hK _ _ trivial ?_
        clear hK K
        change wpT _ _ _ _ _ _ ((wr).drew.alloc (.cells #[] 3))
        have hmA : OwnN 3 .i64 ((wr).drew.alloc (.cells #[] 3)) (wr).heap.size (.slice (some ⟨(wr).heap.size, 0, none⟩) 0 0) [] := OwnN.made _ _ (wr).drew _ (Nat.le_refl _)
        have hbA : Below (wr).heap.size wr ((wr).drew.alloc (.cells #[] 3)) := (below_drewN (Below.refl _ _) 1).alloc (Nat.le_refl _) _
        refine t_e rfl rfl fun K hK => ?_
        refine op_append_nums (.tmp 34) (.tmp 37) 28 rfl .i64 3 8 Tryz.underlying28 info_int (wr).heap.size wr _ [] rfl hmA hbA (by simp) _ 27 _ (C.drop 1) rfl (by rw [List.length_drop, lc]) ⟨_, _, rfl, (Ns.drewN (by have := Nc.sub 1 27; rwa [List.take_of_length_le (by rw [List.length_drop, lc]; decide)] at this) 1).alloc _⟩ (by simp) (by omega) fun x1A w1A hx1A hy1A hz1A => ?_
        refine hK _ _ trivial ?_
        clear hK K
        go_simp
        refine t_e rfl rfl fun K hK => ?_
        refine op_append_nums (.tmp 38) (.tmp 41) 28 rfl .i64 3 8 Tryz.underlying28 info_int (wr).heap.size wr _ ([] ++ C.drop 1) rfl hx1A hy1A hy1A.size _ 1 _ (C.take 1) rfl (by rw [List.length_take, lc]; decide) ⟨_, _, rfl, (by have := (Nc.below hy1A kc).sub 0 1; simpa using this)⟩ (by rw [List.nil_append, List.length_drop, lc]; decide) (by omega) fun x2A wA hx2A hy2A hz2A => ?_
        refine hK _ _ trivial ?_
        clear hK K
        go_simp
        refine t_q rfl rfl trivial _ (fun W hW => by (go_simp; rfl)) ?_
        go_simp
        refine t_done ?_
        rw [List.nil_append] at hx2A
        have hLA : (C.drop 1 ++ C.take 1).length = 28 := by rw [List.length_append, List.length_drop, List.length_take, lc]; decide
        obtain ⟨gA, cpA, rfl, hgA, hcpA, hltA, hNA⟩ := hx2A.at_ (by intro h; rw [h] at hLA; cases hLA)
        rw [hLA] at hcpA ⊢
        clear hx1A hx2A hmA
        have Nd := Nd.below hy2A kd
        have kd : gd < wA.heap.size := Nat.lt_of_lt_of_le kd hy2A.size
        go_wp2_with fail
        refine wp_region_tree (.q 1 (.q 2 (.q 3 (.q 5 (.q 6 (.q 7 (.e [0] fun _ => .e [4] fun _ => .e [8] fun _ => .q 9 .done))))))) (fun _ => True) rfl (by kernel_rfl) (fun _ _ d _ _ h => by cases d <;> exact h) ?_
        iterate 2 (refine t_q rfl rfl trivial _ (fun W hW => by (go_simp; rfl)) ?_; go_simp)
        refine t_q rfl rfl trivial (.slice (some ⟨gd, od + 1, none⟩) 27 (cd - 1)) (fun W hW => by (go_simp; try omega)) ?_
        go_simp
        iterate 2 (refine t_q rfl rfl trivial _ (fun W hW => by (go_simp; rfl)) ?_; go_simp)
        refine t_q rfl rfl trivial (.slice (some ⟨gd, od, none⟩) 1 cd) (fun W hW => by (go_simp; try omega)) ?_
        go_simp
        refine t_e rfl rfl fun K hK => ?_
        go_simp
        refine hK _ _ trivial ?_
        clear hK K
        change wpT _ _ _ _ _ _ ((wA).drew.alloc (.cells #[] 3))
        have hmB : OwnN 3 .i64 ((wA).drew.alloc (.cells #[] 3)) (wA).heap.size (.slice (some ⟨(wA).heap.size, 0, none⟩) 0 0) [] := OwnN.made _ _ (wA).drew _ (Nat.le_refl _)
        have hbB : Below (wA).heap.size wA ((wA).drew.alloc (.cells #[] 3)) := (below_drewN (Below.refl _ _) 1).alloc (Nat.le_refl _) _
        refine t_e rfl rfl fun K hK => ?_
        refine op_append_nums (.tmp 43) (.tmp 46) 28 rfl .i64 3 8 Tryz.underlying28 info_int (wA).heap.size wA _ [] rfl hmB hbB (by simp) _ 27 _ (D.drop 1) rfl (by rw [List.length_drop, ld]) ⟨_, _, rfl, (Ns.drewN (by have := Nd.sub 1 27; rwa [List.take_of_length_le (by rw [List.length_drop, ld]; decide)] at this) 1).alloc _⟩ (by simp) (by omega) fun x1B w1B hx1B hy1B hz1B => ?_
        refine hK _ _ trivial ?_
        clear hK K
        go_simp
        refine t_e rfl rfl fun K hK => ?_
        refine op_append_nums (.tmp 47) (.tmp 50) 28 rfl .i64 3 8 Tryz.underlying28 info_int (wA).heap.size wA _ ([] ++ D.drop 1) rfl hx1B hy1B hy1B.size _ 1 _ (D.take 1) rfl (by rw [List.length_take, ld]; decide) ⟨_, _, rfl, (by have := (Nd.below hy1B kd).sub 0 1; simpa using this)⟩ (by rw [List.nil_append, List.length_drop, ld]; decide) (by omega) fun x2B wB hx2B hy2B hz2B => ?_
        refine hK _ _ trivial ?_
        clear hK K
        go_simp
        refine t_q rfl rfl trivial _ (fun W hW => by (go_simp; rfl)) ?_
        go_simp
        refine t_done ?_
        rw [List.nil_append] at hx2B
        have hLB : (D.drop 1 ++ D.take 1).length = 28 := by rw [List.length_append, List.length_drop, List.length_take, ld]; decide
        obtain ⟨gB, cpB, rfl, hgB, hcpB, hltB, hNB⟩ := hx2B.at_ (by intro h; rw [h] at hLB; cases hLB)
        rw [hLB] at hcpB ⊢
        clear hx1B hx2B hmB
        have hAN := hNA.below hy2B hltA
        have hbw : Below wr.heap.size wr wB := hy2A.trans (hy2B.mono hy2A.size)
        have hmE : OwnN 3 .i64 (wB.alloc (.cells #[] 3)) wB.heap.size (.slice (some ⟨wB.heap.size, 0, none⟩) 0 0) [] := OwnN.made _ _ wB _ (Nat.le_refl _)
        have hbE : Below wB.heap.size wB (wB.alloc (.cells #[] 3)) := (Below.refl _ _).alloc (Nat.le_refl _) _
        have hltA2 : gA < wB.heap.size := Nat.lt_of_lt_of_le hltA hy2B.size
        obtain ⟨CA, hCA⟩ : ∃ CA, C.drop 1 ++ C.take 1 = CA := ⟨_, rfl⟩
        obtain ⟨DA, hDA⟩ : ∃ DA, D.drop 1 ++ D.take 1 = DA := ⟨_, rfl⟩
        rw [hCA] at hAN hLA HC1
        rw [hDA] at hNB hLB HD1
        rw [HC1.out, HD1.out] at HKR1
        clear hCA hDA hNA
        have HLA := Lib.hid hLA; clear hLA
        have HLB := Lib.hid hLB; clear hLB
        go_wp2_with (first
          | (at_builtin; refine wpList_append_nums rfl (.tmp 53) (.tmp 54) 28 rfl .i64 3 8 Tryz.underlying28 info_int wB.heap.size wB _ [] rfl hmE hbE (by simp) _ 28 _ CA rfl HLA.out ⟨_, _, rfl, hAN.alloc _⟩ (by simp) (by omega) ?_; intro x3 w3 hx3 hy3 hz3)
          | (at_builtin; refine wpList_append_nums rfl (.tmp 55) (.tmp 56) 28 rfl .i64 3 8 Tryz.underlying28 info_int wB.heap.size wB _ ([] ++ CA) rfl hx3 hy3 hy3.size _ 28 _ DA rfl HLB.out ⟨_, _, rfl, hNB.below hy3 hltB⟩ (by rw [List.nil_append, HLA.out]; decide) (by omega) ?_; intro x4 w4 hx4 hy4 hz4; rw [List.nil_append] at hx4; obtain ⟨A4, c4, rfl, -, hN4⟩ := hx4.form))
        have hL4 : (CA ++ DA).length = 56 := by rw [List.length_append, HLA.out, HLB.out]
        have HP2 := Lib.hid (fun (tab : ByteArray) (ht : Tab tab 56 psPC2) W hA => perm3_any (CA ++ DA) A4 c4 tab 56 psPC2 ht (by decide) (by rw [hL4]; decide) W hA)
        rw [← HKR1.out, hL4] at HP2
        rw [show CA.length + DA.length = 56 by rw [HLA.out, HLB.out]]
        refine (HP2.out _ (tab_of (by kernel_rfl)) _ hN4).mono ?_
        rintro e w5 ⟨⟨v5, rfl, hv5⟩, hb5⟩
        have hl48 := keyR_len key (q - 1)
        obtain ⟨g5, c5, rfl, hg5, hc5, hlt5, hN5⟩ := hv5.at_ (by intro h; rw [h] at hl48; cases hl48)
        rw [hl48]
        have hbw5 : Below wr.heap.size wr w5 := hbw.trans ((hy4.mono hbw.size).trans (hb5.mono (Nat.le_trans hbw.size hy4.size)))
        have hbw6 : Below wr.heap.size wr (w5.alloc (.cells #[.slice (some ⟨g5, 0, none⟩) 48 c5] 28)) := hbw5.alloc hbw5.size _
        have hu5 : (w5.alloc (.cells #[.slice (some ⟨g5, 0, none⟩) 48 c5] 28)).cell? ⟨w5.heap.size, 0, none⟩ = some (.slice (some ⟨g5, 0, none⟩) 48 c5) := (Blk.new w5 28 #[.slice (some ⟨g5, 0, none⟩) 48 c5]).cell 0
        clear hv5 hx4 hx3 HP2 hmE hbE
        go_wp2_with (at_builtin; go_loud (refine wpList_append_one rfl (.tmp 52) (.tmp 59) 219 rfl 28 24 Tryz.underlying219 info_ints w.heap.size _ (q - 1) vs rfl (owns_below hvs hbw6 (Nat.le_refl _)) (Nat.le_trans hbel.size hbw6.size) w5.heap.size 0 1 (.slice (some ⟨g5, 0, none⟩) 48 c5) rfl hu5 rfl (by omega) (by omega) ?_); intro v6 w6 h61 h62 h63)
        go_wp2
        go_roundw
        case rel =>
          have hq' : q + 1 - 1 = q - 1 + 1 := by omega
          have hWB : Below wB.heap.size wB (w5.alloc (.cells #[.slice (some ⟨g5, 0, none⟩) 48 c5] 28)) := (hy4.trans (hb5.mono hy4.size)).alloc (hy4.trans (hb5.mono hy4.size)).size _
          refine ⟨q + 1, by omega, by omega, by go_num, ?_, ?_, ?_, ?_⟩
          · rw [hq', HC1.out]
            exact HalfAt.push ⟨gA, 0, cpA, rfl, hcpA, HLA.out, hAN.below hWB hltA2, Nat.lt_of_lt_of_le hltA2 hWB.size, fun h => by have := (hvlt _ h).2; omega⟩ h62 h63
          · rw [hq', HD1.out]
            exact HalfAt.push ⟨gB, 0, cpB, rfl, hcpB, HLB.out, hNB.below hWB hltB, Nat.lt_of_lt_of_le hltB hWB.size, fun h => by have := (hvlt _ h).2; have := hy2A.size; omega⟩ h62 h63
          · rw [hq']
            refine KeysAt.push (fun j hj => ?_) (by rw [HVN.out]; omega) (by simp; omega) hl48 (hN5.alloc _) (fun h => by have := (hvlt _ h).2; have := hbw.size; have := hy4.size; omega) h61 h62 h63
            obtain ⟨u, hu, hr, hne⟩ := hrows j hj
            exact ⟨u, hu, hr.below hbw6 (Nat.le_refl _), hne⟩
          · exact (hbel.trans (hbw6.mono hbel.size)).grown h62 (Nat.le_trans hbel.size hbw6.size) (fun k hk => (hvlt k hk).1)
        case measure => simp [intOf]; omega
        
      · have t0 : ((q : Int) == 1) = false := by rw [beq_eq_false_iff_ne]; omega
        have t1 : ((q : Int) == 2) = false := by rw [beq_eq_false_iff_ne]; omega
        have t2 : ((q : Int) == 9) = false := by rw [beq_eq_false_iff_ne]; omega
        have t3 : ((q : Int) == 16) = true := by rw [beq_iff_eq]; omega
        have hrot : rotN (q - 1) = 1 := by unfold rotN; rw [if_pos (by omega)]
        have hC1 := HC0.out (q - 1)
        have hD1 := HD0.out (q - 1)
        rw [hrot, hCe] at hC1
        rw [hrot, hDe] at hD1
        clear hc hrot
        have HC1 := Lib.hid hC1; clear hC1
        have HD1 := Lib.hid hD1; clear hD1
        go_wp2_with fail
        refine wp_region_tree (.q 1 (.q 2 (.q 3 (.q 5 (.q 6 (.q 7 (.e [0] fun _ => .e [4] fun _ => .e [8] fun _ => .q 9 .done))))))) (fun _ => True) rfl (by kernel_rfl) (fun _ _ d _ _ h => by cases d <;> exact h) ?_
        iterate 2 (refine t_q rfl rfl trivial _ (fun W hW => by (go_simp; rfl)) ?_; go_simp)
        refine t_q rfl rfl trivial (.slice (some ⟨gc, oc + 1, none⟩) 27 (cc - 1)) (fun W hW => by (go_simp; try omega)) ?_
        go_simp
        iterate 2 (refine t_q rfl rfl trivial _ (fun W hW => by (go_simp; rfl)) ?_; go_simp)
        refine t_q rfl rfl trivial (.slice (some ⟨gc, oc, none⟩) 1 cc) (fun W hW => by (go_simp; try omega)) ?_
        go_simp
        refine t_e rfl rfl fun K hK => ?_
        go_simp
        refine hK _ _ trivial ?_
        clear hK K
        change wpT _ _ _ _ _ _ ((wr).drew.alloc (.cells #[] 3))
        have hmA : OwnN 3 .i64 ((wr).drew.alloc (.cells #[] 3)) (wr).heap.size (.slice (some ⟨(wr).heap.size, 0, none⟩) 0 0) [] := OwnN.made _ _ (wr).drew _ (Nat.le_refl _)
        have hbA : Below (wr).heap.size wr ((wr).drew.alloc (.cells #[] 3)) := (below_drewN (Below.refl _ _) 1).alloc (Nat.le_refl _) _
        refine t_e rfl rfl fun K hK => ?_
        refine op_append_nums (.tmp 34) (.tmp 37) 28 rfl .i64 3 8 Tryz.underlying28 info_int (wr).heap.size wr _ [] rfl hmA hbA (by simp) _ 27 _ (C.drop 1) rfl (by rw [List.length_drop, lc]) ⟨_, _, rfl, (Ns.drewN (by have := Nc.sub 1 27; rwa [List.take_of_length_le (by rw [List.length_drop, lc]; decide)] at this) 1).alloc _⟩ (by simp) (by omega) fun x1A w1A hx1A hy1A hz1A => ?_
        refine hK _ _ trivial ?_
        clear hK K
        go_simp
        refine t_e rfl rfl fun K hK => ?_
        refine op_append_nums (.tmp 38) (.tmp 41) 28 rfl .i64 3 8 Tryz.underlying28 info_int (wr).heap.size wr _ ([] ++ C.drop 1) rfl hx1A hy1A hy1A.size _ 1 _ (C.take 1) rfl (by rw [List.length_take, lc]; decide) ⟨_, _, rfl, (by have := (Nc.below hy1A kc).sub 0 1; simpa using this)⟩ (by rw [List.nil_append, List.length_drop, lc]; decide) (by omega) fun x2A wA hx2A hy2A hz2A => ?_
        refine hK _ _ trivial ?_
        clear hK K
        go_simp
        refine t_q rfl rfl trivial _ (fun W hW => by (go_simp; rfl)) ?_
        go_simp
        refine t_done ?_
        rw [List.nil_append] at hx2A
        have hLA : (C.drop 1 ++ C.take 1).length = 28 := by rw [List.length_append, List.length_drop, List.length_take, lc]; decide
        obtain ⟨gA, cpA, rfl, hgA, hcpA, hltA, hNA⟩ := hx2A.at_ (by intro h; rw [h] at hLA; cases hLA)
        rw [hLA] at hcpA ⊢
        clear hx1A hx2A hmA
        have Nd := Nd.below hy2A kd
        have kd : gd < wA.heap.size := Nat.lt_of_lt_of_le kd hy2A.size
        go_wp2_with fail
        refine wp_region_tree (.q 1 (.q 2 (.q 3 (.q 5 (.q 6 (.q 7 (.e [0] fun _ => .e [4] fun _ => .e [8] fun _ => .q 9 .done))))))) (fun _ => True) rfl (by kernel_rfl) (fun _ _ d _ _ h => by cases d <;> exact h) ?_
        iterate 2 (refine t_q rfl rfl trivial _ (fun W hW => by (go_simp; rfl)) ?_; go_simp)
        refine t_q rfl rfl trivial (.slice (some ⟨gd, od + 1, none⟩) 27 (cd - 1)) (fun W hW => by (go_simp; try omega)) ?_
        go_simp
        iterate 2 (refine t_q rfl rfl trivial _ (fun W hW => by (go_simp; rfl)) ?_; go_simp)
        refine t_q rfl rfl trivial (.slice (some ⟨gd, od, none⟩) 1 cd) (fun W hW => by (go_simp; try omega)) ?_
        go_simp
        refine t_e rfl rfl fun K hK => ?_
        go_simp
        refine hK _ _ trivial ?_
        clear hK K
        change wpT _ _ _ _ _ _ ((wA).drew.alloc (.cells #[] 3))
        have hmB : OwnN 3 .i64 ((wA).drew.alloc (.cells #[] 3)) (wA).heap.size (.slice (some ⟨(wA).heap.size, 0, none⟩) 0 0) [] := OwnN.made _ _ (wA).drew _ (Nat.le_refl _)
        have hbB : Below (wA).heap.size wA ((wA).drew.alloc (.cells #[] 3)) := (below_drewN (Below.refl _ _) 1).alloc (Nat.le_refl _) _
        refine t_e rfl rfl fun K hK => ?_
        refine op_append_nums (.tmp 43) (.tmp 46) 28 rfl .i64 3 8 Tryz.underlying28 info_int (wA).heap.size wA _ [] rfl hmB hbB (by simp) _ 27 _ (D.drop 1) rfl (by rw [List.length_drop, ld]) ⟨_, _, rfl, (Ns.drewN (by have := Nd.sub 1 27; rwa [List.take_of_length_le (by rw [List.length_drop, ld]; decide)] at this) 1).alloc _⟩ (by simp) (by omega) fun x1B w1B hx1B hy1B hz1B => ?_
        refine hK _ _ trivial ?_
        clear hK K
        go_simp
        refine t_e rfl rfl fun K hK => ?_
        refine op_append_nums (.tmp 47) (.tmp 50) 28 rfl .i64 3 8 Tryz.underlying28 info_int (wA).heap.size wA _ ([] ++ D.drop 1) rfl hx1B hy1B hy1B.size _ 1 _ (D.take 1) rfl (by rw [List.length_take, ld]; decide) ⟨_, _, rfl, (by have := (Nd.below hy1B kd).sub 0 1; simpa using this)⟩ (by rw [List.nil_append, List.length_drop, ld]; decide) (by omega) fun x2B wB hx2B hy2B hz2B => ?_
        refine hK _ _ trivial ?_
        clear hK K
        go_simp
        refine t_q rfl rfl trivial _ (fun W hW => by (go_simp; rfl)) ?_
        go_simp
        refine t_done ?_
        rw [List.nil_append] at hx2B
        have hLB : (D.drop 1 ++ D.take 1).length = 28 := by rw [List.length_append, List.length_drop, List.length_take, ld]; decide
        obtain ⟨gB, cpB, rfl, hgB, hcpB, hltB, hNB⟩ := hx2B.at_ (by intro h; rw [h] at hLB; cases hLB)
        rw [hLB] at hcpB ⊢
        clear hx1B hx2B hmB
        have hAN := hNA.below hy2B hltA
        have hbw : Below wr.heap.size wr wB := hy2A.trans (hy2B.mono hy2A.size)
        have hmE : OwnN 3 .i64 (wB.alloc (.cells #[] 3)) wB.heap.size (.slice (some ⟨wB.heap.size, 0, none⟩) 0 0) [] := OwnN.made _ _ wB _ (Nat.le_refl _)
        have hbE : Below wB.heap.size wB (wB.alloc (.cells #[] 3)) := (Below.refl _ _).alloc (Nat.le_refl _) _
        have hltA2 : gA < wB.heap.size := Nat.lt_of_lt_of_le hltA hy2B.size
        obtain ⟨CA, hCA⟩ : ∃ CA, C.drop 1 ++ C.take 1 = CA := ⟨_, rfl⟩
        obtain ⟨DA, hDA⟩ : ∃ DA, D.drop 1 ++ D.take 1 = DA := ⟨_, rfl⟩
        rw [hCA] at hAN hLA HC1
        rw [hDA] at hNB hLB HD1
        rw [HC1.out, HD1.out] at HKR1
        clear hCA hDA hNA
        have HLA := Lib.hid hLA; clear hLA
        have HLB := Lib.hid hLB; clear hLB
        go_wp2_with (first
          | (at_builtin; refine wpList_append_nums rfl (.tmp 53) (.tmp 54) 28 rfl .i64 3 8 Tryz.underlying28 info_int wB.heap.size wB _ [] rfl hmE hbE (by simp) _ 28 _ CA rfl HLA.out ⟨_, _, rfl, hAN.alloc _⟩ (by simp) (by omega) ?_; intro x3 w3 hx3 hy3 hz3)
          | (at_builtin; refine wpList_append_nums rfl (.tmp 55) (.tmp 56) 28 rfl .i64 3 8 Tryz.underlying28 info_int wB.heap.size wB _ ([] ++ CA) rfl hx3 hy3 hy3.size _ 28 _ DA rfl HLB.out ⟨_, _, rfl, hNB.below hy3 hltB⟩ (by rw [List.nil_append, HLA.out]; decide) (by omega) ?_; intro x4 w4 hx4 hy4 hz4; rw [List.nil_append] at hx4; obtain ⟨A4, c4, rfl, -, hN4⟩ := hx4.form))
        have hL4 : (CA ++ DA).length = 56 := by rw [List.length_append, HLA.out, HLB.out]
        have HP2 := Lib.hid (fun (tab : ByteArray) (ht : Tab tab 56 psPC2) W hA => perm3_any (CA ++ DA) A4 c4 tab 56 psPC2 ht (by decide) (by rw [hL4]; decide) W hA)
        rw [← HKR1.out, hL4] at HP2
        rw [show CA.length + DA.length = 56 by rw [HLA.out, HLB.out]]
        refine (HP2.out _ (tab_of (by kernel_rfl)) _ hN4).mono ?_
        rintro e w5 ⟨⟨v5, rfl, hv5⟩, hb5⟩
        have hl48 := keyR_len key (q - 1)
        obtain ⟨g5, c5, rfl, hg5, hc5, hlt5, hN5⟩ := hv5.at_ (by intro h; rw [h] at hl48; cases hl48)
        rw [hl48]
        have hbw5 : Below wr.heap.size wr w5 := hbw.trans ((hy4.mono hbw.size).trans (hb5.mono (Nat.le_trans hbw.size hy4.size)))
        have hbw6 : Below wr.heap.size wr (w5.alloc (.cells #[.slice (some ⟨g5, 0, none⟩) 48 c5] 28)) := hbw5.alloc hbw5.size _
        have hu5 : (w5.alloc (.cells #[.slice (some ⟨g5, 0, none⟩) 48 c5] 28)).cell? ⟨w5.heap.size, 0, none⟩ = some (.slice (some ⟨g5, 0, none⟩) 48 c5) := (Blk.new w5 28 #[.slice (some ⟨g5, 0, none⟩) 48 c5]).cell 0
        clear hv5 hx4 hx3 HP2 hmE hbE
        go_wp2_with (at_builtin; go_loud (refine wpList_append_one rfl (.tmp 52) (.tmp 59) 219 rfl 28 24 Tryz.underlying219 info_ints w.heap.size _ (q - 1) vs rfl (owns_below hvs hbw6 (Nat.le_refl _)) (Nat.le_trans hbel.size hbw6.size) w5.heap.size 0 1 (.slice (some ⟨g5, 0, none⟩) 48 c5) rfl hu5 rfl (by omega) (by omega) ?_); intro v6 w6 h61 h62 h63)
        go_wp2
        go_roundw
        case rel =>
          have hq' : q + 1 - 1 = q - 1 + 1 := by omega
          have hWB : Below wB.heap.size wB (w5.alloc (.cells #[.slice (some ⟨g5, 0, none⟩) 48 c5] 28)) := (hy4.trans (hb5.mono hy4.size)).alloc (hy4.trans (hb5.mono hy4.size)).size _
          refine ⟨q + 1, by omega, by omega, by go_num, ?_, ?_, ?_, ?_⟩
          · rw [hq', HC1.out]
            exact HalfAt.push ⟨gA, 0, cpA, rfl, hcpA, HLA.out, hAN.below hWB hltA2, Nat.lt_of_lt_of_le hltA2 hWB.size, fun h => by have := (hvlt _ h).2; omega⟩ h62 h63
          · rw [hq', HD1.out]
            exact HalfAt.push ⟨gB, 0, cpB, rfl, hcpB, HLB.out, hNB.below hWB hltB, Nat.lt_of_lt_of_le hltB hWB.size, fun h => by have := (hvlt _ h).2; have := hy2A.size; omega⟩ h62 h63
          · rw [hq']
            refine KeysAt.push (fun j hj => ?_) (by rw [HVN.out]; omega) (by simp; omega) hl48 (hN5.alloc _) (fun h => by have := (hvlt _ h).2; have := hbw.size; have := hy4.size; omega) h61 h62 h63
            obtain ⟨u, hu, hr, hne⟩ := hrows j hj
            exact ⟨u, hu, hr.below hbw6 (Nat.le_refl _), hne⟩
          · exact (hbel.trans (hbw6.mono hbel.size)).grown h62 (Nat.le_trans hbel.size hbw6.size) (fun k hk => (hvlt k hk).1)
        case measure => simp [intOf]; omega
        
      · have t0 : ((q : Int) == 1) = false := by rw [beq_eq_false_iff_ne]; omega
        have t1 : ((q : Int) == 2) = false := by rw [beq_eq_false_iff_ne]; omega
        have t2 : ((q : Int) == 9) = false := by rw [beq_eq_false_iff_ne]; omega
        have t3 : ((q : Int) == 16) = false := by rw [beq_eq_false_iff_ne]; omega
        have hrot : rotN (q - 1) = 2 := by unfold rotN; rw [if_neg (by omega)]
        have hC1 := HC0.out (q - 1)
        have hD1 := HD0.out (q - 1)
        rw [hrot, hCe] at hC1
        rw [hrot, hDe] at hD1
        clear hc hrot
        have HC1 := Lib.hid hC1; clear hC1
        have HD1 := Lib.hid hD1; clear hD1
        go_wp2_with fail
        refine wp_region_tree (.q 1 (.q 2 (.q 3 (.q 5 (.q 6 (.q 7 (.e [0] fun _ => .e [4] fun _ => .e [8] fun _ => .q 9 .done))))))) (fun _ => True) rfl (by kernel_rfl) (fun _ _ d _ _ h => by cases d <;> exact h) ?_
        iterate 2 (refine t_q rfl rfl trivial _ (fun W hW => by (go_simp; rfl)) ?_; go_simp)
        refine t_q rfl rfl trivial (.slice (some ⟨gc, oc + 2, none⟩) 26 (cc - 2)) (fun W hW => by (go_simp; try omega)) ?_
        go_simp
        iterate 2 (refine t_q rfl rfl trivial _ (fun W hW => by (go_simp; rfl)) ?_; go_simp)
        refine t_q rfl rfl trivial (.slice (some ⟨gc, oc, none⟩) 2 cc) (fun W hW => by (go_simp; try omega)) ?_
        go_simp
        refine t_e rfl rfl fun K hK => ?_
        go_simp
        refine hK _ _ trivial ?_
        clear hK K
        change wpT _ _ _ _ _ _ ((wr).drew.alloc (.cells #[] 3))
        have hmA : OwnN 3 .i64 ((wr).drew.alloc (.cells #[] 3)) (wr).heap.size (.slice (some ⟨(wr).heap.size, 0, none⟩) 0 0) [] := OwnN.made _ _ (wr).drew _ (Nat.le_refl _)
        have hbA : Below (wr).heap.size wr ((wr).drew.alloc (.cells #[] 3)) := (below_drewN (Below.refl _ _) 1).alloc (Nat.le_refl _) _
        refine t_e rfl rfl fun K hK => ?_
        refine op_append_nums (.tmp 34) (.tmp 37) 28 rfl .i64 3 8 Tryz.underlying28 info_int (wr).heap.size wr _ [] rfl hmA hbA (by simp) _ 26 _ (C.drop 2) rfl (by rw [List.length_drop, lc]) ⟨_, _, rfl, (Ns.drewN (by have := Nc.sub 2 26; rwa [List.take_of_length_le (by rw [List.length_drop, lc]; decide)] at this) 1).alloc _⟩ (by simp) (by omega) fun x1A w1A hx1A hy1A hz1A => ?_
        refine hK _ _ trivial ?_
        clear hK K
        go_simp
        refine t_e rfl rfl fun K hK => ?_
        refine op_append_nums (.tmp 38) (.tmp 41) 28 rfl .i64 3 8 Tryz.underlying28 info_int (wr).heap.size wr _ ([] ++ C.drop 2) rfl hx1A hy1A hy1A.size _ 2 _ (C.take 2) rfl (by rw [List.length_take, lc]; decide) ⟨_, _, rfl, (by have := (Nc.below hy1A kc).sub 0 2; simpa using this)⟩ (by rw [List.nil_append, List.length_drop, lc]; decide) (by omega) fun x2A wA hx2A hy2A hz2A => ?_
        refine hK _ _ trivial ?_
        clear hK K
        go_simp
        refine t_q rfl rfl trivial _ (fun W hW => by (go_simp; rfl)) ?_
        go_simp
        refine t_done ?_
        rw [List.nil_append] at hx2A
        have hLA : (C.drop 2 ++ C.take 2).length = 28 := by rw [List.length_append, List.length_drop, List.length_take, lc]; decide
        obtain ⟨gA, cpA, rfl, hgA, hcpA, hltA, hNA⟩ := hx2A.at_ (by intro h; rw [h] at hLA; cases hLA)
        rw [hLA] at hcpA ⊢
        clear hx1A hx2A hmA
        have Nd := Nd.below hy2A kd
        have kd : gd < wA.heap.size := Nat.lt_of_lt_of_le kd hy2A.size
        go_wp2_with fail
        refine wp_region_tree (.q 1 (.q 2 (.q 3 (.q 5 (.q 6 (.q 7 (.e [0] fun _ => .e [4] fun _ => .e [8] fun _ => .q 9 .done))))))) (fun _ => True) rfl (by kernel_rfl) (fun _ _ d _ _ h => by cases d <;> exact h) ?_
        iterate 2 (refine t_q rfl rfl trivial _ (fun W hW => by (go_simp; rfl)) ?_; go_simp)
        refine t_q rfl rfl trivial (.slice (some ⟨gd, od + 2, none⟩) 26 (cd - 2)) (fun W hW => by (go_simp; try omega)) ?_
        go_simp
        iterate 2 (refine t_q rfl rfl trivial _ (fun W hW => by (go_simp; rfl)) ?_; go_simp)
        refine t_q rfl rfl trivial (.slice (some ⟨gd, od, none⟩) 2 cd) (fun W hW => by (go_simp; try omega)) ?_
        go_simp
        refine t_e rfl rfl fun K hK => ?_
        go_simp
        refine hK _ _ trivial ?_
        clear hK K
        change wpT _ _ _ _ _ _ ((wA).drew.alloc (.cells #[] 3))
        have hmB : OwnN 3 .i64 ((wA).drew.alloc (.cells #[] 3)) (wA).heap.size (.slice (some ⟨(wA).heap.size, 0, none⟩) 0 0) [] := OwnN.made _ _ (wA).drew _ (Nat.le_refl _)
        have hbB : Below (wA).heap.size wA ((wA).drew.alloc (.cells #[] 3)) := (below_drewN (Below.refl _ _) 1).alloc (Nat.le_refl _) _
        refine t_e rfl rfl fun K hK => ?_
        refine op_append_nums (.tmp 43) (.tmp 46) 28 rfl .i64 3 8 Tryz.underlying28 info_int (wA).heap.size wA _ [] rfl hmB hbB (by simp) _ 26 _ (D.drop 2) rfl (by rw [List.length_drop, ld]) ⟨_, _, rfl, (Ns.drewN (by have := Nd.sub 2 26; rwa [List.take_of_length_le (by rw [List.length_drop, ld]; decide)] at this) 1).alloc _⟩ (by simp) (by omega) fun x1B w1B hx1B hy1B hz1B => ?_
        refine hK _ _ trivial ?_
        clear hK K
        go_simp
        refine t_e rfl rfl fun K hK => ?_
        refine op_append_nums (.tmp 47) (.tmp 50) 28 rfl .i64 3 8 Tryz.underlying28 info_int (wA).heap.size wA _ ([] ++ D.drop 2) rfl hx1B hy1B hy1B.size _ 2 _ (D.take 2) rfl (by rw [List.length_take, ld]; decide) ⟨_, _, rfl, (by have := (Nd.below hy1B kd).sub 0 2; simpa using this)⟩ (by rw [List.nil_append, List.length_drop, ld]; decide) (by omega) fun x2B wB hx2B hy2B hz2B => ?_
        refine hK _ _ trivial ?_
        clear hK K
        go_simp
        refine t_q rfl rfl trivial _ (fun W hW => by (go_simp; rfl)) ?_
        go_simp
        refine t_done ?_
        rw [List.nil_append] at hx2B
        have hLB : (D.drop 2 ++ D.take 2).length = 28 := by rw [List.length_append, List.length_drop, List.length_take, ld]; decide
        obtain ⟨gB, cpB, rfl, hgB, hcpB, hltB, hNB⟩ := hx2B.at_ (by intro h; rw [h] at hLB; cases hLB)
        rw [hLB] at hcpB ⊢
        clear hx1B hx2B hmB
        have hAN := hNA.below hy2B hltA
        have hbw : Below wr.heap.size wr wB := hy2A.trans (hy2B.mono hy2A.size)
        have hmE : OwnN 3 .i64 (wB.alloc (.cells #[] 3)) wB.heap.size (.slice (some ⟨wB.heap.size, 0, none⟩) 0 0) [] := OwnN.made _ _ wB _ (Nat.le_refl _)
        have hbE : Below wB.heap.size wB (wB.alloc (.cells #[] 3)) := (Below.refl _ _).alloc (Nat.le_refl _) _
        have hltA2 : gA < wB.heap.size := Nat.lt_of_lt_of_le hltA hy2B.size
        obtain ⟨CA, hCA⟩ : ∃ CA, C.drop 2 ++ C.take 2 = CA := ⟨_, rfl⟩
        obtain ⟨DA, hDA⟩ : ∃ DA, D.drop 2 ++ D.take 2 = DA := ⟨_, rfl⟩
        rw [hCA] at hAN hLA HC1
        rw [hDA] at hNB hLB HD1
        rw [HC1.out, HD1.out] at HKR1
        clear hCA hDA hNA
        have HLA := Lib.hid hLA; clear hLA
        have HLB := Lib.hid hLB; clear hLB
        go_wp2_with (first
          | (at_builtin; refine wpList_append_nums rfl (.tmp 53) (.tmp 54) 28 rfl .i64 3 8 Tryz.underlying28 info_int wB.heap.size wB _ [] rfl hmE hbE (by simp) _ 28 _ CA rfl HLA.out ⟨_, _, rfl, hAN.alloc _⟩ (by simp) (by omega) ?_; intro x3 w3 hx3 hy3 hz3)
          | (at_builtin; refine wpList_append_nums rfl (.tmp 55) (.tmp 56) 28 rfl .i64 3 8 Tryz.underlying28 info_int wB.heap.size wB _ ([] ++ CA) rfl hx3 hy3 hy3.size _ 28 _ DA rfl HLB.out ⟨_, _, rfl, hNB.below hy3 hltB⟩ (by rw [List.nil_append, HLA.out]; decide) (by omega) ?_; intro x4 w4 hx4 hy4 hz4; rw [List.nil_append] at hx4; obtain ⟨A4, c4, rfl, -, hN4⟩ := hx4.form))
        have hL4 : (CA ++ DA).length = 56 := by rw [List.length_append, HLA.out, HLB.out]
        have HP2 := Lib.hid (fun (tab : ByteArray) (ht : Tab tab 56 psPC2) W hA => perm3_any (CA ++ DA) A4 c4 tab 56 psPC2 ht (by decide) (by rw [hL4]; decide) W hA)
        rw [← HKR1.out, hL4] at HP2
        rw [show CA.length + DA.length = 56 by rw [HLA.out, HLB.out]]
        refine (HP2.out _ (tab_of (by kernel_rfl)) _ hN4).mono ?_
        rintro e w5 ⟨⟨v5, rfl, hv5⟩, hb5⟩
        have hl48 := keyR_len key (q - 1)
        obtain ⟨g5, c5, rfl, hg5, hc5, hlt5, hN5⟩ := hv5.at_ (by intro h; rw [h] at hl48; cases hl48)
        rw [hl48]
        have hbw5 : Below wr.heap.size wr w5 := hbw.trans ((hy4.mono hbw.size).trans (hb5.mono (Nat.le_trans hbw.size hy4.size)))
        have hbw6 : Below wr.heap.size wr (w5.alloc (.cells #[.slice (some ⟨g5, 0, none⟩) 48 c5] 28)) := hbw5.alloc hbw5.size _
        have hu5 : (w5.alloc (.cells #[.slice (some ⟨g5, 0, none⟩) 48 c5] 28)).cell? ⟨w5.heap.size, 0, none⟩ = some (.slice (some ⟨g5, 0, none⟩) 48 c5) := (Blk.new w5 28 #[.slice (some ⟨g5, 0, none⟩) 48 c5]).cell 0
        clear hv5 hx4 hx3 HP2 hmE hbE
        go_wp2_with (at_builtin; go_loud (refine wpList_append_one rfl (.tmp 52) (.tmp 59) 219 rfl 28 24 Tryz.underlying219 info_ints w.heap.size _ (q - 1) vs rfl (owns_below hvs hbw6 (Nat.le_refl _)) (Nat.le_trans hbel.size hbw6.size) w5.heap.size 0 1 (.slice (some ⟨g5, 0, none⟩) 48 c5) rfl hu5 rfl (by omega) (by omega) ?_); intro v6 w6 h61 h62 h63)
        go_wp2
        go_roundw
        case rel =>
          have hq' : q + 1 - 1 = q - 1 + 1 := by omega
          have hWB : Below wB.heap.size wB (w5.alloc (.cells #[.slice (some ⟨g5, 0, none⟩) 48 c5] 28)) := (hy4.trans (hb5.mono hy4.size)).alloc (hy4.trans (hb5.mono hy4.size)).size _
          refine ⟨q + 1, by omega, by omega, by go_num, ?_, ?_, ?_, ?_⟩
          · rw [hq', HC1.out]
            exact HalfAt.push ⟨gA, 0, cpA, rfl, hcpA, HLA.out, hAN.below hWB hltA2, Nat.lt_of_lt_of_le hltA2 hWB.size, fun h => by have := (hvlt _ h).2; omega⟩ h62 h63
          · rw [hq', HD1.out]
            exact HalfAt.push ⟨gB, 0, cpB, rfl, hcpB, HLB.out, hNB.below hWB hltB, Nat.lt_of_lt_of_le hltB hWB.size, fun h => by have := (hvlt _ h).2; have := hy2A.size; omega⟩ h62 h63
          · rw [hq']
            refine KeysAt.push (fun j hj => ?_) (by rw [HVN.out]; omega) (by simp; omega) hl48 (hN5.alloc _) (fun h => by have := (hvlt _ h).2; have := hbw.size; have := hy4.size; omega) h61 h62 h63
            obtain ⟨u, hu, hr, hne⟩ := hrows j hj
            exact ⟨u, hu, hr.below hbw6 (Nat.le_refl _), hne⟩
          · exact (hbel.trans (hbw6.mono hbel.size)).grown h62 (Nat.le_trans hbel.size hbw6.size) (fun k hk => (hvlt k hk).1)
        case measure => simp [intOf]; omega
        
    · obtain rfl : q = 17 := by omega
      go_wp2
      go_ret
      exact ⟨⟨_, rfl, hKy⟩, hbel⟩
end Go.Proofs.YtfkjkkjimdilcaaGreatDoor

/- The contracts of lockboxref03.Block, Triple. -/
namespace Go.Proofs.YtfkjkkjimdilcaaGreatDoor
open Go Go.RowKit Pr

theorem ladderR_len (ks : Nat → List Nat) (L R : List Nat) (hL : L.length = 32) (hR : R.length = 32) : ∀ r, (ladderR ks L R r).1.length = 32 ∧ (ladderR ks L R r).2.length = 32
  | 0 => ⟨hL, hR⟩
  | r + 1 => by
    have h := ladderR_len ks L R hL hR r
    exact ⟨h.2, by simp [ladderR]⟩
theorem permR_lt (l ps : List Nat) (h : ∀ b ∈ l, b < 2) : ∀ b ∈ permR l ps, b < 2 := by
  intro b hb
  simp only [permR, List.mem_map] at hb
  obtain ⟨p, _, rfl⟩ := hb
  exact getD_lt2 l h _
theorem mixR_lt (half key : List Nat) : ∀ b ∈ mixR half key, b < 2 := by
  refine permR_lt _ _ ?_
  have : ∀ n, ∀ b ∈ outR half key n, b < 2 := by
    intro n
    induction n with
    | zero => intro b hb; cases hb
    | succ n ih =>
      intro b hb
      rw [outR] at hb
      rcases List.mem_append.1 hb with h | h
      · exact ih b h
      · simp only [nibR, List.mem_cons, List.not_mem_nil, or_false] at h
        rcases h with rfl | rfl | rfl | rfl <;> exact Nat.mod_lt _ (by omega)
  exact this 8
theorem mixR_len (half key : List Nat) : (mixR half key).length = 32 := permR_len _ _
theorem keyR_lt (key : List Nat) (r : Nat) : ∀ b ∈ keyR key r, b < 2 := by
  refine permR_lt _ _ ?_
  have hC : ∀ (c : List Nat), (∀ b ∈ c, b < 2) → ∀ n, ∀ b ∈ refC c n, b < 2 := by
    intro c hc n
    induction n with
    | zero => exact hc
    | succ n ih =>
      intro b hb
      rw [refC] at hb
      rcases List.mem_append.1 hb with h | h
      · exact ih b (List.mem_of_mem_drop h)
      · exact ih b (List.mem_of_mem_take h)
  have hp := permR_lt (bitsB key) psPC1 (bitsB_lt key)
  intro b hb
  rcases List.mem_append.1 hb with h | h
  · exact hC _ (fun b hb => hp b (List.mem_of_mem_take hb)) _ b h
  · exact hC _ (fun b hb => hp b (List.mem_of_mem_drop hb)) _ b h
theorem ladderR_lt (ks : Nat → List Nat) (L R : List Nat) (hL : ∀ b ∈ L, b < 2) (hR : ∀ b ∈ R, b < 2) : ∀ r, (∀ b ∈ (ladderR ks L R r).1, b < 2) ∧ (∀ b ∈ (ladderR ks L R r).2, b < 2)
  | 0 => ⟨hL, hR⟩
  | r + 1 => by
    have h := ladderR_lt ks L R hL hR r
    refine ⟨h.2, fun b hb => ?_⟩
    simp only [ladderR, List.mem_map] at hb
    obtain ⟨i, _, rfl⟩ := hb
    exact xor_lt2 _ _ (getD_lt2 _ h.1 i) (getD_lt2 _ (mixR_lt _ _) i)
theorem KeysAt.form {key : List Nat} {B : Nat} {w : World} {v : Value} (h : KeysAt key B w v 16) : ∃ g cap, v = .slice (some ⟨g, 0, none⟩) 16 cap ∧ g < w.heap.size ∧ ∀ j, j < 16 → ∃ gk ck, w.cell? ⟨g, j, none⟩ = some (.slice (some ⟨gk, 0, none⟩) 48 ck) ∧ gk < w.heap.size ∧ Ns .i64 w gk 0 (keyR key j) := by
  obtain ⟨vs, h1, h2⟩ := h
  obtain ⟨g, cap, rfl, hlt⟩ : ∃ g cap, v = .slice (some ⟨g, 0, none⟩) 16 cap ∧ g < w.heap.size := by
    rcases h1.2 with ⟨_, h0⟩ | ⟨g, cap, cur, hv, _⟩
    · omega
    · exact ⟨g, cap, hv, (World.ownsRow.lt h1 g (by rw [hv]; rfl)).2⟩
  refine ⟨g, cap, rfl, hlt, fun j hj => ?_⟩
  obtain ⟨u, hu, ⟨gk, ck, rfl, hk, hN⟩, _⟩ := h2 j hj
  have hc := World.ownsRow.cells h1 (g := g) rfl j _ hu
  rw [Addr.add_mid, Nat.zero_add] at hc
  rw [keyR_len] at hc
  exact ⟨gk, ck, hc, hk, hN⟩
/-- a row of bits somewhere -/
def BitsAt (w : World) (c : Value) (l : List Nat) : Prop := ∃ g o cp, c = .slice (some ⟨g, o, none⟩) 32 cp ∧ 32 ≤ cp ∧ Ns .i64 w g o l ∧ g < w.heap.size
theorem BitsAt.below {w w' : World} {c : Value} {l : List Nat} {B : Nat} (h : BitsAt w c l) (hb : Below B w w') (hB : w.heap.size ≤ B) : BitsAt w' c l := by
  obtain ⟨g, o, cp, rfl, h1, h3, h4⟩ := h
  exact ⟨g, o, cp, rfl, h1, h3.below hb (by omega), Nat.lt_of_lt_of_le h4 (Nat.le_trans (by omega) hb.size)⟩

/-- new numbers, all zero -/
theorem run_make_ints (kl kc : IntKind) (n : Nat) (hn : n ≤ 1000) (w : World) :
    (Instr.makeSlice 28 (.int kl (n : Int)) (.int kc (n : Int))).run Tryz.prog w = .ok (.slice (some ⟨w.heap.size, 0, none⟩) n n) (w.alloc (.cells (numCells .i64 (List.replicate n 0)) 3)) := by
  have h := run_make_row' 28 3 (.int .i64 0) 8 Tryz.underlying28 info_int rfl kl kc n (by omega) (by omega) w
  have e : madeCells #[Value.int .i64 0] n = numCells .i64 (List.replicate n 0) := by
    apply Array.ext
    · simp [madeCells, numCells]
    · intro i h1 h2
      simp [madeCells, numCells, Nat.mod_one]
  rw [← e]
  exact h
theorem wpList_make_ints {ops : Array Oper} {rest : List Oper} {op : Oper} {a : Act} {w : World} {Q : Exit → Act → World → Prop} (hgd : op.guard = none) (x y : Operand) (ho : op.op = .makeSlice 28 x y) (kl kc : IntKind) (i j : Int) (n : Nat) (hi : i = n) (hj : j = n) (hx : a.eval x = .int kl i) (hy : a.eval y = .int kc j) (hn : n ≤ 1000)
    (h : ∀ w', Below w.heap.size w w' → Blk w' w.heap.size 3 (numCells .i64 (List.replicate n 0)) → w'.heap.size = w.heap.size + 1 → wpList Tryz.prog ops Q rest (a.put op.dst (.slice (some ⟨w.heap.size, 0, none⟩) n n)) w') : wpList Tryz.prog ops Q (op :: rest) a w := by
  refine wpList_run hgd (v := .slice (some ⟨w.heap.size, 0, none⟩) n n) (w' := w.alloc (.cells (numCells .i64 (List.replicate n 0)) 3)) ?_ (h _ ((Below.refl _ _).alloc (Nat.le_refl _) _) (Blk.new w _ _) (by simp))
  unfold execOp
  simp only [ho, hx, hy, hi, hj, Sem.run_bind, run_make_ints kl kc n hn w, Result.andThen_ok]
  simp

set_option maxHeartbeats 8000000 in
set_option maxRecDepth 100000 in
theorem block3_any (key b : List Nat) (back : Bool) (hk : key.length = 8) (gk : ∀ c ∈ key, c < 256) (hb : b.length = 8) (gb : ∀ c ∈ b, c < 256) (A B : Option Addr) (ca cb : Nat) (w : World) (hA : At w A key) (hB : At w B b) :
    Calls Tryz.prog 117 #[.slice A 8 ca, .slice B 8 cb, .bool back] w fun e w' => (∃ v, e = .returned v ∧ Own w' w.heap.size v (blockN key b back)) ∧ Below w.heap.size w w' := by
  rw [← blockR_eq key b back hk gk hb gb]
  have HK := Lib.hid (fun W hA => keys3_any key hk gk A ca W hA)
  have HB := Lib.hid (fun W hB => bits_any b gb (by omega) B cb W hB)
  rw [hk] at HK
  rw [hb] at HB
  have hbl := bitsL_len b
  rw [hb] at hbl
  have hblt := bitsL_lt b
  have hdef : blockR key b back = bytesR (unR ((ladderR (pickR key back) ((permR (bitsL b) psIP).take 32) ((permR (bitsL b) psIP).drop 32) 16).2 ++ (ladderR (pickR key back) ((permR (bitsL b) psIP).take 32) ((permR (bitsL b) psIP).drop 32) 16).1) 64) := rfl
  rw [hdef]
  have h64 := permR_len (bitsL b) psIP
  have hMlt := permR_lt (bitsL b) psIP hblt
  rw [show psIP.length = 64 from rfl] at h64
  have hPick : ∀ r, pickR key back r = keyR key (if back then 15 - r else r) := fun r => rfl
  clear hdef hblt
  generalize bitsL b = L at *
  have HP := Lib.hid (fun A' c' (tab : ByteArray) (ht : Tab tab 64 psIP) W hA => perm3_any L A' c' tab 64 psIP ht (by decide) (by rw [hbl]; decide) W hA)
  rw [hbl] at HP
  generalize permR L psIP = M at *
  have hl0 : (M.take 32).length = 32 := by rw [List.length_take, h64]; rfl
  have hl1 : (M.drop 32).length = 32 := by rw [List.length_drop, h64]
  have hLR := ladderR_len (pickR key back) (M.take 32) (M.drop 32) hl0 hl1
  have hLT := ladderR_lt (pickR key back) (M.take 32) (M.drop 32) (fun b hb => hMlt b (List.mem_of_mem_take hb)) (fun b hb => hMlt b (List.mem_of_mem_drop hb))
  have hKlt := fun r => keyR_lt key r
  have hKln := fun r => keyR_len key r
  have hstep : ∀ r, ladderR (pickR key back) (M.take 32) (M.drop 32) (r + 1) = ((ladderR (pickR key back) (M.take 32) (M.drop 32) r).2, (List.range 32).map fun i => (ladderR (pickR key back) (M.take 32) (M.drop 32) r).1.getD i 0 ^^^ (mixR (ladderR (pickR key back) (M.take 32) (M.drop 32) r).2 (pickR key back r)).getD i 0) := fun r => rfl
  have h0 : ladderR (pickR key back) (M.take 32) (M.drop 32) 0 = (M.take 32, M.drop 32) := rfl
  generalize ladderR (pickR key back) (M.take 32) (M.drop 32) = LD at *
  generalize pickR key back = PK at *
  have HLR := Lib.hid hLR; clear hLR
  have HLT := Lib.hid hLT; clear hLT
  have HKLT := Lib.hid hKlt; clear hKlt
  have HKLN := Lib.hid hKln; clear hKln
  have HST := Lib.hid hstep; clear hstep
  have H0 := Lib.hid h0; clear h0
  have HPK := Lib.hid hPick; clear hPick
  have HBL := Lib.hid hbl; clear hbl
  have H64 := Lib.hid h64; clear h64
  clear hk gk hb gb hMlt hl0 hl1
  go_enter Tryz.func117, Tryz.ntmps117
  go_wp2_with fail
  refine (HK.out _ hA).mono ?_
  rintro e w1 ⟨⟨v, rfl, hv⟩, hb1⟩
  obtain ⟨gK, cK, rfl, hgK, hKc⟩ := hv.form
  clear hv HK
  go_wp2_with fail
  refine (HB.out _ (hB.below hb1 (Nat.le_refl _))).mono ?_
  rintro e w2 ⟨⟨v, rfl, hv⟩, hb2⟩
  obtain ⟨A1, c1, rfl, -, hN1⟩ := hv.form
  rw [HBL.out]
  clear hv HB
  go_wp2_with fail
  refine (HP.out _ _ _ (tab_of (by kernel_rfl)) _ hN1).mono ?_
  rintro e w3 ⟨⟨v, rfl, hv⟩, hb3⟩
  obtain ⟨g, cap, rfl, -, hcap, hg, hN⟩ := hv.at_ (by intro h; have := H64.out; rw [h] at this; cases this)
  rw [H64.out] at hcap ⊢
  have hb12 : Below w1.heap.size w1 w3 := hb2.trans (hb3.mono hb2.size)
  have hb13 : Below w.heap.size w w3 := hb1.trans (hb12.mono hb1.size)
  have hKc3 : ∀ W, Below w3.heap.size w3 W → ∀ j, j < 16 → ∃ gk ck, W.cell? ⟨gK, j, none⟩ = some (.slice (some ⟨gk, 0, none⟩) 48 ck) ∧ gk < W.heap.size ∧ Ns .i64 W gk 0 (keyR key j) := fun W hW j hj => by
    obtain ⟨gk, ck, h1, h2, h3⟩ := hKc j hj
    have hs := hb12.size
    have hx := (hb12.trans (hW.mono hs))
    exact ⟨gk, ck, (hx.cell (p := ⟨gK, j, none⟩) hgK).trans h1, Nat.lt_of_lt_of_le h2 (Nat.le_trans hs hW.size), h3.below hx h2⟩
  have hci : (64 : Int) ≤ (cap : Int) := by omega
  have hci2 : (32 : Int) ≤ (cap : Int) := by omega
  have hci3 : ¬ cap = 32 := by omega
  have hBL : BitsAt w3 (.slice (some ⟨g, 0, none⟩) 32 cap) (LD 0).1 := ⟨g, 0, cap, rfl, by omega, by have := hN.sub 0 32; rw [H0.out]; simpa using this, hg⟩
  have hBR : BitsAt w3 (.slice (some ⟨g, 32, none⟩) 32 (cap - 32)) (LD 0).2 := ⟨g, 32, cap - 32, rfl, by omega, by have := hN.sub 32 32; rw [H0.out]; rwa [Nat.zero_add, List.take_of_length_le (by rw [List.length_drop, H64.out]; decide)] at this, hg⟩
  clear hv hN hN1 hb1 hb2 hb3 HP hKc hb12
  have HBLt := Lib.hid hBL; clear hBL
  have HBRt := Lib.hid hBR; clear hBR
  have HKC := Lib.hid hKc3; clear hKc3
  go_wp2
  go_loopw [9, 10, 11, 12, 13, 14, 15] (fun l r i _ _ _ _ wr => ∃ k : Nat, k ≤ 16 ∧ i = .int .i64 k ∧ BitsAt wr l (LD k).1 ∧ BitsAt wr r (LD k).2 ∧ Below w3.heap.size w3 wr) (fun _ _ i _ _ _ _ _ => 16 - (intOf i).toNat)
  case atStart => exact ⟨0, by omega, rfl, HBLt.out, HBRt.out, Below.refl _ _⟩
  case round =>
    obtain ⟨k, hk, rfl, ⟨gl, ol, cl, rfl, hcl, Nl, kl⟩, ⟨gr, or_, cr, rfl, hcr, Nr, kr⟩, hbel⟩ := hrel
    by_cases hlt : k < 16
    · have hki : (k : Int) < 16 := by omega
      cases back with
      | false =>
        obtain ⟨gk, ck, hkc, hkg, hkN⟩ := HKC.out wr hbel k hlt
        have hPKk : PK k = keyR key k := HPK.out k
        have hl48 := HKLN.out k
        have hlt48 := HKLT.out k
        generalize keyR key k = KK at *
        have hst := HST.out k
        rw [hPKk] at hst
        obtain ⟨hlL, hlR⟩ := HLR.out k
        obtain ⟨htL, htR⟩ := HLT.out k
        have hst1 : (LD (k + 1)).1 = (LD k).2 := by rw [hst]
        have hst2 : (LD (k + 1)).2 = (List.range 32).map fun i => (LD k).1.getD i 0 ^^^ (mixR (LD k).2 KK).getD i 0 := by rw [hst]
        have hN32 := (HLR.out (k + 1)).2
        clear hst hPKk
        have HS1 := Lib.hid hst1; clear hst1
        generalize hNd : (LD (k + 1)).2 = N at *
        have HND := Lib.hid hNd; clear hNd
        generalize (LD k).1 = LL at *
        generalize (LD k).2 = RR at *
        have HMX := Lib.hid (fun W a b => mix3_any RR KK hlR hl48 htR hlt48 (some ⟨gr, or_, none⟩) (some ⟨gk, 0, none⟩) cr ck W a b)
        rw [hlR, hl48] at HMX
        have hF32 := mixR_len RR KK
        have hFlt := mixR_lt RR KK
        generalize mixR RR KK = FF at *
        have hNt : ∀ j, j < 32 → N.take (j + 1) = N.take j ++ [LL.getD j 0 ^^^ FF.getD j 0] := fun j hj => by
          rw [List.take_succ_eq_append_getElem (by rw [hN32]; exact hj)]
          subst hst2
          simp
        have HNT := Lib.hid hNt; clear hNt hst2
        have HN32 := Lib.hid hN32; clear hN32
        have HF32 := Lib.hid hF32; clear hF32
        have HLL := Lib.hid hlL; clear hlL
        have HLLt := Lib.hid (fun j => getD_lt2 LL htL j)
        have HFFt := Lib.hid (fun j => getD_lt2 FF hFlt j)
        have HRR := Lib.hid hlR; clear hlR
        clear hl48 hlt48 htL htR hFlt
        go_wp2_with fail
        refine (HMX.out _ (fun _ => ⟨_, _, rfl, Nr⟩) (fun _ => ⟨_, _, rfl, hkN⟩)).mono ?_
        rintro e w4 ⟨⟨v, rfl, hv⟩, hb4⟩
        obtain ⟨gF, cF, rfl, -, -, hgF, hNF⟩ := hv.at_ (by intro h; have := HF32.out; rw [h] at this; cases this)
        rw [HF32.out]
        have hNl4 : ∀ W, Below w4.heap.size w4 W → ∀ j, j < 32 → W.cell? ⟨gl, ol + j, none⟩ = some (.int .i64 (LL.getD j 0 : Nat)) := fun W hW j hj => by
          rw [getD_of _ _ (by rw [HLL.out]; exact hj)]
          exact ((Nl.below hb4 kl).below hW (Nat.lt_of_lt_of_le kl hb4.size)).cell j (by rw [HLL.out]; exact hj)
        have hNf4 : ∀ W, Below w4.heap.size w4 W → ∀ j, j < 32 → W.cell? ⟨gF, j, none⟩ = some (.int .i64 (FF.getD j 0 : Nat)) := fun W hW j hj => by
          rw [getD_of _ _ (by rw [HF32.out]; exact hj)]
          have := (hNF.below hW hgF).cell j (by rw [HF32.out]; exact hj)
          rwa [Nat.zero_add] at this
        have HNL := Lib.hid hNl4; clear hNl4
        have HNF := Lib.hid hNf4; clear hNf4
        have hbel4 : Below w3.heap.size w3 w4 := hbel.trans (hb4.mono hbel.size)
        have hBR4 : BitsAt w4 (.slice (some ⟨gr, or_, none⟩) 32 cr) RR := BitsAt.below ⟨gr, or_, cr, rfl, hcr, Nr, kr⟩ hb4 (Nat.le_refl _)
        have HBR4 := Lib.hid hBR4; clear hBR4
        clear hv hNF HMX Nl Nr hkN hb4 kl kr
        go_wp2
        go_loopw [14, 15] (fun v i wr => ∃ j : Nat, j ≤ 32 ∧ i = .int .i64 j ∧ OwnN 3 .i64 wr w4.heap.size v (N.take j) ∧ Below w4.heap.size w4 wr) (fun _ i _ => 32 - (intOf i).toNat)
        case atStart => exact ⟨0, by omega, rfl, OwnN.nil _ _ _ _, Below.refl _ _⟩
        case round =>
          obtain ⟨j, hj, rfl, hown, hbl5⟩ := hrel
          by_cases hj2 : j < 32
          · have hji : (j : Int) < 32 := by omega
            have hx := i64_xor_bits _ _ (HLLt.out j) (HFFt.out j)
            have hst := HNT.out j hj2
            have hL1 := fun W hW => HNL.out W hW j hj2
            have hL2 := fun W hW => HNF.out W hW j hj2
            generalize LL.getD j 0 = x1 at *
            generalize FF.getD j 0 = x2 at *
            generalize x1 ^^^ x2 = x at *
            have hl4 : (N.take j).length ≤ 32 := by rw [List.length_take]; omega
            obtain ⟨T, hT⟩ : ∃ T, N.take j = T := ⟨_, rfl⟩
            rw [hT] at hst hown hl4
            clear hT
            have HSTj := Lib.hid hst; clear hst
            have HX := Lib.hid hx; clear hx
            have HL1 := Lib.hid hL1; clear hL1
            have HL2 := Lib.hid hL2; clear hL2
            go_wp2_with fail
            refine wp_region_tree (.q 0 (.q 1 (.q 2 (.q 3 (.q 4 (.q 5 (.q 6 (.q 7 (.q 8 (.q 9 (.e [10] fun _ => .e [11] fun _ => .q 12 .done))))))))))) (fun W => Below w4.heap.size w4 W) rfl (by kernel_rfl) (fun _ _ d _ _ h => by cases d <;> exact h) ?_
            have hw3 : Below w4.heap.size w4 wr.drew := below_drewN hbl5 1
            have hszr : w4.heap.size ≤ wr.heap.size := hbl5.size
            iterate 3 (refine t_q rfl rfl hw3 _ (fun W hW => by (go_simp; rfl)) ?_; go_simp)
            refine t_q rfl rfl hw3 (.pointer (some ⟨gl, ol + j, none⟩)) (fun W hW => by go_simp) ?_
            go_simp
            refine t_q rfl rfl hw3 (.int .i64 (x1 : Nat)) (fun W hW => by (have hc := HL1.out W hW; go_simp)) ?_
            go_simp
            iterate 2 (refine t_q rfl rfl hw3 _ (fun W hW => by (go_simp; rfl)) ?_; go_simp)
            refine t_q rfl rfl hw3 (.pointer (some ⟨gF, j, none⟩)) (fun W hW => by go_simp) ?_
            go_simp
            refine t_q rfl rfl hw3 (.int .i64 (x2 : Nat)) (fun W hW => by (have hc := HL2.out W hW; go_simp)) ?_
            go_simp
            refine t_q rfl rfl hw3 (.int .i64 (x : Nat)) (fun W hW => by (go_simp; exact HX.out)) ?_
            go_simp
            refine t_e rfl rfl fun K hK => ?_
            go_simp
            refine hK _ _ (hw3.alloc (by simpa using hszr) _) ?_
            clear hK K
            change wpT _ _ _ _ _ _ (wr.drew.alloc (.cells #[.int .i64 (x : Int)] 3))
            have hown4 : OwnN 3 .i64 (wr.drew.alloc (.cells #[.int .i64 (x : Int)] 3)) w4.heap.size _ T := OwnN.below hown ((below_drewN (Below.refl wr.heap.size wr) 1).alloc (Nat.le_refl _) _) (Nat.le_refl _)
            refine t_e rfl rfl fun K hK => ?_
            refine op_append_nums (.tmp 49) (.tmp 59) 28 rfl .i64 3 8 Tryz.underlying28 info_int w4.heap.size w4 _ T rfl hown4 (hw3.alloc (by simpa using hszr) _) (by simp; omega) _ 1 1 [x] rfl rfl ⟨_, _, rfl, Ns.new .i64 wr.drew 3 x⟩ (by omega) (by omega) fun v5 w5 hown5 hbel5 hsz5 => ?_
            rw [← HSTj.out] at hown5
            refine hK _ _ hbel5 ?_
            clear hK K
            go_simp
            refine t_q rfl rfl hbel5 _ (fun W hW => by (go_simp; rfl)) ?_
            go_simp
            refine t_done ?_
            go_wp2
            go_roundw
            case rel => exact ⟨j + 1, by omega, by go_num, hown5, hbel5⟩
            case measure => simp [intOf]; omega
          · obtain rfl : j = 32 := by omega
            have hN : N.take 32 = N := List.take_of_length_le (by rw [HN32.out]; exact Nat.le_refl _)
            rw [hN] at hown
            clear hN
            obtain ⟨gN, cN, rfl, -, hcN, hgN, hNN⟩ := hown.at_ (by intro h; have := HN32.out; rw [h] at this; cases this)
            rw [HN32.out] at hcN ⊢
            have hBR5 := HBR4.out.below hbl5 (Nat.le_refl _)
            rw [← HS1.out] at hBR5
            have HBR5 := Lib.hid hBR5; clear hBR5
            clear hown
            go_wp2
            go_roundw
            case rel => exact ⟨k + 1, by omega, by go_num, HBR5.out, ⟨gN, 0, cN, rfl, hcN, by rw [HND.out]; exact hNN, hgN⟩, hbel4.trans (hbl5.mono hbel4.size)⟩
            case measure => simp [intOf]; omega
      | true =>
        obtain ⟨gz, cz, hkz, -, -⟩ := HKC.out wr hbel k hlt
        obtain ⟨gk, ck, hkc, hkg, hkN⟩ := HKC.out wr hbel (15 - k) (by omega)
        have hPKk : PK k = keyR key (15 - k) := HPK.out k
        have e15 : (15 - (k : Int)).toNat = 15 - k := by omega
        have e15a : (0 : Int) ≤ 15 - (k : Int) := by omega
        have e15b : 15 - (k : Int) < 16 := by omega
        have hl48 := HKLN.out (15 - k)
        have hlt48 := HKLT.out (15 - k)
        generalize keyR key (15 - k) = KK at *
        have hst := HST.out k
        rw [hPKk] at hst
        obtain ⟨hlL, hlR⟩ := HLR.out k
        obtain ⟨htL, htR⟩ := HLT.out k
        have hst1 : (LD (k + 1)).1 = (LD k).2 := by rw [hst]
        have hst2 : (LD (k + 1)).2 = (List.range 32).map fun i => (LD k).1.getD i 0 ^^^ (mixR (LD k).2 KK).getD i 0 := by rw [hst]
        have hN32 := (HLR.out (k + 1)).2
        clear hst hPKk
        have HS1 := Lib.hid hst1; clear hst1
        generalize hNd : (LD (k + 1)).2 = N at *
        have HND := Lib.hid hNd; clear hNd
        generalize (LD k).1 = LL at *
        generalize (LD k).2 = RR at *
        have HMX := Lib.hid (fun W a b => mix3_any RR KK hlR hl48 htR hlt48 (some ⟨gr, or_, none⟩) (some ⟨gk, 0, none⟩) cr ck W a b)
        rw [hlR, hl48] at HMX
        have hF32 := mixR_len RR KK
        have hFlt := mixR_lt RR KK
        generalize mixR RR KK = FF at *
        have hNt : ∀ j, j < 32 → N.take (j + 1) = N.take j ++ [LL.getD j 0 ^^^ FF.getD j 0] := fun j hj => by
          rw [List.take_succ_eq_append_getElem (by rw [hN32]; exact hj)]
          subst hst2
          simp
        have HNT := Lib.hid hNt; clear hNt hst2
        have HN32 := Lib.hid hN32; clear hN32
        have HF32 := Lib.hid hF32; clear hF32
        have HLL := Lib.hid hlL; clear hlL
        have HLLt := Lib.hid (fun j => getD_lt2 LL htL j)
        have HFFt := Lib.hid (fun j => getD_lt2 FF hFlt j)
        have HRR := Lib.hid hlR; clear hlR
        clear hl48 hlt48 htL htR hFlt
        go_wp2_with fail
        refine (HMX.out _ (fun _ => ⟨_, _, rfl, Nr⟩) (fun _ => ⟨_, _, rfl, hkN⟩)).mono ?_
        rintro e w4 ⟨⟨v, rfl, hv⟩, hb4⟩
        obtain ⟨gF, cF, rfl, -, -, hgF, hNF⟩ := hv.at_ (by intro h; have := HF32.out; rw [h] at this; cases this)
        rw [HF32.out]
        have hNl4 : ∀ W, Below w4.heap.size w4 W → ∀ j, j < 32 → W.cell? ⟨gl, ol + j, none⟩ = some (.int .i64 (LL.getD j 0 : Nat)) := fun W hW j hj => by
          rw [getD_of _ _ (by rw [HLL.out]; exact hj)]
          exact ((Nl.below hb4 kl).below hW (Nat.lt_of_lt_of_le kl hb4.size)).cell j (by rw [HLL.out]; exact hj)
        have hNf4 : ∀ W, Below w4.heap.size w4 W → ∀ j, j < 32 → W.cell? ⟨gF, j, none⟩ = some (.int .i64 (FF.getD j 0 : Nat)) := fun W hW j hj => by
          rw [getD_of _ _ (by rw [HF32.out]; exact hj)]
          have := (hNF.below hW hgF).cell j (by rw [HF32.out]; exact hj)
          rwa [Nat.zero_add] at this
        have HNL := Lib.hid hNl4; clear hNl4
        have HNF := Lib.hid hNf4; clear hNf4
        have hbel4 : Below w3.heap.size w3 w4 := hbel.trans (hb4.mono hbel.size)
        have hBR4 : BitsAt w4 (.slice (some ⟨gr, or_, none⟩) 32 cr) RR := BitsAt.below ⟨gr, or_, cr, rfl, hcr, Nr, kr⟩ hb4 (Nat.le_refl _)
        have HBR4 := Lib.hid hBR4; clear hBR4
        clear hv hNF HMX Nl Nr hkN hb4 kl kr
        go_wp2
        go_loopw [14, 15] (fun v i wr => ∃ j : Nat, j ≤ 32 ∧ i = .int .i64 j ∧ OwnN 3 .i64 wr w4.heap.size v (N.take j) ∧ Below w4.heap.size w4 wr) (fun _ i _ => 32 - (intOf i).toNat)
        case atStart => exact ⟨0, by omega, rfl, OwnN.nil _ _ _ _, Below.refl _ _⟩
        case round =>
          obtain ⟨j, hj, rfl, hown, hbl5⟩ := hrel
          by_cases hj2 : j < 32
          · have hji : (j : Int) < 32 := by omega
            have hx := i64_xor_bits _ _ (HLLt.out j) (HFFt.out j)
            have hst := HNT.out j hj2
            have hL1 := fun W hW => HNL.out W hW j hj2
            have hL2 := fun W hW => HNF.out W hW j hj2
            generalize LL.getD j 0 = x1 at *
            generalize FF.getD j 0 = x2 at *
            generalize x1 ^^^ x2 = x at *
            have hl4 : (N.take j).length ≤ 32 := by rw [List.length_take]; omega
            obtain ⟨T, hT⟩ : ∃ T, N.take j = T := ⟨_, rfl⟩
            rw [hT] at hst hown hl4
            clear hT
            have HSTj := Lib.hid hst; clear hst
            have HX := Lib.hid hx; clear hx
            have HL1 := Lib.hid hL1; clear hL1
            have HL2 := Lib.hid hL2; clear hL2
            go_wp2_with fail
            refine wp_region_tree (.q 0 (.q 1 (.q 2 (.q 3 (.q 4 (.q 5 (.q 6 (.q 7 (.q 8 (.q 9 (.e [10] fun _ => .e [11] fun _ => .q 12 .done))))))))))) (fun W => Below w4.heap.size w4 W) rfl (by kernel_rfl) (fun _ _ d _ _ h => by cases d <;> exact h) ?_
            have hw3 : Below w4.heap.size w4 wr.drew := below_drewN hbl5 1
            have hszr : w4.heap.size ≤ wr.heap.size := hbl5.size
            iterate 3 (refine t_q rfl rfl hw3 _ (fun W hW => by (go_simp; rfl)) ?_; go_simp)
            refine t_q rfl rfl hw3 (.pointer (some ⟨gl, ol + j, none⟩)) (fun W hW => by go_simp) ?_
            go_simp
            refine t_q rfl rfl hw3 (.int .i64 (x1 : Nat)) (fun W hW => by (have hc := HL1.out W hW; go_simp)) ?_
            go_simp
            iterate 2 (refine t_q rfl rfl hw3 _ (fun W hW => by (go_simp; rfl)) ?_; go_simp)
            refine t_q rfl rfl hw3 (.pointer (some ⟨gF, j, none⟩)) (fun W hW => by go_simp) ?_
            go_simp
            refine t_q rfl rfl hw3 (.int .i64 (x2 : Nat)) (fun W hW => by (have hc := HL2.out W hW; go_simp)) ?_
            go_simp
            refine t_q rfl rfl hw3 (.int .i64 (x : Nat)) (fun W hW => by (go_simp; exact HX.out)) ?_
            go_simp
            refine t_e rfl rfl fun K hK => ?_
            go_simp
            refine hK _ _ (hw3.alloc (by simpa using hszr) _) ?_
            clear hK K
            change wpT _ _ _ _ _ _ (wr.drew.alloc (.cells #[.int .i64 (x : Int)] 3))
            have hown4 : OwnN 3 .i64 (wr.drew.alloc (.cells #[.int .i64 (x : Int)] 3)) w4.heap.size _ T := OwnN.below hown ((below_drewN (Below.refl wr.heap.size wr) 1).alloc (Nat.le_refl _) _) (Nat.le_refl _)
            refine t_e rfl rfl fun K hK => ?_
            refine op_append_nums (.tmp 49) (.tmp 59) 28 rfl .i64 3 8 Tryz.underlying28 info_int w4.heap.size w4 _ T rfl hown4 (hw3.alloc (by simpa using hszr) _) (by simp; omega) _ 1 1 [x] rfl rfl ⟨_, _, rfl, Ns.new .i64 wr.drew 3 x⟩ (by omega) (by omega) fun v5 w5 hown5 hbel5 hsz5 => ?_
            rw [← HSTj.out] at hown5
            refine hK _ _ hbel5 ?_
            clear hK K
            go_simp
            refine t_q rfl rfl hbel5 _ (fun W hW => by (go_simp; rfl)) ?_
            go_simp
            refine t_done ?_
            go_wp2
            go_roundw
            case rel => exact ⟨j + 1, by omega, by go_num, hown5, hbel5⟩
            case measure => simp [intOf]; omega
          · obtain rfl : j = 32 := by omega
            have hN : N.take 32 = N := List.take_of_length_le (by rw [HN32.out]; exact Nat.le_refl _)
            rw [hN] at hown
            clear hN
            obtain ⟨gN, cN, rfl, -, hcN, hgN, hNN⟩ := hown.at_ (by intro h; have := HN32.out; rw [h] at this; cases this)
            rw [HN32.out] at hcN ⊢
            have hBR5 := HBR4.out.below hbl5 (Nat.le_refl _)
            rw [← HS1.out] at hBR5
            have HBR5 := Lib.hid hBR5; clear hBR5
            clear hown
            go_wp2
            go_roundw
            case rel => exact ⟨k + 1, by omega, by go_num, HBR5.out, ⟨gN, 0, cN, rfl, hcN, by rw [HND.out]; exact hNN, hgN⟩, hbel4.trans (hbl5.mono hbel4.size)⟩
            case measure => simp [intOf]; omega
    · obtain rfl : k = 16 := by omega
      obtain ⟨wo, rfl⟩ : ∃ wo, wo = wr := ⟨_, rfl⟩
      obtain ⟨hlL, hlR⟩ := HLR.out 16
      obtain ⟨htL, htR⟩ := HLT.out 16
      generalize hLe : (LD 16).1 = LL at *
      generalize hRe : (LD 16).2 = RR at *
      have HLE := Lib.hid hLe; clear hLe
      have HRE := Lib.hid hRe; clear hRe
      have hmE : OwnN 3 .i64 (wo.alloc (.cells #[] 3)) wo.heap.size (.slice (some ⟨wo.heap.size, 0, none⟩) 0 0) [] := OwnN.made _ _ wo _ (Nat.le_refl _)
      have hbE : Below wo.heap.size wo (wo.alloc (.cells #[] 3)) := (Below.refl _ _).alloc (Nat.le_refl _) _
      have hXt : ∀ b ∈ RR ++ LL, b < 2 := fun b hb => by
        rcases List.mem_append.1 hb with h | h
        · exact htR b h
        · exact htL b h
      have hX64 : (RR ++ LL).length = 64 := by rw [List.length_append, hlR, hlL]
      have HLL := Lib.hid hlL; clear hlL
      have HRR := Lib.hid hlR; clear hlR
      clear htL htR
      go_wp2_with (first
        | (at_builtin; refine wpList_append_nums rfl (.tmp 63) (.tmp 64) 28 rfl .i64 3 8 Tryz.underlying28 info_int wo.heap.size wo _ [] rfl hmE hbE (by simp) _ 32 _ RR rfl HRR.out ⟨_, _, rfl, Nr.alloc _⟩ (by simp) (by omega) ?_; intro x4 w4 hx4 hy4 hz4)
        | (at_builtin; refine wpList_append_nums rfl (.tmp 65) (.tmp 66) 28 rfl .i64 3 8 Tryz.underlying28 info_int wo.heap.size wo _ ([] ++ RR) rfl hx4 hy4 hy4.size _ 32 _ LL rfl HLL.out ⟨_, _, rfl, Nl.below hy4 kl⟩ (by rw [List.nil_append, HRR.out]; decide) (by omega) ?_; intro x5 w5 hx5 hy5 hz5; rw [List.nil_append] at hx5)
        | (refine wpList_make_ints rfl _ _ rfl .i64 .i64 64 64 64 rfl rfl rfl rfl (by omega) ?_; intro w6 hb6 hB6 hs6))
      obtain ⟨gX, cX, rfl, -, -, hgX, hNX⟩ := hx5.at_ (by intro h; rw [h] at hX64; cases hX64)
      rw [hX64]
      have hXc : ∀ W, Below w5.heap.size w5 W → ∀ j, j < 64 → W.cell? ⟨gX, j, none⟩ = some (.int .i64 ((RR ++ LL).getD j 0 : Nat)) := fun W hW j hj => by
        rw [getD_of _ _ (by rw [hX64]; exact hj)]
        have := (hNX.below hW hgX).cell j (by rw [hX64]; exact hj)
        rwa [Nat.zero_add] at this
      have hU0 : List.replicate 64 0 = unR (RR ++ LL) 0 := rfl
      rw [hU0] at hB6
      clear hU0
      have hUl := fun k => unR_len (RR ++ LL) k
      have hUt := fun k => unR_lt (RR ++ LL) hXt k
      have hUs : ∀ k, unR (RR ++ LL) (k + 1) = (unR (RR ++ LL) k).set (psIP.getD k 0 - 1) ((RR ++ LL).getD k 0) := fun k => rfl
      have HXC := Lib.hid hXc; clear hXc
      have HUL := Lib.hid hUl; clear hUl
      have HUT := Lib.hid hUt; clear hUt
      have HUS := Lib.hid hUs; clear hUs
      generalize hXX : (RR ++ LL) = XX at *
      have HXX := Lib.hid hXX; clear hXX
      have hPl := Lib.hid (fun (tab : ByteArray) (ht : Tab tab 64 psIP) (j : Nat) (hj : j < 64) W => place3_any tab 64 psIP ht (by decide) j hj W)
      have hpok := Lib.hid psIP_ok
      have hpget : ∀ j (hj : j < 64), psIP[j]'hj = psIP.getD j 0 := fun j hj => (getD_of psIP j hj).symm
      have HPG := Lib.hid hpget; clear hpget
      clear hx5 hx4 hNX hX64 hXt Nl Nr hmE hbE
      obtain ⟨go, hgo⟩ : ∃ go, w5.heap.size = go := ⟨_, rfl⟩
      rw [hgo] at hB6 hb6 HXC ⊢
      have HB6 := Lib.hid hB6; clear hB6
      go_wp2
      go_loopw [18] (fun i wx => ∃ k : Nat, k ≤ 64 ∧ i = .int .i64 k ∧ Blk wx go 3 (numCells .i64 (unR XX k)) ∧ Below go w5 wx) (fun i _ => 64 - (intOf i).toNat)
      case atStart => exact ⟨0, by omega, rfl, HB6.out, hb6⟩
      case round =>
        obtain ⟨k, hk, rfl, hBk, hbk⟩ := hrel
        by_cases hlt : k < 64
        · have hki : (k : Int) < 64 := by omega
          have hX1 := fun W hW => HXC.out W hW k hlt
          have hus := HUS.out k
          have hul := HUL.out k
          obtain ⟨p1, p2⟩ := hpok.out k hlt
          have hpg := HPG.out k hlt
          have hPl1 := fun tab ht W => hPl.out tab ht k hlt W
          simp only [hpg] at hPl1
          clear hpg
          generalize psIP.getD k 0 = p at *
          generalize XX.getD k 0 = x at *
          generalize unR XX k = U at *
          have HUSk := Lib.hid hus; clear hus
          have HX1 := Lib.hid hX1; clear hX1
          have HPL1 := Lib.hid hPl1; clear hPl1
          have e1 : IntKind.i64.wrap ((p : Int) - 1) = ((p - 1 : Nat) : Int) := by rw [IntWalk.i64_in _ (by omega)]; omega
          have e2 : ((p : Int) - 1).toNat = p - 1 := by omega
          go_wp2_with fail
          refine wp_region_tree (.q 0 (.q 1 (.q 4 (.q 5 (.q 6 (.q 7 (.e [2] fun _ => .q 3 (.q 8 (.e [9] fun _ => .done))))))))) (fun W => Below go w5 W) rfl (by kernel_rfl) (fun _ _ d _ _ h => by cases d <;> exact h) ?_
          have hw3 : Below go w5 wr.drew := below_drewN hbk 1
          iterate 4 (refine t_q rfl rfl hw3 _ (fun W hW => by (go_simp; rfl)) ?_; go_simp)
          refine t_q rfl rfl hw3 (.pointer (some ⟨gX, k, none⟩)) (fun W hW => by go_simp) ?_
          go_simp
          refine t_q rfl rfl hw3 (.int .i64 (x : Nat)) (fun W hW => by (have hc := HX1.out W hW; go_simp)) ?_
          go_simp
          refine t_e rfl rfl fun K hK => ?_
          go_simp
          refine (HPL1.out _ (tab_of (by kernel_rfl)) _).mono ?_
          rintro e wy ⟨rfl, ny, rfl⟩
          refine hK _ _ (below_drewN hw3 _) ?_
          clear hK K
          go_simp
          have hw4 : Below go w5 (wr.drewN (1 + ny)) := below_drewN hbk _
          have hB4 : Blk (wr.drewN (1 + ny)) go 3 (numCells .i64 U) := hBk.drewN _
          generalize wr.drewN (1 + ny) = wz at *
          refine t_q rfl rfl hw4 (.int .i64 ((p - 1 : Nat) : Int)) (fun W hW => by go_simp) ?_
          go_simp
          have hpi : ((p - 1 : Nat) : Int) < 64 := by omega
          refine t_q rfl rfl hw4 (.pointer (some ⟨go, p - 1, none⟩)) (fun W hW => by go_simp) ?_
          go_simp
          have hcl : wz.cell? ⟨go, p - 1, none⟩ = some (.int .i64 (U[p - 1]'(by omega) : Nat)) := by rw [hB4.cell]; exact get_numCells _ _ _ (by omega)
          have hfr := hB4.frozen (p - 1)
          have hB5 := hB4.set_ (p - 1) (.int .i64 (x : Nat))
          rw [set_numCells, ← HUSk.out] at hB5
          have hw5 : Below go w5 (wz.setCell ⟨go, p - 1, none⟩ (.int .i64 (x : Nat))) := hw4.setCell (Nat.le_refl _) _
          refine t_e rfl rfl fun K hK => ?_
          go_simp
          refine hK _ _ hw5 ?_
          clear hK K
          go_simp
          refine t_done ?_
          go_wp2
          go_roundw
          case rel => exact ⟨k + 1, by omega, by go_num, hB5, hw5⟩
          case measure => simp [intOf]; omega
        · obtain rfl : k = 64 := by omega
          have hU := HUL.out 64
          have hUt := HUT.out 64
          have hfin : bytesR (unR XX 64) = bytesR (unR ((LD 16).2 ++ (LD 16).1) 64) := by rw [HRE.out, HLE.out, HXX.out]
          have HFIN := Lib.hid hfin; clear hfin
          generalize unR XX 64 = U at *
          have HBY := Lib.hid (fun W hA => bytes3_any U hUt 8 (by rw [hU]) (by omega) (some ⟨go, 0, none⟩) 64 W hA)
          rw [hU] at HBY
          have hNU : Ns .i64 wr go 0 U := Blk.range hBk 0 _ (fun j v hv => by rw [Nat.zero_add]; simpa using hv)
          go_wp2_with fail
          refine (HBY.out _ (fun _ => ⟨_, _, rfl, hNU⟩)).mono ?_
          rintro e w9 ⟨⟨v, rfl, hv⟩, hb9⟩
          go_wp2
          go_ret
          have s1 := hb13.size
          have s2 := hbel.size
          have s3 := hy5.size
          have s4 := hbk.size
          have hbA : Below w.heap.size w w5 := hb13.trans ((hbel.trans (hy5.mono s2)).mono s1)
          have hbB : Below w.heap.size w w9 := hbA.trans ((hbk.trans (hb9.mono (by omega))).mono (by omega))
          exact ⟨⟨_, rfl, by rw [← HFIN.out]; exact hv.more (by omega)⟩, hbB⟩

end Go.Proofs.YtfkjkkjimdilcaaGreatDoor

