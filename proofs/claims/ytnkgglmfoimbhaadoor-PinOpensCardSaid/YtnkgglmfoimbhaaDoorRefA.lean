/- The contracts of lockboxref14.nibbles, pack, field, start. -/
import Derived.Test.YtnkgglmfoimbhaaDoorPinD
import Derived.Test.YtnkgglmfoimbhaaDoorRefW
namespace Go.Proofs.YtnkgglmfoimbhaaDoor
open Go Go.RowKit Pr

theorem OwnN.ofBlk {e : TypeId} {kd : IntKind} {w : World} {B g n : Nat} {l : List Nat} (h : Blk w g e (numCells kd l)) (hg : B ≤ g) (hn : l.length = n) (hm : n ≤ 1000000) : OwnN e kd w B (.slice (some ⟨g, 0, none⟩) n n) l := by
  subst hn
  exact ⟨by simp [numCells], .inr ⟨g, l.length, numCells kd l, rfl, hg, h, Nat.le_refl _, by unfold maxLen; omega, by simp [numCells], by rw [List.take_of_length_le (by simp [numCells])]⟩⟩
theorem Ns.ofBlk {kd : IntKind} {w : World} {g : Nat} {t : TypeId} {l : List Nat} (h : Blk w g t (numCells kd l)) : Ns kd w g 0 l :=
  h.range 0 _ fun j v hv => by rw [Nat.zero_add]; simpa [numCells] using hv
/-- a row of one's own turns in one place -/
theorem OwnN.set {e : TypeId} {kd : IntKind} {w : World} {B g n cap : Nat} {l : List Nat} (h : OwnN e kd w B (.slice (some ⟨g, 0, none⟩) n cap) l) (k c : Nat) :
    OwnN e kd (w.setCell ⟨g, k, none⟩ (.int kd (c : Int))) B (.slice (some ⟨g, 0, none⟩) n cap) (l.set k c) := by
  rcases h with ⟨h1, h2⟩
  rcases h2 with ⟨h2, _⟩ | ⟨g', cap', cur, hv, hg, hb, hc, hm, hs, ht⟩
  · cases h2
  · injection hv with e1 e2 e3
    injection e1 with e1
    injection e1 with e1
    subst e1
    refine ⟨by simp [numCells], .inr ⟨g, cap', cur.setIfInBounds k (.int kd (c : Int)), ?_, hg, ?_, by simpa using hc, hm, by simpa using hs, ?_⟩⟩
    · rw [e3]; simp [e2]
    · exact Blk.set_ hb k _
    · rw [Array.toList_setIfInBounds, List.take_set, List.length_set, ht]
      simp [numCells, List.map_set]

theorem quo16 (c : Nat) (h : c < 256) : IntKind.i64.wrap ((c : Int).tdiv 16) = ((c / 16 : Nat) : Int) := by
  rw [Int.tdiv_eq_ediv_of_nonneg (by omega)]
  simp [IntKind.wrap, IntKind.bits, IntKind.signed]
  omega
theorem rem16 (c : Nat) : (c : Int).tmod 16 = ((c % 16 : Nat) : Int) := by
  rw [Int.tmod_eq_emod_of_nonneg (by omega)]
  simp

set_option maxHeartbeats 2000000 in
set_option maxRecDepth 100000 in
theorem nibblesR_any (b : List Nat) (n : Nat) (hn : b.length = n) (hn2 : n ≤ 1000) (gb : ∀ c ∈ b, c < 256) (A : Option Addr) (cp : Nat) (w : World) (hA : At w A b) :
    Calls Tryd.prog 34 #[.slice A n cp] w fun e w' => (∃ v, e = .returned v ∧ OwnN 3 .i64 w' w.heap.size v (nibN b)) ∧ Below w.heap.size w w' := by
  have hc : ∀ k, k < n → ∃ bl o, A = some ⟨bl, o, none⟩ ∧ ∀ W, Below w.heap.size w W → W.cell? ⟨bl, o + k, none⟩ = some (.int .u8 (b.getD k 0 : Nat)) := fun k hk => by
    obtain ⟨bl, o, e, hN⟩ := hA (by intro h; rw [h] at hn; simp at hn; omega)
    refine ⟨bl, o, e, fun W hW => ?_⟩
    rw [getD_of _ _ (by omega)]
    exact (hN.below hW (hN.lt (by intro h; rw [h] at hn; simp at hn; omega))).cell k (by omega)
  have HC := Lib.hid hc; clear hc
  have HG := Lib.hid (fun i => getD_256 b gb i)
  have hst : ∀ k, k < n → nibN (b.take (k + 1)) = nibN (b.take k) ++ [b.getD k 0 / 16, b.getD k 0 % 16] := fun k hk => by
    rw [List.take_succ_eq_append_getElem (by omega), nibN_snoc, getD_of]
  have hl : ∀ k, (nibN (b.take k)).length ≤ 2 * n := fun k => by rw [nibN_len, List.length_take]; omega
  have HST := Lib.hid hst; clear hst
  have HL := Lib.hid hl; clear hl
  have hfin : nibN (b.take n) = nibN b := by rw [List.take_of_length_le (by omega)]
  have HFIN := Lib.hid hfin; clear hfin
  clear hA hn gb
  go_enter Tryd.func34, Tryd.ntmps34
  go_wp2
  go_loopw [3, 4] (fun v i wr => ∃ k : Nat, k ≤ n ∧ i = .int .i64 k ∧ OwnN 3 .i64 wr w.heap.size v (nibN (b.take k)) ∧ Below w.heap.size w wr) (fun _ i _ => n - (intOf i).toNat)
  case atStart => exact ⟨0, by omega, rfl, OwnN.nil _ _ _ _, Below.refl _ _⟩
  case round =>
    obtain ⟨k, hk, rfl, hown, hbel⟩ := hrel
    by_cases hlt : k < n
    · obtain ⟨bl, o, rfl, hL⟩ := HC.out k hlt
      have h256 := HG.out k
      have hstk := HST.out k hlt
      have hlk := HL.out k
      generalize b.getD k 0 = c at *
      have HWC := Lib.hid (show IntKind.i64.wrap (c : Int) = (c : Int) from IntWalk.i64_in _ (by omega))
      have hq := quo16 c h256
      have hr := rem16 c
      have h1 : c / 16 < 16 := by omega
      have h2 : c % 16 < 16 := by omega
      generalize c / 16 = q at *
      generalize c % 16 = r at *
      obtain ⟨T, hT⟩ : ∃ T, nibN (b.take k) = T := ⟨_, rfl⟩
      rw [hT] at hstk hown hlk
      clear hT
      have HSTK := Lib.hid hstk; clear hstk
      have HQ := Lib.hid hq; clear hq
      have HR := Lib.hid hr; clear hr
      have HL1 := Lib.hid hL; clear hL
      go_wp2_with fail
      refine wp_region_tree (.q 0 (.q 1 (.q 2 (.q 3 (.q 4 (.q 5 (.q 6 (.q 7 (.q 8 (.q 9 (.q 10 (.q 11 (.q 12 (.e [13] fun _ => .e [14] fun _ => .q 15 (.done))))))))))))))) (fun W => Below w.heap.size w W) rfl (by kernel_rfl) (fun _ _ d _ _ h => by cases d <;> exact h) ?_
      have hw3 : Below w.heap.size w wr.drew := below_drewN hbel 1
      have hszr : w.heap.size ≤ wr.heap.size := hbel.size
      iterate 3 (refine t_q rfl rfl hw3 _ (fun W hW => by (go_simp; rfl)) ?_; go_simp)
      refine t_q rfl rfl hw3 (.pointer (some ⟨bl, o + k, none⟩)) (fun W hW => by go_simp) ?_
      go_simp
      refine t_q rfl rfl hw3 (.int .u8 (c : Nat)) (fun W hW => by (have hc := HL1.out W hW; go_simp)) ?_
      go_simp
      refine t_q rfl rfl hw3 (.int .i64 (c : Nat)) (fun W hW => by (go_simp; exact HWC.out)) ?_
      go_simp
      refine t_q rfl rfl hw3 (.int .i64 (q : Nat)) (fun W hW => by (have := HQ.out; go_simp; try exact this)) ?_
      go_simp
      iterate 2 (refine t_q rfl rfl hw3 _ (fun W hW => by (go_simp; rfl)) ?_; go_simp)
      refine t_q rfl rfl hw3 (.pointer (some ⟨bl, o + k, none⟩)) (fun W hW => by go_simp) ?_
      go_simp
      refine t_q rfl rfl hw3 (.int .u8 (c : Nat)) (fun W hW => by (have hc := HL1.out W hW; go_simp)) ?_
      go_simp
      refine t_q rfl rfl hw3 (.int .i64 (c : Nat)) (fun W hW => by (go_simp; exact HWC.out)) ?_
      go_simp
      refine t_q rfl rfl hw3 (.int .i64 (r : Nat)) (fun W hW => by (go_simp; exact HR.out)) ?_
      go_simp
      refine t_e rfl rfl fun K hK => ?_
      go_simp
      refine hK _ _ (hw3.alloc (by simpa using hszr) _) ?_
      clear hK K
      change wpT _ _ _ _ _ _ (wr.drew.alloc (.cells #[.int .i64 (q : Int), .int .i64 (r : Int)] 3))
      have hown4 : OwnN 3 .i64 (wr.drew.alloc (.cells #[.int .i64 (q : Int), .int .i64 (r : Int)] 3)) w.heap.size _ T := OwnN.below hown ((below_drewN (Below.refl wr.heap.size wr) 1).alloc (Nat.le_refl _) _) (Nat.le_refl _)
      refine t_e rfl rfl fun K hK => ?_
      refine op_append_nums (.tmp 11) (.tmp 24) 42 rfl .i64 3 8 Tryd.underlying42 info_int w.heap.size w _ T rfl hown4 (hw3.alloc (by simpa using hszr) _) (by simp; omega) _ 2 2 [q, r] rfl rfl ⟨_, _, rfl, Ns.ofBlk (l := [q, r]) (Blk.new wr.drew 3 _)⟩ (by omega) (by omega) fun v5 w5 hown5 hbel5 hsz5 => ?_
      rw [← HSTK.out] at hown5
      refine hK _ _ hbel5 ?_
      clear hK K
      go_simp
      refine t_q rfl rfl hbel5 _ (fun W hW => by (go_simp; rfl)) ?_
      go_simp
      refine t_done ?_
      go_wp2
      go_roundw
      case rel => exact ⟨k + 1, by omega, by go_num, hown5, hbel5⟩
      case measure => simp [intOf]; omega
    · obtain rfl : k = n := by omega
      rw [HFIN.out] at hown
      go_wp2
      go_ret
      exact ⟨⟨_, rfl, hown⟩, hbel⟩

theorem pack_num (x y : Nat) (hx : x < 16) (hy : y < 16) : IntKind.u8.wrap (16 * (x : Int) + (y : Int)) = ((16 * x + y : Nat) : Int) := by
  simp [IntKind.wrap, IntKind.bits, IntKind.signed]; omega

set_option maxHeartbeats 2000000 in
set_option maxRecDepth 100000 in
theorem packR_any (l : List Nat) (n m : Nat) (hn : l.length = n) (hm : n = 2 * m) (hn2 : n ≤ 1000) (gl : ∀ c ∈ l, c < 16) (A : Option Addr) (cp : Nat) (w : World) (hA : AtN .i64 w A l) :
    Calls Tryd.prog 36 #[.slice A n cp] w fun e w' => (∃ v, e = .returned v ∧ Own w' w.heap.size v (packN l)) ∧ Below w.heap.size w w' := by
  have hc : 0 < n → ∃ bl o, A = some ⟨bl, o, none⟩ ∧ ∀ k, k < n → ∀ W, Below w.heap.size w W → W.cell? ⟨bl, o + k, none⟩ = some (.int .i64 (l.getD k 0 : Nat)) := fun hk => by
    obtain ⟨bl, o, e, hN⟩ := hA (by intro h; rw [h] at hn; simp at hn; omega)
    refine ⟨bl, o, e, fun k hk W hW => ?_⟩
    rw [getD_of _ _ (by omega)]
    exact (hN.below hW (hN.lt (by intro h; rw [h] at hn; simp at hn; omega))).cell k (by omega)
  have HC := Lib.hid hc; clear hc
  have HG := Lib.hid (fun i => getD_lt16 l gl i)
  have hst : ∀ j, 2 * j + 1 < n → (packN l).take (j + 1) = (packN l).take j ++ [16 * l.getD (2 * j) 0 + l.getD (2 * j + 1) 0] := fun j hj => packN_take l j (by omega)
  have hl : ∀ j, ((packN l).take j).length ≤ n := fun k => by rw [List.length_take, packN_len]; omega
  have HST := Lib.hid hst; clear hst
  have HL := Lib.hid hl; clear hl
  have hfin : (packN l).take m = packN l := by rw [List.take_of_length_le (by rw [packN_len]; omega)]
  have HFIN := Lib.hid hfin; clear hfin
  have HM := Lib.hid hm; clear hm
  clear hA hn gl
  go_enter Tryd.func36, Tryd.ntmps36
  go_wp2
  go_loopw [3, 4] (fun v i wr => ∃ j k : Nat, Hid (k = 2 * j) ∧ k ≤ n ∧ i = .int .i64 k ∧ Own wr w.heap.size v ((packN l).take j) ∧ Below w.heap.size w wr) (fun _ i _ => n - (intOf i).toNat)
  case atStart => exact ⟨0, 0, rfl, by omega, rfl, Own.nil _ _, Below.refl _ _⟩
  case round =>
    obtain ⟨j, k, hkj, hk, rfl, hown, hbel⟩ := hrel
    by_cases hlt : k < n
    · have hlt2 : k + 1 < n := by have := HM.out; have := hkj.out; omega
      have hlt3 : (k : Int) + 1 < n := by omega
      obtain ⟨bl, o, rfl, hL⟩ := HC.out (by omega)
      have hL1 := hL k hlt
      have hL2 := hL (k + 1) hlt2
      have g1 := HG.out k
      have g2 := HG.out (k + 1)
      have hstk := HST.out j (by have := hkj.out; omega)
      rw [← hkj.out] at hstk
      have hlk := HL.out j
      generalize l.getD k 0 = x at *
      generalize l.getD (k + 1) 0 = y at *
      have hp := pack_num x y g1 g2
      have hz : 16 * x + y < 256 := by omega
      have hmul : IntKind.i64.wrap (16 * (x : Int)) = 16 * (x : Int) := IntWalk.i64_in _ (by omega)
      have hadd : IntKind.i64.wrap (16 * (x : Int) + (y : Int)) = 16 * (x : Int) + (y : Int) := IntWalk.i64_in _ (by omega)
      generalize 16 * x + y = z at *
      have hk1 : IntKind.i64.wrap ((k : Int) + 1) = (k : Int) + 1 := IntWalk.i64_in _ (by omega)
      obtain ⟨T, hT⟩ : ∃ T, (packN l).take j = T := ⟨_, rfl⟩
      rw [hT] at hstk hown hlk
      clear hT hL
      have HSTK := Lib.hid hstk; clear hstk
      have HP := Lib.hid hp; clear hp
      have HMUL := Lib.hid hmul; clear hmul
      have HADD := Lib.hid hadd; clear hadd
      have HK1 := Lib.hid hk1; clear hk1
      have HL1 := Lib.hid hL1; clear hL1
      have HL2 := Lib.hid hL2; clear hL2
      go_wp2_with fail
      refine wp_region_tree (.q 0 (.q 1 (.q 2 (.q 3 (.q 4 (.q 5 (.q 6 (.q 7 (.q 8 (.q 9 (.q 10 (.q 11 (.q 12 (.e [13] fun _ => .e [14] fun _ => .q 15 (.done))))))))))))))) (fun W => Below w.heap.size w W) rfl (by kernel_rfl) (fun _ _ d _ _ h => by cases d <;> exact h) ?_
      have hw3 : Below w.heap.size w wr.drew := below_drewN hbel 1
      have hszr : w.heap.size ≤ wr.heap.size := hbel.size
      iterate 3 (refine t_q rfl rfl hw3 _ (fun W hW => by (go_simp; rfl)) ?_; go_simp)
      refine t_q rfl rfl hw3 (.pointer (some ⟨bl, o + k, none⟩)) (fun W hW => by go_simp) ?_
      go_simp
      refine t_q rfl rfl hw3 (.int .i64 (x : Nat)) (fun W hW => by (have hc := HL1.out W hW; go_simp)) ?_
      go_simp
      refine t_q rfl rfl hw3 (.int .i64 (16 * (x : Int))) (fun W hW => by (go_simp; exact HMUL.out)) ?_
      go_simp
      iterate 2 (refine t_q rfl rfl hw3 _ (fun W hW => by (go_simp; rfl)) ?_; go_simp)
      refine t_q rfl rfl hw3 (.int .i64 ((k : Int) + 1)) (fun W hW => by (go_simp; exact HK1.out)) ?_
      go_simp
      refine t_q rfl rfl hw3 (.pointer (some ⟨bl, o + (k + 1), none⟩)) (fun W hW => by (go_simp; intro h; omega)) ?_
      go_simp
      refine t_q rfl rfl hw3 (.int .i64 (y : Nat)) (fun W hW => by (have hc := HL2.out W hW; go_simp)) ?_
      go_simp
      refine t_q rfl rfl hw3 (.int .i64 (16 * (x : Int) + y)) (fun W hW => by (go_simp; exact HADD.out)) ?_
      go_simp
      refine t_q rfl rfl hw3 (.int .u8 (z : Nat)) (fun W hW => by (go_simp; exact HP.out)) ?_
      go_simp
      refine t_e rfl rfl fun K hK => ?_
      go_simp
      refine hK _ _ (hw3.alloc (by simpa using hszr) _) ?_
      clear hK K
      change wpT _ _ _ _ _ _ (wr.drew.alloc (.cells #[.int .u8 (z : Int)] 5))
      have hown4 : OwnN 5 .u8 (wr.drew.alloc (.cells #[.int .u8 (z : Int)] 5)) w.heap.size _ T := OwnN.below hown ((below_drewN (Below.refl wr.heap.size wr) 1).alloc (Nat.le_refl _) _) (Nat.le_refl _)
      refine t_e rfl rfl fun K hK => ?_
      refine op_append_nums (.tmp 12) (.tmp 25) 34 rfl .u8 5 1 Tryd.underlying34 info_byte w.heap.size w _ T rfl hown4 (hw3.alloc (by simpa using hszr) _) (by simp; omega) _ 1 1 [z] rfl rfl ⟨_, _, rfl, Ns.new .u8 wr.drew 5 z⟩ (by omega) (by omega) fun v5 w5 hown5 hbel5 hsz5 => ?_
      rw [← HSTK.out] at hown5
      refine hK _ _ hbel5 ?_
      clear hK K
      go_simp
      refine t_q rfl rfl hbel5 _ (fun W hW => by (go_simp; rfl)) ?_
      go_simp
      refine t_done ?_
      go_wp2
      go_roundw
      case rel => exact ⟨j + 1, k + 2, by have := hkj.out; exact (by omega : k + 2 = 2 * (j + 1)), by omega, by go_num, hown5, hbel5⟩
      case measure => simp [intOf]; omega
    · have hkn : k = n := by omega
      have hjm : j = m := by have := HM.out; have := hkj.out; omega
      subst hjm
      rw [HFIN.out] at hown
      have hno : ¬ (k : Int) + 1 < n := by omega
      clear hkn
      go_wp2
      go_ret
      exact ⟨⟨_, rfl, hown⟩, hbel⟩

theorem fieldR_any (f : Nat) (a : ByteArray) (h13 : 13 ≤ a.size) (h19 : a.size ≤ 19) (had : ∀ c ∈ a.data.toList, isDec c = true) (i : Nat) (hi : i < 16) (w : World) :
    Calls Tryd.prog 35 #[.int .i64 f, .string a, .int .i64 i] w fun e w' => e = .returned (.int .i64 (fieldD f a.data.toList i : Nat)) ∧ w = w' := by
  have hal : a.data.toList.length = a.size := by simp
  by_cases h1 : f = 1
  · have hF : fieldD f a.data.toList i = 0 := by unfold fieldD; rw [if_pos (.inl h1)]
    rw [hF]
    have t1 : ((f : Int) == 1) = true := by rw [beq_iff_eq]; omega
    clear h1 hF hal had
    go_enter Tryd.func35, Tryd.ntmps35
    go_wp2
    go_ret
    exact ⟨rfl, rfl⟩
  · have t1 : ((f : Int) == 1) = false := by rw [beq_eq_false_iff_ne]; omega
    by_cases h4 : i < 4
    · have hF : fieldD f a.data.toList i = 0 := by unfold fieldD; rw [if_pos (.inr h4)]
      rw [hF]
      have t4 : decide ((i : Int) < 4) = true := by simp; omega
      clear h1 hF hal had
      go_enter Tryd.func35, Tryd.ntmps35
      go_wp2
      go_ret
      exact ⟨rfl, rfl⟩
    · have t4 : decide ((i : Int) < 4) = false := by simp; omega
      have hk : a.size + i - 17 < a.size := by omega
      have hmem : a[a.size + i - 17] ∈ a.data.toList := List.getElem_mem (l := a.data.toList) (by rw [hal]; exact hk)
      have hF : fieldD f a.data.toList i = hexv (a[a.size + i - 17]) := by
        unfold fieldD
        rw [if_neg (by omega), hal, List.getD_eq_getElem?_getD, List.getElem?_eq_getElem (by rw [hal]; exact hk)]
        rfl
      have hd := isHex_of_dec (had _ hmem)
      have ix := index_str (P := Tryd.prog) 9 Tryd.underlying9 a (a.size + i - 17) hk ((a.size : Int) - 17 + i) (by omega) _ rfl
      have HV := Lib.hid (fun W => value_any (a[a.size + i - 17]) _ rfl W)
      rw [valR_hexv _ hd] at HV
      rw [hF]
      clear hmem hF hd had hal h1
      generalize (hexv (a[a.size + i - 17])) = z at *
      generalize ((a[a.size + i - 17]).toNat : Int) = y at *
      go_enter Tryd.func35, Tryd.ntmps35
      go_wp2_with (go_at_call 43; refine (HV.out _).mono ?_; rintro e w' ⟨rfl, rfl⟩)
      go_ret
      exact ⟨rfl, rfl⟩

set_option maxHeartbeats 2000000 in
set_option maxRecDepth 100000 in
theorem startR_any (f : Nat) (p : ByteArray) (hp : p.size ≤ 1000) (hpd : ∀ c ∈ p.data.toList, isDec c = true) (w : World) :
    Calls Tryd.prog 33 #[.int .i64 f, .string p] w fun e w' => (∃ v, e = .returned v ∧ OwnN 3 .i64 w' w.heap.size v (startD f p.data.toList)) ∧ Below w.heap.size w w' := by
  have hpl : p.data.toList.length = p.size := by simp
  have hst : ∀ k (h : k < p.size), startD f p.data.toList = startD f p.data.toList := fun _ _ => rfl
  clear hst
  have hdef : ∀ k (h : k < p.size), [f, p.size] ++ (p.data.toList.take (k + 1)).map hexv = ([f, p.size] ++ (p.data.toList.take k).map hexv) ++ [hexv p[k]] := fun k h => by
    rw [List.take_succ_eq_append_getElem (by rw [hpl]; exact h), List.map_append, List.append_assoc, get_list p k h]
    rfl
  have hlen : ∀ k, ([f, p.size] ++ (p.data.toList.take k).map hexv).length ≤ 2 + p.size := fun k => by
    rw [List.length_append, List.length_map, List.length_take]; simp; omega
  have hfin : [f, p.size] ++ (p.data.toList.take p.size).map hexv = startD f p.data.toList := by
    rw [List.take_of_length_le (by omega)]; unfold startD; rw [hpl]
  have hv : ∀ k (h : k < p.size) W, Calls Tryd.prog 43 #[.int .u8 (p[k].toNat : Int)] W fun e w' => e = .returned (.int .i64 (hexv p[k] : Nat)) ∧ W = w' := fun k h W => by
    have := value_any p[k] _ rfl W
    have hm : p[k] ∈ p.data.toList := List.getElem_mem (l := p.data.toList) (by rw [hpl]; exact h)
    rw [valR_hexv p[k] (isHex_of_dec (hpd _ hm))] at this
    exact this
  have HDEF := Lib.hid hdef; clear hdef
  have HLEN := Lib.hid hlen; clear hlen
  have HFIN := Lib.hid hfin; clear hfin
  have HV := Lib.hid hv; clear hv
  clear hpl hpd
  go_enter Tryd.func33, Tryd.ntmps33
  go_wp2
  go_loopw [5, 6] (fun v i wr => ∃ k : Nat, k ≤ p.size ∧ i = .int .i64 k ∧ OwnN 3 .i64 wr w.heap.size v ([f, p.size] ++ (p.data.toList.take k).map hexv) ∧ Below w.heap.size w wr) (fun _ i _ => p.size - (intOf i).toNat)
  case atStart => exact ⟨0, by omega, rfl, OwnN.ofBlk (l := [f, p.size]) (Blk.new w 3 _) (Nat.le_refl _) rfl (by omega), (Below.refl _ _).alloc (Nat.le_refl _) _⟩
  case round =>
    obtain ⟨k, hk, rfl, hown, hbel⟩ := hrel
    by_cases hlt : k < p.size
    · have ix := index_str (P := Tryd.prog) 9 Tryd.underlying9 p k hlt k rfl _ rfl
      have HVk := Lib.hid (HV.out k hlt)
      have hstk := HDEF.out k hlt
      have hlk := HLEN.out k
      generalize hexv p[k] = z at *
      generalize (p[k].toNat : Int) = y at *
      obtain ⟨T, hT⟩ : ∃ T, [f, p.size] ++ (p.data.toList.take k).map hexv = T := ⟨_, rfl⟩
      rw [hT] at hstk hown hlk
      clear hT
      have HSTK := Lib.hid hstk; clear hstk
      have hszr : w.heap.size ≤ wr.heap.size := hbel.size
      go_wp2_with (first
        | (go_at_call 43; refine (HVk.out _).mono ?_; rintro e w' ⟨rfl, rfl⟩)
        | (at_builtin; go_loud (refine wpList_append_nums rfl (.tmp 17) (.tmp 22) 42 rfl .i64 3 8 Tryd.underlying42 info_int w.heap.size w _ T rfl (OwnN.below hown ((Below.refl wr.heap.size wr).alloc (Nat.le_refl _) _) (Nat.le_refl _)) (hbel.alloc (by simpa using hszr) _) (by simp; omega) _ 1 1 [z] rfl rfl ⟨_, _, rfl, Ns.new .i64 wr 3 z⟩ (by omega) (by omega) ?_); intro v5 w5 hown5 hbel5 hsz5))
      rw [← HSTK.out] at hown5
      go_roundw
      case rel => exact ⟨k + 1, by omega, by go_num, hown5, hbel5⟩
      case measure => simp [intOf]; omega
    · obtain rfl : k = p.size := by omega
      rw [HFIN.out] at hown
      go_wp2
      go_ret
      exact ⟨⟨_, rfl, hown⟩, hbel⟩
end Go.Proofs.YtnkgglmfoimbhaaDoor
