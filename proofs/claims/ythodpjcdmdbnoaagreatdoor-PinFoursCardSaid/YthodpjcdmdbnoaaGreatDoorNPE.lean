/- The contracts of lockboxref14.nibbles, pack, field, start. The contracts of lockboxref14.Make, read, Open. The contract of lockboxref14.Make. -/
import Derived.Test.YthodpjcdmdbnoaaGreatDoorNPB
/- The contracts of lockboxref14.nibbles, pack, field, start. -/
namespace Go.Proofs.YthodpjcdmdbnoaaGreatDoor
open Go Go.RowKit Pr

theorem OwnN.ofBlk {e : TypeId} {kd : IntKind} {w : World} {B g n : Nat} {l : List Nat} (h : Blk w g e (numCells kd l)) (hg : B ≤ g) (hn : l.length = n) (hm : n ≤ 1000000) : OwnN e kd w B (.slice (some ⟨g, 0, none⟩) n n) l := by
 subst hn
 exact ⟨by simp [numCells], .inr ⟨g, l.length, numCells kd l, rfl, hg, h, Nat.le_refl _, by unfold maxLen; omega, by simp [numCells], by rw [List.take_of_length_le (by simp [numCells])]⟩⟩
theorem Ns.ofBlkP {kd : IntKind} {w : World} {g : Nat} {t : TypeId} {l : List Nat} (h : Blk w g t (numCells kd l)) : Ns kd w g 0 l :=
 h.range 0 _ fun j v hv => by rw [Nat.zero_add]; simpa [numCells] using hv
/-- a row of one's own turns in one place -/
theorem OwnN.set {e : TypeId} {kd : IntKind} {w : World} {B g n cap : Nat} {l : List Nat} (h : OwnN e kd w B (.slice (some ⟨g, 0, none⟩) n cap) l) (k c : Nat) :
    OwnN e kd (w.setCell ⟨g, k, none⟩ (.int kd (c : Int))) B (.slice (some ⟨g, 0, none⟩) n cap) (l.set k c) := by
 rcases h with ⟨h1, h2⟩
 rcases h2 with ⟨h2, _⟩ | ⟨g', cap', cur, hv, hg, hb, hc, hm, hs, ht⟩
 ·
  cases h2
 ·
  injection hv with e1 e2 e3
  injection e1 with e1
  injection e1 with e1
  subst e1
  refine ⟨by simp [numCells], .inr ⟨g, cap', cur.setIfInBounds k (.int kd (c : Int)), ?_, hg, ?_, by simpa using hc, hm, by simpa using hs, ?_⟩⟩
  ·
   rw [e3]; simp [e2]
  ·
   exact Blk.set_ hb k _
  ·
   rw [Array.toList_setIfInBounds, List.take_set, List.length_set, ht]
   simp [numCells, List.map_set]

theorem quo16 (c : Nat) (h : c < 256) : IntKind.i64.wrap ((c : Int).tdiv 16) = ((c / 16 : Nat) : Int) := by
 rw [Int.tdiv_eq_ediv_of_nonneg (by omega)]
 simp [IntKind.wrap, IntKind.bits, IntKind.signed]
 omega
theorem rem16 (c : Nat) : (c : Int).tmod 16 = ((c % 16 : Nat) : Int) := by
 rw [Int.tmod_eq_emod_of_nonneg (by omega)]
 simp

set_option maxHeartbeats 2000000 in
set_option maxRecDepth 100000 in
theorem nibblesR_any (b : List Nat) (n : Nat) (hn : b.length = n) (hn2 : n ≤ 1000) (gb : ∀ c ∈ b, c < 256) (A : Option Addr) (cp : Nat) (w : World) (hA : At w A b) :
    Calls Tryz.prog 36 #[.slice A n cp] w fun e w' => (∃ v, e = .returned v ∧ OwnN 3 .i64 w' w.heap.size v (nibN b)) ∧ Below w.heap.size w w' := by
 have hc : ∀ k, k < n → ∃ bl o, A = some ⟨bl, o, none⟩ ∧ ∀ W, Below w.heap.size w W → W.cell? ⟨bl, o + k, none⟩ = some (.int .u8 (b.getD k 0 : Nat)) := fun k hk => by
  obtain ⟨bl, o, e, hN⟩ := hA (by intro h; rw [h] at hn; simp at hn; omega)
  refine ⟨bl, o, e, fun W hW => ?_⟩
  rw [getD_of _ _ (by omega)]
  exact (hN.below hW (hN.lt (by intro h; rw [h] at hn; simp at hn; omega))).cell k (by omega)
 have HC := Lib.hid hc; clear hc
 have HG := Lib.hid (fun i => getD_256 b gb i)
 have hst : ∀ k, k < n → nibN (b.take (k + 1)) = nibN (b.take k) ++ [b.getD k 0 / 16, b.getD k 0 % 16] := fun k hk => by
  rw [List.take_succ_eq_append_getElem (by omega), nibN_snoc, getD_of]
 have hl : ∀ k, (nibN (b.take k)).length ≤ 2 * n := fun k => by rw [nibN_len, List.length_take]; omega
 have HST := Lib.hid hst; clear hst
 have HL := Lib.hid hl; clear hl
 have hfin : nibN (b.take n) = nibN b := by rw [List.take_of_length_le (by omega)]
 have HFIN := Lib.hid hfin; clear hfin
 clear hA hn gb
 go_enter Tryz.func36, Tryz.ntmps36
 go_wp2
 go_loopw [3, 4] (fun v i wr => ∃ k : Nat, k ≤ n ∧ i = .int .i64 k ∧ OwnN 3 .i64 wr w.heap.size v (nibN (b.take k)) ∧ Below w.heap.size w wr) (fun _ i _ => n - (intOf i).toNat)
 case atStart => exact ⟨0, by omega, rfl, OwnN.nil _ _ _ _, Below.refl _ _⟩
 case round =>
  obtain ⟨k, hk, rfl, hown, hbel⟩ := hrel
  by_cases hlt : k < n
  ·
   obtain ⟨bl, o, rfl, hL⟩ := HC.out k hlt
   have h256 := HG.out k
   have hstk := HST.out k hlt
   have hlk := HL.out k
   generalize b.getD k 0 = c at *
   have HWC := Lib.hid (show IntKind.i64.wrap (c : Int) = (c : Int) from IntWalk.i64_in _ (by omega))
   have hq := quo16 c h256
   have hr := rem16 c
   have h1 : c / 16 < 16 := by omega
   have h2 : c % 16 < 16 := by omega
   generalize c / 16 = q at *
   generalize c % 16 = r at *
   obtain ⟨T, hT⟩ : ∃ T, nibN (b.take k) = T := ⟨_, rfl⟩
   rw [hT] at hstk hown hlk
   clear hT
   have HSTK := Lib.hid hstk; clear hstk
   have HQ := Lib.hid hq; clear hq
   have HR := Lib.hid hr; clear hr
   have HL1 := Lib.hid hL; clear hL
   go_wp2_with fail
   refine wp_region_tree (.q 0 (.q 1 (.q 2 (.q 3 (.q 4 (.q 5 (.q 6 (.q 7 (.q 8 (.q 9 (.q 10 (.q 11 (.q 12 (.e [13] fun _ => .e [14] fun _ => .q 15 (.done))))))))))))))) (fun W => Below w.heap.size w W) rfl (by kernel_rfl) (fun _ _ d _ _ h => by cases d <;> exact h) ?_
   have hw3 : Below w.heap.size w wr.drew := below_drewN hbel 1
   have hszr : w.heap.size ≤ wr.heap.size := hbel.size
   iterate 3 (refine t_q rfl rfl hw3 _ (fun W hW => by (go_simp; rfl)) ?_; go_simp)
   refine t_q rfl rfl hw3 (.pointer (some ⟨bl, o + k, none⟩)) (fun W hW => by go_simp) ?_
   go_simp
   refine t_q rfl rfl hw3 (.int .u8 (c : Nat)) (fun W hW => by (have hc := HL1.out W hW; go_simp)) ?_
   go_simp
   refine t_q rfl rfl hw3 (.int .i64 (c : Nat)) (fun W hW => by (go_simp; exact HWC.out)) ?_
   go_simp
   refine t_q rfl rfl hw3 (.int .i64 (q : Nat)) (fun W hW => by (have := HQ.out; go_simp; try exact this)) ?_
   go_simp
   iterate 2 (refine t_q rfl rfl hw3 _ (fun W hW => by (go_simp; rfl)) ?_; go_simp)
   refine t_q rfl rfl hw3 (.pointer (some ⟨bl, o + k, none⟩)) (fun W hW => by go_simp) ?_
   go_simp
   refine t_q rfl rfl hw3 (.int .u8 (c : Nat)) (fun W hW => by (have hc := HL1.out W hW; go_simp)) ?_
   go_simp
   refine t_q rfl rfl hw3 (.int .i64 (c : Nat)) (fun W hW => by (go_simp; exact HWC.out)) ?_
   go_simp
   refine t_q rfl rfl hw3 (.int .i64 (r : Nat)) (fun W hW => by (go_simp; exact HR.out)) ?_
   go_simp
   refine t_e rfl rfl fun K hK => ?_
   go_simp
   refine hK _ _ (hw3.alloc (by simpa using hszr) _) ?_
   clear hK K
   change wpT _ _ _ _ _ _ (wr.drew.alloc (.cells #[.int .i64 (q : Int), .int .i64 (r : Int)] 3))
   have hown4 : OwnN 3 .i64 (wr.drew.alloc (.cells #[.int .i64 (q : Int), .int .i64 (r : Int)] 3)) w.heap.size _ T := OwnN.below hown ((below_drewN (Below.refl wr.heap.size wr) 1).alloc (Nat.le_refl _) _) (Nat.le_refl _)
   refine t_e rfl rfl fun K hK => ?_
   refine op_append_nums (.tmp 11) (.tmp 24) 81 rfl .i64 3 8 Tryz.underlying81 info_int w.heap.size w _ T rfl hown4 (hw3.alloc (by simpa using hszr) _) (by simp; omega) _ 2 2 [q, r] rfl rfl ⟨_, _, rfl, Ns.ofBlkP (l := [q, r]) (Blk.new wr.drew 3 _)⟩ (by omega) (by omega) fun v5 w5 hown5 hbel5 hsz5 => ?_
   rw [← HSTK.out] at hown5
   refine hK _ _ hbel5 ?_
   clear hK K
   go_simp
   refine t_q rfl rfl hbel5 _ (fun W hW => by (go_simp; rfl)) ?_
   go_simp
   refine t_done ?_
   go_wp2
   go_roundw
   case rel => exact ⟨k + 1, by omega, by go_num, hown5, hbel5⟩
   case measure => simp [intOf]; omega
  ·
   obtain rfl : k = n := by omega
   rw [HFIN.out] at hown
   go_wp2
   go_ret
   exact ⟨⟨_, rfl, hown⟩, hbel⟩

theorem pack_num (x y : Nat) (hx : x < 16) (hy : y < 16) : IntKind.u8.wrap (16 * (x : Int) + (y : Int)) = ((16 * x + y : Nat) : Int) := by
 simp [IntKind.wrap, IntKind.bits, IntKind.signed]; omega

set_option maxHeartbeats 2000000 in
set_option maxRecDepth 100000 in
theorem packR_any (l : List Nat) (n m : Nat) (hn : l.length = n) (hm : n = 2 * m) (hn2 : n ≤ 1000) (gl : ∀ c ∈ l, c < 16) (A : Option Addr) (cp : Nat) (w : World) (hA : AtN .i64 w A l) :
    Calls Tryz.prog 38 #[.slice A n cp] w fun e w' => (∃ v, e = .returned v ∧ Own w' w.heap.size v (packN l)) ∧ Below w.heap.size w w' := by
 have hc : 0 < n → ∃ bl o, A = some ⟨bl, o, none⟩ ∧ ∀ k, k < n → ∀ W, Below w.heap.size w W → W.cell? ⟨bl, o + k, none⟩ = some (.int .i64 (l.getD k 0 : Nat)) := fun hk => by
  obtain ⟨bl, o, e, hN⟩ := hA (by intro h; rw [h] at hn; simp at hn; omega)
  refine ⟨bl, o, e, fun k hk W hW => ?_⟩
  rw [getD_of _ _ (by omega)]
  exact (hN.below hW (hN.lt (by intro h; rw [h] at hn; simp at hn; omega))).cell k (by omega)
 have HC := Lib.hid hc; clear hc
 have HG := Lib.hid (fun i => getD_lt16 l gl i)
 have hst : ∀ j, 2 * j + 1 < n → (packN l).take (j + 1) = (packN l).take j ++ [16 * l.getD (2 * j) 0 + l.getD (2 * j + 1) 0] := fun j hj => packN_take l j (by omega)
 have hl : ∀ j, ((packN l).take j).length ≤ n := fun k => by rw [List.length_take, packN_len]; omega
 have HST := Lib.hid hst; clear hst
 have HL := Lib.hid hl; clear hl
 have hfin : (packN l).take m = packN l := by rw [List.take_of_length_le (by rw [packN_len]; omega)]
 have HFIN := Lib.hid hfin; clear hfin
 have HM := Lib.hid hm; clear hm
 clear hA hn gl
 go_enter Tryz.func38, Tryz.ntmps38
 go_wp2
 go_loopw [3, 4] (fun v i wr => ∃ j k : Nat, Hid (k = 2 * j) ∧ k ≤ n ∧ i = .int .i64 k ∧ Own wr w.heap.size v ((packN l).take j) ∧ Below w.heap.size w wr) (fun _ i _ => n - (intOf i).toNat)
 case atStart => exact ⟨0, 0, rfl, by omega, rfl, Own.nil _ _, Below.refl _ _⟩
 case round =>
  obtain ⟨j, k, hkj, hk, rfl, hown, hbel⟩ := hrel
  by_cases hlt : k < n
  ·
   have hlt2 : k + 1 < n := by have := HM.out; have := hkj.out; omega
   have hlt3 : (k : Int) + 1 < n := by omega
   obtain ⟨bl, o, rfl, hL⟩ := HC.out (by omega)
   have hL1 := hL k hlt
   have hL2 := hL (k + 1) hlt2
   have g1 := HG.out k
   have g2 := HG.out (k + 1)
   have hstk := HST.out j (by have := hkj.out; omega)
   rw [← hkj.out] at hstk
   have hlk := HL.out j
   generalize l.getD k 0 = x at *
   generalize l.getD (k + 1) 0 = y at *
   have hp := pack_num x y g1 g2
   have hz : 16 * x + y < 256 := by omega
   have hmul : IntKind.i64.wrap (16 * (x : Int)) = 16 * (x : Int) := IntWalk.i64_in _ (by omega)
   have hadd : IntKind.i64.wrap (16 * (x : Int) + (y : Int)) = 16 * (x : Int) + (y : Int) := IntWalk.i64_in _ (by omega)
   generalize 16 * x + y = z at *
   have hk1 : IntKind.i64.wrap ((k : Int) + 1) = (k : Int) + 1 := IntWalk.i64_in _ (by omega)
   obtain ⟨T, hT⟩ : ∃ T, (packN l).take j = T := ⟨_, rfl⟩
   rw [hT] at hstk hown hlk
   clear hT hL
   have HSTK := Lib.hid hstk; clear hstk
   have HP := Lib.hid hp; clear hp
   have HMUL := Lib.hid hmul; clear hmul
   have HADD := Lib.hid hadd; clear hadd
   have HK1 := Lib.hid hk1; clear hk1
   have HL1 := Lib.hid hL1; clear hL1
   have HL2 := Lib.hid hL2; clear hL2
   go_wp2_with fail
   refine wp_region_tree (.q 0 (.q 1 (.q 2 (.q 3 (.q 4 (.q 5 (.q 6 (.q 7 (.q 8 (.q 9 (.q 10 (.q 11 (.q 12 (.e [13] fun _ => .e [14] fun _ => .q 15 (.done))))))))))))))) (fun W => Below w.heap.size w W) rfl (by kernel_rfl) (fun _ _ d _ _ h => by cases d <;> exact h) ?_
   have hw3 : Below w.heap.size w wr.drew := below_drewN hbel 1
   have hszr : w.heap.size ≤ wr.heap.size := hbel.size
   iterate 3 (refine t_q rfl rfl hw3 _ (fun W hW => by (go_simp; rfl)) ?_; go_simp)
   refine t_q rfl rfl hw3 (.pointer (some ⟨bl, o + k, none⟩)) (fun W hW => by go_simp) ?_
   go_simp
   refine t_q rfl rfl hw3 (.int .i64 (x : Nat)) (fun W hW => by (have hc := HL1.out W hW; go_simp)) ?_
   go_simp
   refine t_q rfl rfl hw3 (.int .i64 (16 * (x : Int))) (fun W hW => by (go_simp; exact HMUL.out)) ?_
   go_simp
   iterate 2 (refine t_q rfl rfl hw3 _ (fun W hW => by (go_simp; rfl)) ?_; go_simp)
   refine t_q rfl rfl hw3 (.int .i64 ((k : Int) + 1)) (fun W hW => by (go_simp; exact HK1.out)) ?_
   go_simp
   refine t_q rfl rfl hw3 (.pointer (some ⟨bl, o + (k + 1), none⟩)) (fun W hW => by (go_simp; intro h; omega)) ?_
   go_simp
   refine t_q rfl rfl hw3 (.int .i64 (y : Nat)) (fun W hW => by (have hc := HL2.out W hW; go_simp)) ?_
   go_simp
   refine t_q rfl rfl hw3 (.int .i64 (16 * (x : Int) + y)) (fun W hW => by (go_simp; exact HADD.out)) ?_
   go_simp
   refine t_q rfl rfl hw3 (.int .u8 (z : Nat)) (fun W hW => by (go_simp; exact HP.out)) ?_
   go_simp
   refine t_e rfl rfl fun K hK => ?_
   go_simp
   refine hK _ _ (hw3.alloc (by simpa using hszr) _) ?_
   clear hK K
   change wpT _ _ _ _ _ _ (wr.drew.alloc (.cells #[.int .u8 (z : Int)] 5))
   have hown4 : OwnN 5 .u8 (wr.drew.alloc (.cells #[.int .u8 (z : Int)] 5)) w.heap.size _ T := OwnN.below hown ((below_drewN (Below.refl wr.heap.size wr) 1).alloc (Nat.le_refl _) _) (Nat.le_refl _)
   refine t_e rfl rfl fun K hK => ?_
   refine op_append_nums (.tmp 12) (.tmp 25) 22 rfl .u8 5 1 Tryz.underlying22 info_byte w.heap.size w _ T rfl hown4 (hw3.alloc (by simpa using hszr) _) (by simp; omega) _ 1 1 [z] rfl rfl ⟨_, _, rfl, Ns.new .u8 wr.drew 5 z⟩ (by omega) (by omega) fun v5 w5 hown5 hbel5 hsz5 => ?_
   rw [← HSTK.out] at hown5
   refine hK _ _ hbel5 ?_
   clear hK K
   go_simp
   refine t_q rfl rfl hbel5 _ (fun W hW => by (go_simp; rfl)) ?_
   go_simp
   refine t_done ?_
   go_wp2
   go_roundw
   case rel => exact ⟨j + 1, k + 2, by have := hkj.out; exact (by omega : k + 2 = 2 * (j + 1)), by omega, by go_num, hown5, hbel5⟩
   case measure => simp [intOf]; omega
  ·
   have hkn : k = n := by omega
   have hjm : j = m := by have := HM.out; have := hkj.out; omega
   subst hjm
   rw [HFIN.out] at hown
   have hno : ¬ (k : Int) + 1 < n := by omega
   clear hkn
   go_wp2
   go_ret
   exact ⟨⟨_, rfl, hown⟩, hbel⟩

set_option maxHeartbeats 2000000 in
set_option maxRecDepth 100000 in
theorem startR_any (f : Nat) (p : ByteArray) (hp : p.size ≤ 1000) (hpd : ∀ c ∈ p.data.toList, isDec c = true) (w : World) :
    Calls Tryz.prog 35 #[.int .i64 f, .string p] w fun e w' => (∃ v, e = .returned v ∧ OwnN 3 .i64 w' w.heap.size v (startD f p.data.toList)) ∧ Below w.heap.size w w' := by
 have hpl : p.data.toList.length = p.size := by simp
 have hst : ∀ k (h : k < p.size), startD f p.data.toList = startD f p.data.toList := fun _ _ => rfl
 clear hst
 have hdef : ∀ k (h : k < p.size), [f, p.size] ++ (p.data.toList.take (k + 1)).map hexv = ([f, p.size] ++ (p.data.toList.take k).map hexv) ++ [hexv p[k]] := fun k h => by
  rw [List.take_succ_eq_append_getElem (by rw [hpl]; exact h), List.map_append, List.append_assoc, get_list p k h]
  rfl
 have hlen : ∀ k, ([f, p.size] ++ (p.data.toList.take k).map hexv).length ≤ 2 + p.size := fun k => by
  rw [List.length_append, List.length_map, List.length_take]; simp; omega
 have hfin : [f, p.size] ++ (p.data.toList.take p.size).map hexv = startD f p.data.toList := by
  rw [List.take_of_length_le (by omega)]; unfold startD; rw [hpl]
 have hv : ∀ k (h : k < p.size) W, Calls Tryz.prog 65 #[.int .u8 (p[k].toNat : Int)] W fun e w' => e = .returned (.int .i64 (hexv p[k] : Nat)) ∧ W = w' := fun k h W => by
  have := value_any p[k] _ rfl W
  have hm : p[k] ∈ p.data.toList := List.getElem_mem (l := p.data.toList) (by rw [hpl]; exact h)
  rw [valR_hexv p[k] (isHex_of_dec (hpd _ hm))] at this
  exact this
 have HDEF := Lib.hid hdef; clear hdef
 have HLEN := Lib.hid hlen; clear hlen
 have HFIN := Lib.hid hfin; clear hfin
 have HV := Lib.hid hv; clear hv
 clear hpl hpd
 go_enter Tryz.func35, Tryz.ntmps35
 go_wp2
 go_loopw [5, 6] (fun v i wr => ∃ k : Nat, k ≤ p.size ∧ i = .int .i64 k ∧ OwnN 3 .i64 wr w.heap.size v ([f, p.size] ++ (p.data.toList.take k).map hexv) ∧ Below w.heap.size w wr) (fun _ i _ => p.size - (intOf i).toNat)
 case atStart => exact ⟨0, by omega, rfl, OwnN.ofBlk (l := [f, p.size]) (Blk.new w 3 _) (Nat.le_refl _) rfl (by omega), (Below.refl _ _).alloc (Nat.le_refl _) _⟩
 case round =>
  obtain ⟨k, hk, rfl, hown, hbel⟩ := hrel
  by_cases hlt : k < p.size
  ·
   have ix := index_str (P := Tryz.prog) 9 Tryz.underlying9 p k hlt k rfl _ rfl
   have HVk := Lib.hid (HV.out k hlt)
   have hstk := HDEF.out k hlt
   have hlk := HLEN.out k
   generalize hexv p[k] = z at *
   generalize (p[k].toNat : Int) = y at *
   obtain ⟨T, hT⟩ : ∃ T, [f, p.size] ++ (p.data.toList.take k).map hexv = T := ⟨_, rfl⟩
   rw [hT] at hstk hown hlk
   clear hT
   have HSTK := Lib.hid hstk; clear hstk
   have hszr : w.heap.size ≤ wr.heap.size := hbel.size
   go_wp2_with (first
    | (go_at_call 65; refine (HVk.out _).mono ?_; rintro e w' ⟨rfl, rfl⟩)
    | (at_builtin; go_loud (refine wpList_append_nums rfl (.tmp 17) (.tmp 22) 81 rfl .i64 3 8 Tryz.underlying81 info_int w.heap.size w _ T rfl (OwnN.below hown ((Below.refl wr.heap.size wr).alloc (Nat.le_refl _) _) (Nat.le_refl _)) (hbel.alloc (by simpa using hszr) _) (by simp; omega) _ 1 1 [z] rfl rfl ⟨_, _, rfl, Ns.new .i64 wr 3 z⟩ (by omega) (by omega) ?_); intro v5 w5 hown5 hbel5 hsz5))
   rw [← HSTK.out] at hown5
   go_roundw
   case rel => exact ⟨k + 1, by omega, by go_num, hown5, hbel5⟩
   case measure => simp [intOf]; omega
  ·
   obtain rfl : k = p.size := by omega
   rw [HFIN.out] at hown
   go_wp2
   go_ret
   exact ⟨⟨_, rfl, hown⟩, hbel⟩
end Go.Proofs.YthodpjcdmdbnoaaGreatDoor

/- The contracts of lockboxref14.Make, read, Open. -/
namespace Go.Proofs.YthodpjcdmdbnoaaGreatDoor
open Go Go.RowKit Pr

theorem OwnN.form2 {e : TypeId} {kd : IntKind} {w : World} {B : Nat} {v : Value} {l : List Nat} (h : OwnN e kd w B v l) (hl : l ≠ []) : ∃ g cap, v = .slice (some ⟨g, 0, none⟩) l.length cap ∧ B ≤ g ∧ l.length ≤ cap ∧ g < w.heap.size ∧ Ns kd w g 0 l := by
 rcases h.2 with ⟨_, h0⟩ | ⟨g, cap, cur, rfl, hg, hb, hc, hm, hs, ht⟩
 ·
  exact absurd (List.length_eq_zero_iff.1 h0) hl
 ·
  refine ⟨g, cap, rfl, hg, hc, (World.ownsRow.lt h g rfl).2, fun j v hv => ?_⟩
  have := World.ownsRow.cells h (g := g) rfl j v hv
  rw [Addr.add_mid] at this
  exact this
theorem OwnN.free {e : TypeId} {kd : IntKind} {w : World} {B g n cap : Nat} {l : List Nat} (h : OwnN e kd w B (.slice (some ⟨g, 0, none⟩) n cap) l) (k : Nat) : w.frozen? ⟨g, k, none⟩ = false := by
 rcases h.2 with ⟨h2, _⟩ | ⟨g', cap', cur, hv, hg, hb, _⟩
 ·
  cases h2
 ·
  injection hv with e1 e2 e3
  injection e1 with e1
  injection e1 with e1
  subst e1
  exact Blk.frozen hb k

/-- a list of digits that is read where it lies -/
def DigAt (w : World) (A : Option Addr) (l : List Nat) : Prop := ∃ b o, A = some ⟨b, o, none⟩ ∧ b < w.heap.size ∧ ∀ k, k < 16 → ∀ W, Below w.heap.size w W → W.cell? ⟨b, o + k, none⟩ = some (.int .i64 (l.getD k 0 : Nat))
theorem DigAt.of {w : World} {A : Option Addr} {l : List Nat} (hl : 16 ≤ l.length) (h : AtN .i64 w A l) : DigAt w A l := by
 obtain ⟨b, o, e, hN⟩ := h (by intro h; rw [h] at hl; simp at hl)
 have hlt := hN.lt (by intro h; rw [h] at hl; simp at hl)
 refine ⟨b, o, e, hlt, fun k hk W hW => ?_⟩
 rw [getD_of _ _ (by omega)]
 exact (hN.below hW hlt).cell k (by omega)

def readZ (l : List Nat) (f : Nat) : Int := match readAt l f with | some i => i | none => -1
/-- the digits that were read, ahead of place k -/
def pinTo (l : List Nat) (k : Nat) : List UInt8 := ((l.drop 2).take (min (l.getD 1 0) (k - 2))).map hexd
theorem pinTo_two (l : List Nat) : pinTo l 2 = [] := by unfold pinTo; simp
theorem pinTo_end (l : List Nat) (h : l.getD 1 0 ≤ 14) : pinTo l 16 = readV l := by unfold pinTo readV; rw [Nat.min_eq_left (by omega)]
theorem pinTo_more (l : List Nat) (hl : 16 ≤ l.length) (k : Nat) (h2 : 2 ≤ k) (hk : k < 16) (h : k < 2 + l.getD 1 0) : pinTo l (k + 1) = pinTo l k ++ [hexd (l.getD k 0)] := by
 unfold pinTo
 rw [Nat.min_eq_right (by omega), Nat.min_eq_right (by omega), show k + 1 - 2 = (k - 2) + 1 by omega, List.take_succ_eq_append_getElem (by rw [List.length_drop]; omega), List.map_append]
 congr 1
 simp only [List.getElem_drop, List.map_cons, List.map_nil]
 rw [getD_of l k (by omega)]
 congr 3
 omega
theorem pinTo_same (l : List Nat) (k : Nat) (h : ¬ k < 2 + l.getD 1 0) : pinTo l (k + 1) = pinTo l k := by
 unfold pinTo
 rw [Nat.min_eq_left (by omega), Nat.min_eq_left (by omega)]
theorem pinTo_len (l : List Nat) (hl : l.getD 1 0 ≤ 12) (k : Nat) : (pinTo l k).length ≤ 14 := by
 unfold pinTo
 rw [List.length_map, List.length_take, List.length_drop]
 omega

theorem noD_int0 (c : Nat) : noD 0 c = ((c : Int) != 15) := by
 unfold noD
 by_cases h : c = 15
 ·
  subst h; rfl
 ·
  have : ((c : Int) != 15) = true := by rw [bne_iff_ne]; omega
  rw [this]; simp [h]
theorem noD_int1 (c : Nat) : noD 1 c = false := by unfold noD; simp
theorem noD_int3 (c : Nat) : noD 3 c = decide ((c : Int) < 10) := by
 unfold noD
 by_cases h : c < 10
 ·
  have : decide ((c : Int) < 10) = true := by simp; omega
  rw [this]; simp [h]
 ·
  have : decide ((c : Int) < 10) = false := by simp; omega
  rw [this]; simp [h]
theorem noD_int4 (c : Nat) : noD 4 c = ((c : Int) != 10) := by
 unfold noD
 by_cases h : c = 10
 ·
  subst h; rfl
 ·
  have : ((c : Int) != 10) = true := by rw [bne_iff_ne]; omega
  rw [this]; simp [h]

set_option maxHeartbeats 4000000 in
set_option maxRecDepth 100000 in
theorem readR_any (l : List Nat) (L : Nat) (hL : l.length = L) (hL16 : 16 ≤ L) (hlt : ∀ c ∈ l, c < 16) (f : Nat) (hf : f = 0 ∨ f = 1 ∨ f = 3 ∨ f = 4) (A : Option Addr) (cp : Nat) (w : World) (hA : AtN .i64 w A l) :
    Calls Tryz.prog 42 #[.slice A L cp, .int .i64 f] w fun e w' =>
     e = .returned (.tuple #[.string (str (readStr l f)), .int .i64 (readZ l f)]) ∧ Below w.heap.size w w' := by
 have hl : 16 ≤ l.length := by omega
 have h0L : 0 < L := by omega
 have h1L : 1 < L := by omega
 have h0Li : (0 : Int) < (L : Int) := by omega
 have h1Li : (1 : Int) < (L : Int) := by omega
 obtain ⟨bl, o, rfl, hbl, hD⟩ := DigAt.of hl hA
 have c0 : ∀ W, Below w.heap.size w W → W.cell? ⟨bl, o, none⟩ = some (.int .i64 (l.getD 0 0 : Nat)) := fun W hW => hD 0 (by omega) W hW
 have c1 : ∀ W, Below w.heap.size w W → W.cell? ⟨bl, o + 1, none⟩ = some (.int .i64 (l.getD 1 0 : Nat)) := fun W hW => hD 1 (by omega) W hW
 have d0 := getD_lt16 l hlt 0
 have d1 := getD_lt16 l hlt 1
 have HD := Lib.hid hD; clear hD
 have k0 := c0 w (Below.refl _ _)
 have k1 := c1 w (Below.refl _ _)
 have HC1 := Lib.hid c1; clear c0 c1
 have hdef : readZ l f = match readAt l f with | some i => (i : Int) | none => -1 := rfl
 have hdef2 : readStr l f = match readAt l f with | some _ => [] | none => readV l := rfl
 have hse : str [] = ⟨#[]⟩ := rfl
 by_cases h0 : l.getD 0 0 = f
 ·
  by_cases h1 : 4 ≤ l.getD 1 0 ∧ l.getD 1 0 ≤ 12
  ·
   rw [readAt_loop h0 h1.1 h1.2] at hdef hdef2
   have hb : ∀ k, badD f (l.getD 1 0) k (l.getD k 0) = if k < 2 + l.getD 1 0 then decide (9 < l.getD k 0) else noD f (l.getD k 0) := fun k => rfl
   have hstep : ∀ k m, firstD f l k (m + 1) = if badD f (l.getD 1 0) k (l.getD k 0) then some k else firstD f l (k + 1) m := fun k m => rfl
   have hmore : ∀ k, 2 ≤ k → k < 16 → k < 2 + l.getD 1 0 → pinTo l (k + 1) = pinTo l k ++ [hexd (l.getD k 0)] := fun k a b c => pinTo_more l hl k a b c
   have hsame : ∀ k, ¬ k < 2 + l.getD 1 0 → pinTo l (k + 1) = pinTo l k := fun k a => pinTo_same l k a
   have hplen : ∀ k, (pinTo l k).length ≤ 14 := pinTo_len l h1.2
   have hpend := pinTo_end l (by omega)
   have t0 : ((l.getD 0 0 : Int) != (f : Int)) = false := by rw [bne_eq_false_iff_eq]; omega
   clear h0
   generalize l.getD 0 0 = x0 at *
   obtain ⟨n, hn⟩ : ∃ n, l.getD 1 0 = n := ⟨_, rfl⟩
   rw [hn] at k1 HC1 h1 d1 hb hstep hmore hsame
   obtain ⟨n4, n12⟩ := h1
   have HDEF := Lib.hid hdef; clear hdef
   have HDEF2 := Lib.hid hdef2; clear hdef2
   have HB := Lib.hid hb; clear hb
   have HST := Lib.hid hstep; clear hstep
   have HMORE := Lib.hid hmore; clear hmore
   have HSAME := Lib.hid hsame; clear hsame
   have HPL := Lib.hid hplen; clear hplen
   have HPE := Lib.hid hpend; clear hpend
   have HLT := Lib.hid (fun i => getD_lt16 l hlt i)
   have HSE := Lib.hid hse; clear hse
   clear hl hL hlt hA
   clear hn
   have main : ∀ f', f = f' → f' = 0 ∨ f' = 1 ∨ f' = 3 ∨ f' = 4 → Calls Tryz.prog 42 #[.slice (some ⟨bl, o, none⟩) L cp, .int .i64 (f' : Nat)] w fun e w' =>
       e = .returned (.tuple #[.string (str (readStr l f)), .int .i64 (readZ l f)]) ∧ Below w.heap.size w w' := by
    clear hf
    intro f' hff hf
    have hnd : ∀ c, noD f c = noD f' c := by rw [hff]; exact fun _ => rfl
    rw [hff] at t0
    have HND := Lib.hid hnd; clear hnd hff
    rcases hf with rfl | rfl | rfl | rfl
    all_goals
     go_enter Tryz.func42, Tryz.ntmps42
     go_wp2
     go_loopw [6, 7] (fun v i wr => ∃ k : Nat, 2 ≤ k ∧ k ≤ 16 ∧ i = .int .i64 k ∧ Hid (firstD f l 2 14 = firstD f l k (16 - k)) ∧ v = .string (str (pinTo l k)) ∧ Below w.heap.size w wr) (fun _ i _ => 16 - (intOf i).toNat)
     case atStart => exact ⟨2, by omega, by omega, rfl, rfl, by rw [pinTo_two]; rfl, Below.refl _ _⟩
     case round =>
      obtain ⟨k, hk2, hk, rfl, hfd, rfl, hbel⟩ := hrel
      have hc1 := HC1.out wr hbel
      by_cases hlt : k < 16
      ·
       have hkL : k < L := by omega
       have hkLi : (k : Int) < (L : Int) := by omega
       have hck := HD.out k hlt wr hbel
       have hc16 := HLT.out k
       have hbk := HB.out k
       have hsk := HST.out k (15 - k)
       rw [show 15 - k + 1 = 16 - k by omega, hbk] at hsk
       have hmo := HMORE.out k hk2 hlt
       have hsa := HSAME.out k
       have hpl := HPL.out k
       rw [HND.out] at hsk
       clear hbk
       generalize l.getD k 0 = c at *
       by_cases hkn : k < 2 + n
       ·
        have hkn' : (k : Int) < 2 + n := by omega
        rw [if_pos hkn] at hsk
        have hmo := hmo hkn
        clear hsa
        by_cases h9 : 9 < c
        ·
         have hfin : firstD f l 2 14 = some k := by rw [hfd.out, hsk, if_pos (by simpa using h9)]
         have hZ := HDEF.out
         have hS := HDEF2.out
         rw [hfin] at hZ hS
         have HZ := Lib.hid hZ; clear hZ
         have HS := Lib.hid hS; clear hS
         clear hfin hsk hmo
         go_wp2
         go_ret2
         rw [HZ.out, HS.out, HSE.out]
         exact ⟨rfl, hbel⟩
        ·
         have hnx : firstD f l 2 14 = firstD f l (k + 1) (16 - (k + 1)) := by rw [hfd.out, hsk, if_neg (by simpa using h9), show 16 - (k + 1) = 15 - k by omega]
         have HNX := Lib.hid hnx; clear hnx hsk
         have hX : str (pinTo l k) ++ ⟨#[hexd c]⟩ = str (pinTo l (k + 1)) := by
          have e : (⟨#[hexd c]⟩ : ByteArray) = str [hexd c] := rfl
          rw [hmo, e, str_add]
         have hXs : (str (pinTo l k)).size ≤ 14 := by rw [str_size]; exact hpl
         clear hmo hpl
         generalize str (pinTo l k) = X at *
         have HX := Lib.hid hX; clear hX
         have hdg := digit8_any c hc16 wr
         obtain ⟨Y, hY⟩ : ∃ Y : ByteArray, (⟨#[hexd c]⟩ : ByteArray) = Y := ⟨_, rfl⟩
         have hYs : Y.size = 1 := by rw [← hY]; rfl
         rw [hY] at hdg HX
         have HDG := Lib.hid hdg
         have b1 : ¬ 9223372036854775807 < X.size + Y.size := by omega
         clear hdg hY hYs
         go_wp2_with fail
         refine HDG.out.mono ?_
         rintro e w1 ⟨rfl, hb1⟩
         have hbel1 := hbel.trans (hb1.mono hbel.size)
         go_wp2
         go_roundw
         case rel => exact ⟨k + 1, by omega, by omega, by go_num, HNX, by rw [HX.out], hbel1⟩
         case measure => simp [intOf]; omega
       ·
        have hkn' : ¬ (k : Int) < 2 + n := by omega
        rw [if_neg hkn] at hsk
        have hsa := hsa hkn
        clear hmo
        split at hsk
        ·
         rename_i hb
         have hfin : firstD f l 2 14 = some k := by rw [hfd.out, hsk]
         have hZ := HDEF.out
         have hS := HDEF2.out
         rw [hfin] at hZ hS
         have HZ := Lib.hid hZ; clear hZ
         have HS := Lib.hid hS; clear hS
         clear hfin hsk hsa
         first
          | (exact absurd ((noD_int1 c).symm.trans hb) (by decide))
          | ((first
              | (have tt := (noD_int0 c).symm.trans hb)
              | (have tt := (noD_int3 c).symm.trans hb)
              | (have tt := (noD_int4 c).symm.trans hb))
             clear hb
             go_wp2
             go_ret2
             rw [HZ.out, HS.out, HSE.out]
             exact ⟨rfl, hbel⟩)
        ·
         rename_i hb
         replace hb := eq_false_of_ne_true hb
         have hnx : firstD f l 2 14 = firstD f l (k + 1) (16 - (k + 1)) := by rw [hfd.out, hsk, show 16 - (k + 1) = 15 - k by omega]
         have HNX := Lib.hid hnx; clear hnx hsk
         have HSA := Lib.hid hsa; clear hsa
         first
          | (have tt := (noD_int0 c).symm.trans hb)
          | (have tt := (noD_int3 c).symm.trans hb)
          | (have tt := (noD_int4 c).symm.trans hb)
          | (have tt := (noD_int1 c).symm.trans hb)
         clear hb
         go_wp2
         go_roundw
         case rel => exact ⟨k + 1, by omega, by omega, by go_num, HNX, by rw [HSA.out], hbel⟩
         case measure => simp [intOf]; omega
      ·
       obtain rfl : k = 16 := by omega
       have hfin : firstD f l 2 14 = none := by rw [hfd.out]; rfl
       have hZ := HDEF.out
       have hS := HDEF2.out
       rw [hfin] at hZ hS
       have HZ := Lib.hid hZ; clear hZ
       have HS := Lib.hid hS; clear hS
       clear hfin
       go_wp2
       go_ret2
       rw [HZ.out, HS.out, ← HPE.out]
       exact ⟨rfl, hbel⟩
   exact main f rfl hf
  ·
   have hZ : readZ l f = 1 := by
    rw [hdef]
    unfold readAt
    rw [if_neg (by simp only [ne_eq, Classical.not_not]; exact h0), if_pos (by omega)]
    rfl
   have hS : readStr l f = [] := by
    rw [hdef2]
    unfold readAt
    rw [if_neg (by simp only [ne_eq, Classical.not_not]; exact h0), if_pos (by omega)]
   rw [hZ, hS, hse]
   have t0 : ((l.getD 0 0 : Int) != (f : Int)) = false := by rw [bne_eq_false_iff_eq]; omega
   clear hdef hdef2 hZ hS hse h0 hl hL hlt hf
   generalize l.getD 0 0 = x0 at *
   generalize l.getD 1 0 = n at *
   by_cases hn4 : n < 4
   ·
    go_enter Tryz.func42, Tryz.ntmps42
    go_wp2
    go_ret2
    exact ⟨rfl, Below.refl _ _⟩
   ·
    have hn12 : 12 < n := by omega
    go_enter Tryz.func42, Tryz.ntmps42
    go_wp2
    go_ret2
    exact ⟨rfl, Below.refl _ _⟩
 ·
  have hZ : readZ l f = 0 := by
   rw [hdef]
   unfold readAt
   rw [if_pos h0]
   rfl
  have hS : readStr l f = [] := by
   rw [hdef2]
   unfold readAt
   rw [if_pos h0]
  rw [hZ, hS, hse]
  have t0 : ((l.getD 0 0 : Int) != (f : Int)) = true := by rw [bne_iff_ne]; omega
  clear hdef hdef2 hZ hS hse h0 hl hL hlt hf
  generalize l.getD 0 0 = x0 at *
  generalize l.getD 1 0 = n at *
  go_enter Tryz.func42, Tryz.ntmps42
  go_wp2
  go_ret2
  exact ⟨rfl, Below.refl _ _⟩

end Go.Proofs.YthodpjcdmdbnoaaGreatDoor

/- The contract of lockboxref14.Make. -/
namespace Go.Proofs.YthodpjcdmdbnoaaGreatDoor
open Go Go.RowKit Pr

theorem startD_len (f : Nat) (p : List UInt8) : (startD f p).length = 2 + p.length := by unfold startD; rw [List.length_append, List.length_map]; rfl
theorem Ns.newZ (kd : IntKind) (w : World) (t : TypeId) (z : Int) (c : Nat) (h : z = c) : Ns kd (w.alloc (.cells #[.int kd z] t)) w.heap.size 0 [c] := by
 subst h
 exact Ns.new kd w t c
theorem Ns.grown {kd : IntKind} {w w' : World} {b o : Nat} {l : List Nat} {row : Option Nat} (h : Ns kd w b o l) (hg : w.grownBy w' row) (hb : b < w.heap.size) (hne : some b ≠ row) : Ns kd w' b o l :=
 fun j v hv => (World.cell?_of_block (a := ⟨b, o + j, none⟩) (hg.block b hb hne)).trans (h j v hv)
section
variable {P : Program} {ops : Array Oper} {rest : List Oper} {op : Oper} {a : Act} {w : World} {Q : Exit → Act → World → Prop}
/-- append of a row of numbers to a row of one's own; what else has not turned -/
theorem wpList_append_numsB (hgd : op.guard = none) (s x : Operand) (t : TypeId) (ho : op.op = .call { callee := .builtin .append, args := #[s, x], argTypes := #[t, t] })
    (kd : IntKind) (e : TypeId) (bytes : Nat) (ht : P.underlying t = some (.slice e)) (hinfo : (P.info? e).map (fun i => (i.zero, i.size, i.bytes)) = some (some (.int kd 0), 1, bytes))
    (B : Nat) (w0 : World) (v : Value) (l : List Nat) (hs : a.eval s = v) (hown : OwnN e kd w B v l) (hbel : Below B w0 w) (hB : B ≤ w.heap.size)
    (A : Option Addr) (m c : Nat) (l2 : List Nat) (hx : a.eval x = .slice A m c) (hm : l2.length = m) (hA : ∃ b o, A = some ⟨b, o, none⟩ ∧ Ns kd w b o l2)
    (h63 : l.length + m ≤ 1000000000) (hby : bytes ≤ 1000)
    (h : ∀ v' w', OwnN e kd w' B v' (l ++ l2) → Below B w0 w' → w.grownBy w' v.ownBlock → (v'.ownBlock = v.ownBlock ∨ v'.ownBlock = some w.heap.size) → wpList P ops Q rest (a.put op.dst v') w') : wpList P ops Q (op :: rest) a w := by
 obtain ⟨b, o, rfl, hN⟩ := hA
 obtain ⟨i0, hi, hz0, hz1, hz2⟩ := info_parts hinfo
 refine wpList_append_own_at w hgd s x t ho B e i0 (.int kd 0) 1 bytes ht hi hz0 hz1 hz2 rfl (by decide) v l.length (numCells kd l).toList hs hown ⟨b, o, none⟩ m c (numCells kd l2).toList hx (by simp [numCells, hm]) ?_ ?_ ?_ ?_ hB ?_
 ·
  intro j u hj
  have := hN j u hj
  rwa [Addr.add_mid]
 ·
  intro u hu
  simp only [numCells, List.mem_map] at hu
  obtain ⟨c, _, rfl⟩ := hu
  rfl
 ·
  unfold maxLen; omega
 ·
  have := Nat.mul_le_mul h63 hby; omega
 ·
  intro v' w' h1 h2 _ h4
  refine h v' w' ?_ (hbel.grown h2 hB (fun g hg => (World.ownsRow.lt hown g hg).1)) h2 h4
  unfold OwnN
  rw [List.length_append, hm]
  have e1 : (numCells kd (l ++ l2)).toList = (numCells kd l).toList ++ (numCells kd l2).toList := by simp [numCells]
  rw [e1]
  exact h1
end

end Go.Proofs.YthodpjcdmdbnoaaGreatDoor
