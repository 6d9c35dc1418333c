/- The contracts of emv.pair, emv.Session. -/
import Derived.Test.YtgffppmpmjaknaaDoorDesGH
import Derived.Test.YtgffppmpmjaknaaDoorKit
import Derived.Test.YtgffppmpmjaknaaDoorConv
import Derived.Test.YtgffppmpmjaknaaDoorErr
import Derived.ArgAppend
namespace Go.Proofs.YtgffppmpmjaknaaDoor
open Go Go.RowKit Pr

theorem triple16_len (k0 k1 x : List Nat) (back : Bool) : (triple16 k0 k1 x back).length = 8 := blockN_len _ _ _
theorem triple16_lt (k0 k1 x : List Nat) (back : Bool) : ∀ c ∈ triple16 k0 k1 x back, c < 256 := blockN_lt _ _ _

/-- the operation alone: an append that grows: the bytes lie in new memory -/
theorem op_append_grows {Q : Exit → Act → World → Prop} {K : Act → World → Prop} {o : Oper} {a : Act} {w : World} (s x : Operand) (hop : o.op = .call { callee := .builtin .append, args := #[s, x], argTypes := #[22, 22] })
    (b : Addr) (n cap : Nat) (l : List Nat) (hs : a.eval s = .slice (some b) n cap) (hb0 : b.spot = none) (hl : l.length = n) (hB : Bs w b.block b.off l) (ad : Addr) (m c : Nat) (l2 : List Nat) (hx : a.eval x = .slice (some ad) m c) (hb1 : ad.spot = none) (hl2 : l2.length = m) (hB2 : Bs w ad.block ad.off l2)
    (hg : cap < n + m) (hsz : n + m ≤ 140737488355328)
    (h : ∀ v' w', Own w' w.heap.size v' (l ++ l2) → Below w.heap.size w w' → K (a.put o.dst v') w') : o.wp Tryd.prog a w K Q := by
  obtain ⟨i0, hi, hz0, hz1, hz2⟩ := info_parts info_byte
  have hadd : ∀ (p : Addr) (j : Nat), p.spot = none → p.add j = ⟨p.block, p.off + j, none⟩ := fun p j hp => by
    obtain ⟨pb, po, pe⟩ := p
    subst hp
    simp [Addr.add]
  obtain ⟨v', w', hr, h2, h3⟩ := run_append_arg_grows (P := Tryd.prog) w 22 o.type 5 i0 (.int .u8 0) 1 1 Tryd.underlying22 hi hz0 hz1 hz2 rfl (by decide) b n cap (byteCells l).toList (by simp [byteCells, hl]) (fun j u hj => by rw [hadd b j hb0]; exact hB j u hj)
    ad m c (byteCells l2).toList (by simp [byteCells, hl2]) (fun j u hj => by rw [hadd ad j hb1]; exact hB2 j u hj) hg (by unfold maxLen; omega) (by omega)
  unfold Oper.wp execOp
  simp only [hop, resolve, invoke, builtin, Sem.run_bind, Sem.run_pure, Result.andThen_ok, List.map_toArray, List.map_cons, List.map_nil, hs, hx, hr]
  refine h v' w' ?_ ((Below.refl _ _).grown h3 (Nat.le_refl _) (fun k hk => by cases hk))
  unfold Own
  rw [List.length_append, hl, hl2]
  have e : (byteCells (l ++ l2)).toList = (byteCells l).toList ++ (byteCells l2).toList := by simp [byteCells]
  rw [e]
  exact h2

set_option maxHeartbeats 2000000 in
set_option maxRecDepth 100000 in
theorem pair_any (k0 k1 x y : List Nat) (h0 : k0.length = 8) (h1 : k1.length = 8) (hx : x.length = 8) (hy : y.length = 8) (g0 : ∀ c ∈ k0, c < 256) (g1 : ∀ c ∈ k1, c < 256) (gx : ∀ c ∈ x, c < 256) (gy : ∀ c ∈ y, c < 256) (b o c : Nat) (hc : 16 ≤ c) (w : World) (hB0 : Bs w b o k0) (hB1 : Bs w b (o + 8) k1) :
    Calls Tryd.prog 28 #[.slice (some ⟨b, o, none⟩) 16 c, .agg (byteCells x), .agg (byteCells y)] w fun e w' =>
      (∃ v, e = .returned (.tuple #[v, .nilIface]) ∧ Own w' w.heap.size v (triple16 k0 k1 x false ++ triple16 k0 k1 y false)) ∧ Below w.heap.size w w' := by
  have hbl : b < w.heap.size := hB0.lt (by intro h; rw [h] at h0; cases h0)
  have HT := Lib.hid (fun (z : List Nat) (hz : z.length = 8) (gz : ∀ c ∈ z, c < 256) W => triple16_fwd k0 k1 z h0 h1 hz g0 g1 gz b o c hc W)
  obtain ⟨cx, hcx⟩ : ∃ cx, byteCells x = cx := ⟨_, rfl⟩
  obtain ⟨cy, hcy⟩ : ∃ cy, byteCells y = cy := ⟨_, rfl⟩
  have hszx : cx.size = 8 := by rw [← hcx, size_byteCells, hx]
  have hszy : cy.size = 8 := by rw [← hcy, size_byteCells, hy]
  rw [hcx, hcy]
  have HCX := Lib.hid hcx; clear hcx
  have HCY := Lib.hid hcy; clear hcy
  have HSX := Lib.hid hszx; clear hszx
  have HSY := Lib.hid hszy; clear hszy
  have HX := Lib.hid hx; clear hx
  have HY := Lib.hid hy; clear hy
  obtain ⟨tx, htx⟩ : ∃ tx, triple16 k0 k1 x false = tx := ⟨_, rfl⟩
  obtain ⟨ty, hty⟩ : ∃ ty, triple16 k0 k1 y false = ty := ⟨_, rfl⟩
  have htxl : tx.length = 8 := by rw [← htx]; exact triple16_len _ _ _ _
  have htyl : ty.length = 8 := by rw [← hty]; exact triple16_len _ _ _ _
  have HTX := Lib.hid (fun W a b => HT.out x HX.out gx W a b)
  have HTY := Lib.hid (fun W a b => HT.out y HY.out gy W a b)
  rw [htx] at HTX
  rw [hty] at HTY
  rw [htx, hty]
  clear htx hty HT h0 h1
  have HTXL := Lib.hid htxl; clear htxl
  have HTYL := Lib.hid htyl; clear htyl
  go_enter Tryd.func28, Tryd.ntmps28
  have hX0 : Blk ((w.alloc (.cells cx 57)).alloc (.cells cy 57)) w.heap.size 57 (byteCells x) := by rw [HCX.out]; exact (Blk.new w _ cx).alloc _
  have hY0 : Blk ((w.alloc (.cells cx 57)).alloc (.cells cy 57)) (w.heap.size + 1) 57 (byteCells y) := by rw [HCY.out]; exact Blk.new2 w _ _ cy
  have hb00 : Below w.heap.size w ((w.alloc (.cells cx 57)).alloc (.cells cy 57)) := ((Below.refl _ _).alloc (Nat.le_refl _) _).alloc (by simp) _
  have hBx := Bs.of_blk (m := x) (o := 0) hX0 (fun j c hj => by rw [Nat.zero_add]; exact hj)
  go_wp2_with (first
    | (refine wpList_load_bs rfl 57 (.tmp 4) rfl w.heap.size 0 rfl x hBx _ Tryd.underlying57 rfl (by rw [info_8u8, HX.out]) ?_))
  refine (HTX.out _ ((hB0.alloc _).alloc _) ((hB1.alloc _).alloc _)).mono ?_
  rintro e w1 ⟨rfl, hb1⟩
  have hbel1 := hb00.trans (hb1.mono hb00.size)
  have hY1 := hY0.below hb1 hY0.lt
  have hs1 := hY1.lt
  clear hX0 hY0 hb00 hBx hb1
  go_wp2_with (first
    | (refine wpList_store_all rfl 57 (.tmp 8) (.tmp 15) rfl w1.heap.size (byteCells tx) rfl rfl 57 _ (Blk.new w1 _ _) (by rw [info_8u8, size_byteCells, HTXL.out]) (by rw [size_byteCells, HTXL.out]; rfl) (bytes_one _) ?_; intro w2 hT2 hO2)
    | (refine wpList_load_bs rfl 57 (.tmp 5) rfl (w.heap.size + 1) 0 rfl y (Bs.of_blk ((hY1.alloc _).only hO2 (by omega)) (fun j c hj => by rw [Nat.zero_add]; exact hj)) _ Tryd.underlying57 rfl (by rw [info_8u8, HY.out]) ?_))
  have hbel2 : Below w.heap.size w w2 := hO2.below (hbel1.alloc hbel1.size _) hbel1.size
  refine (HTY.out _ (hB0.below hbel2 hbl) (hB1.below hbel2 hbl)).mono ?_
  rintro e w3 ⟨rfl, hb3⟩
  have hT3 := hT2.below hb3 hT2.lt
  have hbel3 := hbel2.trans (hb3.mono hbel2.size)
  have hs3 := hT3.lt
  clear hT2 hO2 hb3 hY1
  go_wp2_with (first
    | (refine wpList_store_all rfl 57 (.tmp 10) (.tmp 24) rfl w3.heap.size (byteCells ty) rfl rfl 57 _ (Blk.new w3 _ _) (by rw [info_8u8, size_byteCells, HTYL.out]) (by rw [size_byteCells, HTYL.out]; rfl) (bytes_one _) ?_; intro w4 hT4 hO4))
  have hX4 := (hT3.alloc (.cells #[Value.int .u8 0, Value.int .u8 0, Value.int .u8 0, Value.int .u8 0, Value.int .u8 0, Value.int .u8 0, Value.int .u8 0, Value.int .u8 0] 57)).only hO4 (by omega)
  have hbel4 : Below w.heap.size w w4 := hO4.below (hbel3.alloc hbel3.size _) hbel3.size
  have hsx := hX4.lt
  have hsy := hT4.lt
  clear hO4 hT3 hbel3
  refine wp_region_tree (.q 0 (.q 1 (.e [2] fun _ => .q 3 (.q 4 .done)))) (fun _ => True) rfl (by kernel_rfl) (fun _ _ d _ _ h => by cases d <;> exact h) ?_
  iterate 2 (refine t_q rfl rfl trivial _ (fun W hW => by (go_simp; rfl)) ?_; go_simp)
  refine t_e rfl rfl fun K hK => ?_
  refine op_append_grows (.tmp 29) (.tmp 30) rfl ⟨w1.heap.size, 0, none⟩ 8 8 tx rfl rfl HTXL.out (Bs.of_blk (hX4.drewN 1) (fun j c hj => by rw [Nat.zero_add]; exact hj)) ⟨w3.heap.size, 0, none⟩ 8 8 ty rfl rfl HTYL.out (Bs.of_blk (hT4.drewN 1) (fun j c hj => by rw [Nat.zero_add]; exact hj)) (by omega) (by omega) ?_
  intro v' w5 hown hb5
  refine hK _ _ trivial ?_
  clear hK K
  go_simp
  iterate 2 (refine t_q rfl rfl trivial _ (fun W hW => by (go_simp; rfl)) ?_; go_simp)
  refine t_done ?_
  have hbel5 : Below w.heap.size w w5 := (below_drewN hbel4 1).trans (hb5.mono hbel4.size)
  go_wp2
  go_ret2
  exact ⟨⟨_, rfl, hown.more hbel4.size⟩, hbel5⟩
end Go.Proofs.YtgffppmpmjaknaaDoor
