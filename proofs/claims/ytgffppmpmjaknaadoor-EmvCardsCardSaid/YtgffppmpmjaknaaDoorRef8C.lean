/- The contracts of lockboxref06.Xor, lockboxref08.Digit, Hex, lockboxref16.Pick, lockboxref09.Odd. -/
import Derived.Test.YtgffppmpmjaknaaDoorRef8B
import Derived.Test.YtgffppmpmjaknaaDoorLaw18A
import Derived.Test.YtgffppmpmjaknaaDoorEmvA
import Derived.Laws.IdiomStrings
namespace Go.Proofs.YtgffppmpmjaknaaDoor
open Go Go.RowKit Pr

/-- the operation alone: a new row of one byte turned into a string -/
theorem op_one_string {P : Program} {K : Act → World → Prop} {Q : Exit → Act → World → Prop} {o : Oper} {a : Act} {w : World} (src dst e : TypeId) (x : Operand) (hop : o.op = .convert src dst x) (g cap : Nat) (c : Nat) (hc : c < 256) (hx : a.eval x = .slice (some ⟨g, 0, none⟩) 1 cap)
    (hs : P.underlying src = some (.slice e)) (he : P.underlying e = some (.int .u8)) (hd : P.underlying dst = some .string) (hB : w.cell? ⟨g, 0, none⟩ = some (.int .u8 (c : Int))) (h : K (a.put o.dst (.string ⟨#[UInt8.ofNat c]⟩)) w) : o.wp P a w K Q := by
  have hr := run_convert_bytes_back (P := P) w src dst e ⟨g, 0, none⟩ cap [UInt8.ofNat c] hs he hd (fun j hj => by
    obtain rfl : j = 0 := by simpa using hj
    rw [Addr.add_mid]
    simp only [List.getElem_cons_zero, Nat.zero_add]
    rw [UInt8.toNat_ofNat_of_lt' hc]
    exact hB)
  unfold Oper.wp execOp
  simp only [hop, hx, Sem.run_bind]
  rw [show ([UInt8.ofNat c] : List UInt8).length = 1 from rfl] at hr
  rw [hr]
  exact h
theorem wpList_one_string {P : Program} {ops : Array Oper} {rest : List Oper} {Q : Exit → Act → World → Prop} {o : Oper} {a : Act} {w : World} (hgd : o.guard = none) (src dst e : TypeId) (x : Operand) (hop : o.op = .convert src dst x) (g cap : Nat) (c : Nat) (hc : c < 256) (hx : a.eval x = .slice (some ⟨g, 0, none⟩) 1 cap)
    (hs : P.underlying src = some (.slice e)) (he : P.underlying e = some (.int .u8)) (hd : P.underlying dst = some .string) (hB : w.cell? ⟨g, 0, none⟩ = some (.int .u8 (c : Int))) (h : wpList P ops Q rest (a.put o.dst (.string ⟨#[UInt8.ofNat c]⟩)) w) : wpList P ops Q (o :: rest) a w :=
  wpList_plain hgd fun _ hK => op_one_string src dst e x hop g cap c hc hx hs he hd hB (hK _ _ h)

set_option maxHeartbeats 1000000 in
theorem digit8_any (n : Nat) (h : n < 16) (w : World) : Calls Tryd.prog 80 #[.int .i64 n] w fun e w' => e = .returned (.string ⟨#[hexd n]⟩) ∧ Below w.heap.size w w' := by
  by_cases h1 : n < 10
  · have hd : hexd n = UInt8.ofNat (48 + n) := by unfold hexd; rw [if_pos h1]
    rw [hd]
    clear hd
    have e1 : IntKind.i64.wrap (48 + (n : Int)) = 48 + (n : Int) := IntWalk.i64_in _ (by omega)
    have e2 : IntKind.u8.wrap (48 + (n : Int)) = ((48 + n : Nat) : Int) := by simp [IntKind.wrap, IntKind.bits, IntKind.signed]; omega
    obtain ⟨c, hc⟩ : ∃ c, 48 + n = c := ⟨_, rfl⟩
    have hc2 : c < 256 := by omega
    rw [hc] at e2 ⊢
    clear hc
    have hcell : (w.alloc (.cells #[.int .u8 (c : Int)] 5)).cell? ⟨w.heap.size, 0, none⟩ = some (.int .u8 (c : Int)) := (Blk.new w 5 #[.int .u8 (c : Int)]).cell 0
    go_enter Tryd.func80, Tryd.ntmps80
    go_wp2_with (refine wpList_one_string rfl 22 9 5 (.tmp 8) rfl w.heap.size 1 c hc2 rfl Tryd.underlying22 Tryd.underlying5 Tryd.underlying9 hcell ?_)
    go_ret
    exact ⟨rfl, (Below.refl _ _).alloc (Nat.le_refl _) _⟩
  · have hd : hexd n = UInt8.ofNat (55 + n) := by unfold hexd; rw [if_neg h1]
    rw [hd]
    clear hd
    have e1 : IntKind.i64.wrap (55 + (n : Int)) = 55 + (n : Int) := IntWalk.i64_in _ (by omega)
    have e2 : IntKind.u8.wrap (55 + (n : Int)) = ((55 + n : Nat) : Int) := by simp [IntKind.wrap, IntKind.bits, IntKind.signed]; omega
    obtain ⟨c, hc⟩ : ∃ c, 55 + n = c := ⟨_, rfl⟩
    have hc2 : c < 256 := by omega
    rw [hc] at e2 ⊢
    clear hc
    have hcell : (w.alloc (.cells #[.int .u8 (c : Int)] 5)).cell? ⟨w.heap.size, 0, none⟩ = some (.int .u8 (c : Int)) := (Blk.new w 5 #[.int .u8 (c : Int)]).cell 0
    go_enter Tryd.func80, Tryd.ntmps80
    go_wp2_with (refine wpList_one_string rfl 22 9 5 (.tmp 13) rfl w.heap.size 1 c hc2 rfl Tryd.underlying22 Tryd.underlying5 Tryd.underlying9 hcell ?_)
    go_ret
    exact ⟨rfl, (Below.refl _ _).alloc (Nat.le_refl _) _⟩

theorem u8_xor_bytes (a b : Nat) (ha : a < 256) (hb : b < 256) : bits .xor .u8 (a : Int) (b : Int) = ((a ^^^ b : Nat) : Int) := u8_xor_nat a b ha hb
theorem getD_lt256 (l : List Nat) (h : ∀ b ∈ l, b < 256) (i : Nat) : l.getD i 0 < 256 := by
  rw [List.getD_eq_getElem?_getD]
  rcases hq : l[i]? with _ | c
  · simp
  · exact h c (List.mem_of_getElem? hq)

set_option maxHeartbeats 2000000 in
set_option maxRecDepth 100000 in
theorem xorR_any (x y : List Nat) (hx : x.length = 8) (hy : y.length = 8) (gx : ∀ c ∈ x, c < 256) (gy : ∀ c ∈ y, c < 256) (A B : Option Addr) (ca cb : Nat) (w : World) (hA : At w A x) (hB : At w B y) :
    Calls Tryd.prog 48 #[.slice A 8 ca, .slice B 8 cb] w fun e w' => (∃ v, e = .returned v ∧ Own w' w.heap.size v (xorN x y)) ∧ Below w.heap.size w w' := by
  obtain ⟨b1, o1, rfl, hN1⟩ := hA (by intro h; rw [h] at hx; cases hx)
  obtain ⟨b2, o2, rfl, hN2⟩ := hB (by intro h; rw [h] at hy; cases hy)
  have hl1 := hN1.lt (by intro h; rw [h] at hx; cases hx)
  have hl2 := hN2.lt (by intro h; rw [h] at hy; cases hy)
  have hc1 : ∀ i, i < 8 → ∀ W, Below w.heap.size w W → W.cell? ⟨b1, o1 + i, none⟩ = some (.int .u8 (x.getD i 0 : Nat)) := fun i hi W hW => by
    rw [getD_of _ _ (by omega)]; exact (hN1.below hW hl1).cell i (by omega)
  have hc2 : ∀ i, i < 8 → ∀ W, Below w.heap.size w W → W.cell? ⟨b2, o2 + i, none⟩ = some (.int .u8 (y.getD i 0 : Nat)) := fun i hi W hW => by
    rw [getD_of _ _ (by omega)]; exact (hN2.below hW hl2).cell i (by omega)
  have HC1 := Lib.hid hc1; clear hc1
  have HC2 := Lib.hid hc2; clear hc2
  have HT := Lib.hid (fun k hk => xorTo_take x y 8 hx hy k hk)
  have HG1 := Lib.hid (fun i => getD_lt256 x gx i)
  have HG2 := Lib.hid (fun i => getD_lt256 y gy i)
  have hxl : (xorTo x y 8).length = 8 := by rw [xorTo_len, hx]
  unfold xorN
  generalize xorTo x y 8 = X at *
  have HXL := Lib.hid hxl; clear hxl
  clear hN1 hN2 hA hB hx hy gx gy
  go_enter Tryd.func48, Tryd.ntmps48
  go_wp2
  go_loopw [5, 6] (fun v i wr => ∃ k : Nat, k ≤ 8 ∧ i = .int .i64 k ∧ Own wr w.heap.size v (X.take k) ∧ Below w.heap.size w wr) (fun _ i _ => 8 - (intOf i).toNat)
  case atStart => exact ⟨0, by omega, rfl, Own.nil _ _, Below.refl _ _⟩
  case round =>
    obtain ⟨k, hk, rfl, hown, hbel⟩ := hrel
    by_cases hlt : k < 8
    · have hki : (k : Int) < 8 := by omega
      have hst := HT.out k hlt
      have hx := u8_xor_bytes _ _ (HG1.out k) (HG2.out k)
      have hL1 := fun W hW => HC1.out k hlt W hW
      have hL2 := fun W hW => HC2.out k hlt W hW
      generalize x.getD k 0 = x1 at *
      generalize y.getD k 0 = x2 at *
      generalize x1 ^^^ x2 = z at *
      have hl4 : (X.take k).length ≤ 8 := by rw [List.length_take]; omega
      obtain ⟨T, hT⟩ : ∃ T, X.take k = T := ⟨_, rfl⟩
      rw [hT] at hst hown hl4
      clear hT
      have HST := Lib.hid hst; clear hst
      have HX := Lib.hid hx; clear hx
      have HL1 := Lib.hid hL1; clear hL1
      have HL2 := Lib.hid hL2; clear hL2
      go_wp2_with fail
      refine wp_region_tree (.q 0 (.q 1 (.q 2 (.q 3 (.q 4 (.q 5 (.q 6 (.q 7 (.q 8 (.q 9 (.e [10] fun _ => .e [11] fun _ => .q 12 (.done)))))))))))) (fun W => Below w.heap.size w W) rfl (by kernel_rfl) (fun _ _ d _ _ h => by cases d <;> exact h) ?_
      have hw3 : Below w.heap.size w wr.drew := below_drewN hbel 1
      have hszr : w.heap.size ≤ wr.heap.size := hbel.size
      iterate 3 (refine t_q rfl rfl hw3 _ (fun W hW => by (go_simp; rfl)) ?_; go_simp)
      refine t_q rfl rfl hw3 (.pointer (some ⟨b1, o1 + k, none⟩)) (fun W hW => by go_simp) ?_
      go_simp
      refine t_q rfl rfl hw3 (.int .u8 (x1 : Nat)) (fun W hW => by (have hc := HL1.out W hW; go_simp)) ?_
      go_simp
      iterate 2 (refine t_q rfl rfl hw3 _ (fun W hW => by (go_simp; rfl)) ?_; go_simp)
      refine t_q rfl rfl hw3 (.pointer (some ⟨b2, o2 + k, none⟩)) (fun W hW => by go_simp) ?_
      go_simp
      refine t_q rfl rfl hw3 (.int .u8 (x2 : Nat)) (fun W hW => by (have hc := HL2.out W hW; go_simp)) ?_
      go_simp
      refine t_q rfl rfl hw3 (.int .u8 (z : Nat)) (fun W hW => by (go_simp; exact HX.out)) ?_
      go_simp
      refine t_e rfl rfl fun K hK => ?_
      go_simp
      refine hK _ _ (hw3.alloc (by simpa using hszr) _) ?_
      clear hK K
      change wpT _ _ _ _ _ _ (wr.drew.alloc (.cells #[.int .u8 (z : Int)] 5))
      have hown4 : OwnN 5 .u8 (wr.drew.alloc (.cells #[.int .u8 (z : Int)] 5)) w.heap.size _ T := OwnN.below hown ((below_drewN (Below.refl wr.heap.size wr) 1).alloc (Nat.le_refl _) _) (Nat.le_refl _)
      refine t_e rfl rfl fun K hK => ?_
      refine op_append_nums (.tmp 19) (.tmp 29) 22 rfl .u8 5 1 Tryd.underlying22 info_byte w.heap.size w _ T rfl hown4 (hw3.alloc (by simpa using hszr) _) (by simp; omega) _ 1 1 [z] rfl rfl ⟨_, _, rfl, Ns.new .u8 wr.drew 5 z⟩ (by omega) (by omega) fun v5 w5 hown5 hbel5 hsz5 => ?_
      rw [← HST.out] at hown5
      refine hK _ _ hbel5 ?_
      clear hK K
      go_simp
      refine t_q rfl rfl hbel5 _ (fun W hW => by (go_simp; rfl)) ?_
      go_simp
      refine t_done ?_
      go_wp2
      go_roundw
      case rel => exact ⟨k + 1, by omega, by go_num, hown5, hbel5⟩
      case measure => simp [intOf]; omega
    · obtain rfl : k = 8 := by omega
      have hfin : X.take 8 = X := List.take_of_length_le (by rw [HXL.out]; exact Nat.le_refl _)
      rw [hfin] at hown
      clear hfin
      go_wp2
      go_ret
      exact ⟨⟨_, rfl, hown⟩, hbel⟩
end Go.Proofs.YtgffppmpmjaknaaDoor
