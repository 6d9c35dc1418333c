/- The contracts of lockboxref03.place, permute, digit, Bytes. The contract of lockboxref03.Bytes; an append alone. The contract of lockboxref03.Keys. -/
import Derived.Test.YtnkgglmfoimbhaaGreatDoorPureG
import Derived.Test.YtnkgglmfoimbhaaGreatDoorKit
/- The contracts of lockboxref03.place, permute, digit, Bytes. -/
namespace Go.Proofs.YtnkgglmfoimbhaaGreatDoor
open Go Go.RowKit Pr

set_option maxHeartbeats 1000000 in
theorem place3_any (tab : ByteArray) (size : Nat) (ps : List Nat) (ht : Tab tab size ps) (hsize : size ≤ 64) (j : Nat) (hj : j < ps.length) (w : World) :
    Calls Tryz.prog 106 #[.string tab, .int .i64 j] w fun e w' => e = .returned (.int .i64 (ps[j] : Nat)) ∧ ∃ n, w' = w.drewN n := by
  have hlen := ht.len
  have hsh := ht.short
  have hlt : 2 * j < tab.size := by omega
  obtain ⟨hj', hlt2, h1, h2, h3, h4⟩ := ht.at_ (k := 2 * j) rfl hlt
  have i1 := index_str (P := Tryz.prog) 9 Tryz.underlying9 tab (2 * j) hlt (2 * (j : Int)) (by omega) _ h1
  have i2 := index_str (P := Tryz.prog) 9 Tryz.underlying9 tab (2 * j + 1) hlt2 (2 * (j : Int) + 1) (by omega) _ h2
  generalize hp : ps[j] = p at *
  have Hp := Lib.hid hp; clear hp
  obtain ⟨a, ha⟩ : ∃ a, 48 + p / 10 = a := ⟨_, rfl⟩
  obtain ⟨b, hb⟩ : ∃ b, 48 + p % 10 = b := ⟨_, rfl⟩
  rw [ha] at i1; rw [hb] at i2
  have : 48 ≤ a := by omega
  have : a ≤ 54 := by omega
  have : 48 ≤ b := by omega
  have : b ≤ 57 := by omega
  have hpp : (a - 48 : Int) * 10 + (b - 48) = p := by omega
  have hjb : j ≤ 64 := by omega
  clear h1 h2 hlen hsh hlt hlt2 ht
  have Ha := Lib.hid ha; clear ha
  have Hb := Lib.hid hb; clear hb
  have Hpp := Lib.hid hpp; clear hpp
  go_enter Tryz.func106, Tryz.ntmps106
  go_wp2
  go_quiet (fail)
  rw [Hpp.out]
  go_wp2
  go_ret
  exact ⟨rfl, _, rfl⟩

theorem permR_snoc (l ps : List Nat) (p : Nat) : permR l (ps ++ [p]) = permR l ps ++ [l.getD (p - 1) 0] := by simp [permR]
theorem permR_len (l ps : List Nat) : (permR l ps).length = ps.length := by simp [permR]

set_option maxHeartbeats 1000000 in
set_option maxRecDepth 100000 in
theorem perm3_any (l : List Nat) (A : Option Addr) (cp : Nat) (tab : ByteArray) (size : Nat) (ps : List Nat) (ht : Tab tab size ps) (hsize : size ≤ 64) (hl : size ≤ l.length) (w : World) (hA : AtN .i64 w A l) :
    Calls Tryz.prog 103 #[.slice A l.length cp, .string tab] w fun e w' => (∃ v, e = .returned v ∧ OwnN 3 .i64 w' w.heap.size v (permR l ps)) ∧ Below w.heap.size w w' := by
  have hlen := ht.len
  have hsh := ht.short
  obtain ⟨m, hm⟩ : ∃ m, ps.length = m := ⟨_, rfl⟩
  have hP := Lib.hid (fun (j : Nat) (hj : j < ps.length) W => place3_any tab size ps ht hsize j hj W)
  have hrange := Lib.hid (fun (j : Nat) (hj : j < ps.length) => (ht.dig j hj).2.2)
  rw [hm] at hlen hsh
  have hdv : (tab.size : Int) / 2 = (m : Int) := by omega
  have HDV := Lib.hid hdv; clear hdv
  have HM := Lib.hid hm; clear hm
  have hts : tab.size ≤ 128 := by omega
  clear hlen ht
  obtain ⟨n, hn⟩ : ∃ n, l.length = n := ⟨_, rfl⟩
  rw [hn] at hl ⊢
  have HN := Lib.hid hn; clear hn
  have HA := Lib.hid hA; clear hA
  go_enter Tryz.func103, Tryz.ntmps103
  go_wp2
  go_loopw [5, 6] (fun v i wr => ∃ k : Nat, k ≤ m ∧ i = .int .i64 k ∧ OwnN 3 .i64 wr w.heap.size v (permR l (ps.take k)) ∧ Below w.heap.size w wr ∧ w.heap.size ≤ wr.heap.size) (fun _ i _ => m - (intOf i).toNat)
  case atStart => exact ⟨0, by omega, rfl, OwnN.nil _ _ _ _, Below.refl _ _, Nat.le_refl _⟩
  case round =>
    obtain ⟨k, hk, rfl, hown, hbel, hsz⟩ := hrel
    rename_i v3
    have hd := HDV.out
    by_cases hlt : k < m
    · have hkl : k < ps.length := by rw [HM.out]; exact hlt
      obtain ⟨q1, q2⟩ := hrange.out k hkl
      have hP1 := Lib.hid (hP.out k hkl wr)
      have hstep : permR l (ps.take (k + 1)) = permR l (ps.take k) ++ [l.getD (ps[k] - 1) 0] := by rw [List.take_succ_eq_append_getElem hkl, permR_snoc]
      have hll : (permR l (ps.take k)).length ≤ 64 := by rw [permR_len, List.length_take]; omega
      generalize ps[k] = p at *
      have hpl : p - 1 < l.length := by rw [HN.out]; omega
      obtain ⟨b, o, rfl, hNs⟩ := HA.out (by intro h; rw [h] at hpl; cases hpl)
      have hblt := hNs.lt (by intro h; rw [h] at hpl; cases hpl)
      have hcell : ∀ W, Below w.heap.size w W → W.cell? ⟨b, o + (p - 1), none⟩ = some (.int .i64 (l.getD (p - 1) 0 : Nat)) := fun W hW => by
        rw [getD_of _ _ hpl]; exact (hNs.below hW hblt).cell (p - 1) hpl
      generalize l.getD (p - 1) 0 = d at *
      have HST := Lib.hid hstep; clear hstep
      have HCELL := Lib.hid hcell; clear hcell
      have e1 : ((p : Int) - 1).toNat = p - 1 := by omega
      have t1 : (k : Int) < (tab.size : Int) / 2 := by omega
      clear hd
      obtain ⟨L, hL⟩ : ∃ L, permR l (ps.take k) = L := ⟨_, rfl⟩
      rw [hL] at hown hll
      have HL := Lib.hid hL; clear hL
      clear hNs hpl hkl
      go_wp2_with fail
      refine hP1.out.mono ?_
      rintro e w1 ⟨rfl, n1, rfl⟩
      have hc1 := HCELL.out _ (below_drewN hbel n1)
      go_wp2_with (at_builtin; go_loud (refine wpList_append_nums rfl (.tmp 14) (.tmp 22) 42 rfl .i64 3 8 Tryz.underlying42 info_int w.heap.size w _ L rfl (OwnN.below hown ((below_drewN (Below.refl wr.heap.size wr) n1).alloc (Nat.le_refl _) _) (Nat.le_refl _)) ((below_drewN hbel n1).alloc (by simpa using hsz) _) (by simp; omega) _ 1 1 [d] rfl rfl ⟨_, _, rfl, Ns.new .i64 (wr.drewN n1) 3 d⟩ (by omega) (by omega) ?_); intro v5 w5 hown5 hbel5 hsz5)
      have hown6 : OwnN 3 .i64 w5 w.heap.size v5 (permR l (ps.take (k + 1))) := by
        rw [HST.out, HL.out]
        exact hown5
      have hsz6 : w.heap.size ≤ w5.heap.size := hbel5.size
      clear hown5
      go_wp2
      go_roundw
      case rel => exact ⟨k + 1, by omega, by go_num, hown6, hbel5, hsz6⟩
      case measure => simp [intOf]; omega
    · have hfin : ps.take k = ps := List.take_of_length_le (by rw [HM.out]; omega)
      rw [hfin] at hown
      have t1 : (tab.size : Int) / 2 ≤ (k : Int) := by omega
      clear hfin hd
      go_wp2
      go_ret
      exact ⟨⟨_, rfl, hown⟩, hbel⟩

theorem digit3_any (c : Nat) (hc : 48 ≤ c) (hc2 : c < 256) (w : World) :
    Calls Tryz.prog 138 #[.int .u8 c] w fun e w' => e = .returned (.int .i64 (hexN c : Nat)) ∧ w' = w := by
  by_cases h : 97 ≤ c
  · have hv : (c : Int) - 87 = (hexN c : Nat) := by unfold hexN; rw [if_pos h]; omega
    have HV := Lib.hid hv; clear hv
    go_enter Tryz.func138, Tryz.ntmps138
    go_wp2
    go_ret
    exact ⟨retI HV.out, rfl⟩
  · have hv : (c : Int) - 48 = (hexN c : Nat) := by unfold hexN; rw [if_neg (by omega)]; omega
    have HV := Lib.hid hv; clear hv
    go_enter Tryz.func138, Tryz.ntmps138
    go_wp2
    go_ret
    exact ⟨retI HV.out, rfl⟩
end Go.Proofs.YtnkgglmfoimbhaaGreatDoor

/- The contract of lockboxref03.Bytes; an append alone. -/
namespace Go.Proofs.YtnkgglmfoimbhaaGreatDoor
open Go Go.RowKit Pr

theorem fold_snoc (L : List Nat) (j : Nat) (h : j < L.length) : (L.take (j + 1)).foldl (fun a b => 2 * a + b) 0 = 2 * (L.take j).foldl (fun a b => 2 * a + b) 0 + L[j] := by
  rw [List.take_succ_eq_append_getElem h, List.foldl_append]; rfl
theorem fold_lt (L : List Nat) (h : ∀ b ∈ L, b < 2) : ∀ j, j ≤ L.length → (L.take j).foldl (fun a b => 2 * a + b) 0 < 2 ^ j
  | 0, _ => by simp
  | j + 1, hj => by
    have ih := fold_lt L h j (by omega)
    have hb := h L[j] (List.getElem_mem _)
    rw [fold_snoc L j (by omega), Nat.pow_succ]; omega

set_option maxHeartbeats 2000000 in
set_option maxRecDepth 100000 in
theorem bytes3_any (l : List Nat) (hl : ∀ b ∈ l, b < 2) (m : Nat) (hlen : l.length = 8 * m) (hm : m ≤ 1000) (A : Option Addr) (cp : Nat) (w : World) (hA : AtN .i64 w A l) :
    Calls Tryz.prog 107 #[.slice A l.length cp] w fun e w' => (∃ v, e = .returned v ∧ Own w' w.heap.size v (bytesR l)) ∧ Below w.heap.size w w' := by
  obtain ⟨n, hn⟩ : ∃ n, l.length = n := ⟨_, rfl⟩
  have hrl : (bytesR l).length = m := by unfold bytesR; rw [List.length_map, List.length_range, hlen]; omega
  have hget : ∀ k (hk : k < m), (bytesR l)[k]'(by rw [hrl]; exact hk) = ((l.drop (8 * k)).take 8).foldl (fun a b => 2 * a + b) 0 := fun k hk => by simp [bytesR]
  rw [hn] at hlen ⊢
  have HLN := Lib.hid hlen; clear hlen
  have HRL := Lib.hid hrl
  have HN := Lib.hid hn; clear hn
  have HLT := Lib.hid hl; clear hl
  have HA := Lib.hid hA; clear hA
  have hstep : ∀ k, k < m → (bytesR l).take (k + 1) = (bytesR l).take k ++ [((l.drop (8 * k)).take 8).foldl (fun a b => 2 * a + b) 0] := fun k hk => by
    rw [List.take_succ_eq_append_getElem (by rw [hrl]; exact hk), hget k hk]
  have HSTEP := Lib.hid hstep; clear hstep hget hrl
  obtain ⟨R, hR⟩ : ∃ R, bytesR l = R := ⟨_, rfl⟩
  rw [hR] at HSTEP HRL ⊢
  clear hR
  have hnb : n ≤ 8000 := by have := HLN.out; omega
  go_enter Tryz.func107, Tryz.ntmps107
  go_wp2
  go_loopw [3, 4] (fun v i wr => ∃ k q : Nat, Hid (q = 8 * k) ∧ q ≤ n ∧ k ≤ m ∧ i = .int .i64 q ∧ OwnN 5 .u8 wr w.heap.size v (R.take k) ∧ Below w.heap.size w wr ∧ w.heap.size ≤ wr.heap.size) (fun _ i _ => n - (intOf i).toNat)
  case atStart => exact ⟨0, 0, rfl, by omega, by omega, rfl, OwnN.nil _ _ _ _, Below.refl _ _, Nat.le_refl _⟩
  case round =>
    obtain ⟨k, q, hq, hqn, hk, rfl, hown, hbel, hsz⟩ := hrel
    rename_i v3
    by_cases hlt : q + 8 ≤ n
    · have hkm : k < m := by have := hq.out; have := HLN.out; omega
      have hdl : (l.drop (8 * k)).length = n - q := by rw [List.length_drop, HN.out, hq.out]
      have hcell : ∀ j, j < 8 → ∃ (h : j < (l.drop (8 * k)).length) (b o : Nat), A = some ⟨b, o, none⟩ ∧ ∀ W, Below w.heap.size w W → W.cell? ⟨b, o + (q + j), none⟩ = some (.int .i64 ((l.drop (8 * k))[j] : Nat)) := fun j hj => by
        have hql : q + j < l.length := by rw [HN.out]; omega
        obtain ⟨b, o, rfl, hNs⟩ := HA.out (by intro h; rw [h] at hql; cases hql)
        have hblt := hNs.lt (by intro h; rw [h] at hql; cases hql)
        refine ⟨by omega, b, o, rfl, fun W hW => ?_⟩
        rw [(hNs.below hW hblt).cell (q + j) hql]
        simp [hq.out]
      have hbits : ∀ b ∈ l.drop (8 * k), b < 2 := fun b hb => HLT.out b (List.mem_of_mem_drop hb)
      have hst := HSTEP.out k hkm
      have hRl : (R.take k).length ≤ 1000 := by rw [List.length_take]; omega
      generalize l.drop (8 * k) = D at *
      have HST := Lib.hid hst; clear hst
      have HCELL := Lib.hid hcell; clear hcell
      have HBITS := Lib.hid hbits; clear hbits
      have HDL := Lib.hid hdl; clear hdl
      go_wp2
      go_loop [5, 6] (fun x i => ∃ j : Nat, j ≤ 8 ∧ i = .int .i64 j ∧ x = .int .i64 ((D.take j).foldl (fun a b => 2 * a + b) 0 : Nat)) (fun _ i => 8 - (intOf i).toNat)
      case atStart => exact ⟨0, by omega, rfl, rfl⟩
      case round =>
        obtain ⟨j, hj, rfl, rfl⟩ := hrel
        have hFl := fold_lt D HBITS.out j (by have := HDL.out; omega)
        have h2 : 2 ^ j ≤ 2 ^ 8 := Nat.pow_le_pow_right (by omega) hj
        have hF : (D.take j).foldl (fun a b => 2 * a + b) 0 < 256 := Nat.lt_of_lt_of_le hFl h2
        clear hFl h2
        by_cases hj8 : j < 8
        · obtain ⟨hjD, b, o, rfl, hc⟩ := HCELL.out j hj8
          have hc1 := hc _ hbel
          have hb2 := HBITS.out D[j] (List.getElem_mem _)
          have hsn := fold_snoc D j hjD
          generalize D[j] = d at *
          generalize (D.take j).foldl (fun a b => 2 * a + b) 0 = F at *
          have HSN := Lib.hid hsn; clear hsn hc
          have e1 : ((q : Int) + (j : Int)).toNat = q + j := by omega
          go_wp2
          go_round
          case rel => exact ⟨j + 1, by omega, by go_num, by rw [HSN.out]; go_num⟩
          case measure => simp [intOf]; omega
        · obtain rfl : j = 8 := by omega
          generalize (D.take 8).foldl (fun a b => 2 * a + b) 0 = F at *
          have e1 : IntKind.u8.wrap (F : Int) = F := by simp [IntKind.wrap, IntKind.bits, IntKind.signed]; omega
          go_wp2_with (at_builtin; refine wpList_append_nums rfl (.tmp 27) (.tmp 30) 31 rfl .u8 5 1 Tryz.underlying31 info_byte w.heap.size w _ (R.take k) rfl (OwnN.below hown ((Below.refl wr.heap.size wr).alloc (Nat.le_refl _) _) (Nat.le_refl _)) (hbel.alloc hsz _) (by simp; omega) _ 1 1 [F] rfl rfl ⟨_, _, rfl, Ns.new .u8 wr 5 F⟩ (by omega) (by omega) ?_; intro v5 w5 hown5 hbel5 hsz5)
          rw [← HST.out] at hown5
          have hsz6 : w.heap.size ≤ w5.heap.size := hbel5.size
          go_wp2
          go_roundw
          case rel => exact ⟨k + 1, q + 8, (by have := hq.out; exact (by omega : q + 8 = 8 * (k + 1))), by omega, by omega, by go_num, hown5, hbel5, hsz6⟩
          case measure => simp [intOf]; omega
    · have hfin : R.take k = R := List.take_of_length_le (by have := hq.out; have := HLN.out; have := HRL.out; omega)
      rw [hfin] at hown
      clear hfin
      go_wp2
      go_ret
      exact ⟨⟨_, rfl, hown⟩, hbel⟩
end Go.Proofs.YtnkgglmfoimbhaaGreatDoor

/- The contract of lockboxref03.Keys. -/
namespace Go.Proofs.YtnkgglmfoimbhaaGreatDoor
open Go Go.RowKit Pr

theorem OwnN.made (e : TypeId) (kd : IntKind) (w : World) (B : Nat) (hB : B ≤ w.heap.size) : OwnN e kd (w.alloc (.cells #[] e)) B (.slice (some ⟨w.heap.size, 0, none⟩) 0 0) [] :=
  World.ownsRow_made w #[] 0 hB (by unfold maxLen; omega) rfl
theorem OwnN.at_ {e : TypeId} {kd : IntKind} {w : World} {B : Nat} {v : Value} {l : List Nat} (h : OwnN e kd w B v l) (hl : l ≠ []) : ∃ g cap, v = .slice (some ⟨g, 0, none⟩) l.length cap ∧ B ≤ g ∧ l.length ≤ cap ∧ g < w.heap.size ∧ Ns kd w g 0 l := by
  obtain ⟨A, cap, rfl, hc, hA⟩ := h.form
  obtain ⟨b, o, rfl, hN⟩ := hA hl
  have hlt := World.ownsRow.lt h b rfl
  rcases h.2 with ⟨hv, h0⟩ | ⟨g, cap', cur, hv, _⟩
  · exact absurd (List.length_eq_zero_iff.1 h0) hl
  · have : o = 0 := by
      have := hv
      simp only [Value.slice.injEq, Option.some.injEq, Addr.mk.injEq] at this
      exact this.1.2.1
    subst this
    exact ⟨b, cap, rfl, hlt.1, hc, hlt.2, hN⟩

/-- a row of rows: one of slices, each of numbers -/
def RowOf (w : World) (v : Value) (l : List Nat) : Prop := ∃ g cap, v = .slice (some ⟨g, 0, none⟩) l.length cap ∧ g < w.heap.size ∧ Ns .i64 w g 0 l
theorem RowOf.keep {w w' : World} {v : Value} {l : List Nat} {row : Option Nat} (h : RowOf w v l) (hg : w.grownBy w' row) (hne : v.ownBlock ≠ row) : RowOf w' v l := by
  obtain ⟨g, cap, rfl, hlt, hN⟩ := h
  refine ⟨g, cap, rfl, Nat.lt_of_lt_of_le hlt hg.size, fun j u hj => ?_⟩
  exact (World.cell?_of_block (hg.block g hlt hne)).trans (hN j u hj)
theorem RowOf.below {w w' : World} {v : Value} {l : List Nat} {B : Nat} (h : RowOf w v l) (hb : Below B w w') (hB : w.heap.size ≤ B) : RowOf w' v l := by
  obtain ⟨g, cap, rfl, hlt, hN⟩ := h
  exact ⟨g, cap, rfl, Nat.lt_of_lt_of_le hlt (Nat.le_trans (by omega) hb.size), hN.below hb (by omega)⟩

theorem info_ints : (Tryz.prog.info? 42).map (fun i => (i.zero, i.size, i.bytes)) = some (some (.slice none 0 0), 1, 24) := by kernel_rfl

section
variable {P : Program} {ops : Array Oper} {rest : List Oper} {op : Oper} {a : Act} {w : World} {Q : Exit → Act → World → Prop}
/-- append of one slice to a row of slices of one's own -/
theorem wpList_append_one (hgd : op.guard = none) (s x : Operand) (t : TypeId) (ho : op.op = .call { callee := .builtin .append, args := #[s, x], argTypes := #[t, t] })
    (e : TypeId) (bytes : Nat) (ht : P.underlying t = some (.slice e)) (hinfo : (P.info? e).map (fun i => (i.zero, i.size, i.bytes)) = some (some (.slice none 0 0), 1, bytes))
    (B : Nat) (v : Value) (n : Nat) (l : List Value) (hs : a.eval s = v) (hown : w.ownsRow B e 1 v n l) (hB : B ≤ w.heap.size)
    (b o c : Nat) (u : Value) (hx : a.eval x = .slice (some ⟨b, o, none⟩) 1 c) (hu : w.cell? ⟨b, o, none⟩ = some u) (hu1 : u.oneCell' = true)
    (h63 : n + 1 ≤ 1000000000) (hby : bytes ≤ 1000)
    (h : ∀ v' w', w'.ownsRow B e 1 v' (n + 1) (l ++ [u]) → w.grownBy w' v.ownBlock → (v'.ownBlock = v.ownBlock ∨ v'.ownBlock = some w.heap.size) → wpList P ops Q rest (a.put op.dst v') w') : wpList P ops Q (op :: rest) a w := by
  obtain ⟨i0, hi, hz0, hz1, hz2⟩ := info_parts hinfo
  refine wpList_append_own_at w hgd s x t ho B e i0 (.slice none 0 0) 1 bytes ht hi hz0 hz1 hz2 rfl (by decide) v n l hs hown ⟨b, o, none⟩ 1 c [u] hx rfl ?_ ?_ ?_ ?_ hB ?_
  · intro j z hj
    match j, hj with
    | 0, hj =>
      simp at hj
      subst hj
      simpa [Addr.add] using hu
  · intro z hz
    simp at hz
    subst hz
    exact hu1
  · unfold maxLen; omega
  · have := Nat.mul_le_mul h63 hby; omega
  · intro v' w' h1 h2 _ h4
    exact h v' w' h1 h2 h4
end
end Go.Proofs.YtnkgglmfoimbhaaGreatDoor
