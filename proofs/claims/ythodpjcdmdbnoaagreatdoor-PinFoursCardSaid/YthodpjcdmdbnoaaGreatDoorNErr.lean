/- Errors as values; owned rows of bytes. -/
import Derived.Test.YthodpjcdmdbnoaaGreatDoorNDig
namespace Go.Proofs.YthodpjcdmdbnoaaGreatDoor
open Go Go.RowKit Pr

/-- an error: none, a number, a Fault of a number at a place -/
inductive Er where
 | ok
 | no (n : Nat)
 | fa (at_ : Int) (n : Nat)

/-- the value v is that error in memory w; what it points to lies from block B on -/
def ErIs (w : World) (B : Nat) (v : Value) : Er → Prop
 | .ok => v = .nilIface
 | .no n => v = .iface 57 (.int .i64 (n : Int))
 | .fa p n => ∃ g, v = .iface 77 (.pointer (some ⟨g, 0, none⟩)) ∧ B ≤ g ∧ Blk w g 80 #[.int .i64 p, .iface 57 (.int .i64 (n : Int))]
theorem ErIs.below {w w' : World} {B C : Nat} {v : Value} {e : Er} (h : ErIs w B v e) (hb : Below C w w') (hC : w.heap.size ≤ C) : ErIs w' B v e := by
 cases e with
 | ok => exact h
 | no n => exact h
 | fa p n =>
  obtain ⟨g, rfl, hg, hB⟩ := h
  exact ⟨g, rfl, hg, hB.below hb (Nat.lt_of_lt_of_le hB.lt hC)⟩
theorem ErIs.more {w : World} {B C : Nat} {v : Value} {e : Er} (h : ErIs w B v e) (hC : C ≤ B) : ErIs w C v e := by
 cases e with
 | ok => exact h
 | no n => exact h
 | fa p n =>
  obtain ⟨g, rfl, hg, hB⟩ := h
  exact ⟨g, rfl, by omega, hB⟩
theorem ErIs.drewN {w : World} {B : Nat} {v : Value} {e : Er} (h : ErIs w B v e) (n : Nat) : ErIs (w.drewN n) B v e := by
 cases e with
 | ok => exact h
 | no n => exact h
 | fa p n => exact h

/-- v is a slice of bytes l that lies from block B on -/
def Own (w : World) (B : Nat) (v : Value) (l : List Nat) : Prop := w.ownsRow B 5 1 v l.length (byteCells l).toList
theorem Own.form {w : World} {B : Nat} {v : Value} {l : List Nat} (h : Own w B v l) (hl : l ≠ []) : ∃ g cap, v = .slice (some ⟨g, 0, none⟩) l.length cap ∧ B ≤ g ∧ l.length ≤ cap ∧ g < w.heap.size ∧ Bs w g 0 l := by
 rcases h.2 with ⟨_, h0⟩ | ⟨g, cap, cur, rfl, hg, hb, hc, hm, hs, ht⟩
 ·
  exact absurd (List.length_eq_zero_iff.1 h0) hl
 ·
  refine ⟨g, cap, rfl, hg, hc, (h.lt g rfl).2, fun j v hv => ?_⟩
  have := h.cells (g := g) rfl j v hv
  rw [Addr.add_mid] at this
  exact this
theorem Own.below {w w' : World} {B C : Nat} {v : Value} {l : List Nat} (h : Own w B v l) (hb : Below C w w') (hC : w.heap.size ≤ C) : Own w' B v l := by
 rcases h with ⟨h1, h2⟩
 refine ⟨h1, ?_⟩
 rcases h2 with h2 | ⟨g, cap, cur, rfl, hg, hgb, r⟩
 ·
  exact .inl h2
 ·
  refine .inr ⟨g, cap, cur, rfl, hg, (hb.block g ?_).trans hgb, r⟩
  rcases Nat.lt_or_ge g w.heap.size with hlt | hge
  ·
   omega
  ·
   rw [Array.getElem?_eq_none hge] at hgb; cases hgb
theorem Own.more {w : World} {B C : Nat} {v : Value} {l : List Nat} (h : Own w B v l) (hC : C ≤ B) : Own w C v l := by
 rcases h with ⟨h1, h2⟩
 refine ⟨h1, ?_⟩
 rcases h2 with h2 | ⟨g, cap, cur, rfl, hg, r⟩
 ·
  exact .inl h2
 ·
  exact .inr ⟨g, cap, cur, rfl, by omega, r⟩
theorem Own.nil (w : World) (B : Nat) : Own w B (.slice none 0 0) [] := ⟨rfl, .inl ⟨rfl, rfl⟩⟩

theorem or4 (a b : Nat) (ha : a < 16) (hb : b < 16) : bits .or .i64 ((a : Int) * 16) (b : Int) = ((a * 16 + b : Nat) : Int) := by
 have : ∀ a : Nat, a < 16 → ∀ b : Nat, b < 16 → bits .or .i64 ((a : Int) * 16) (b : Int) = ((a * 16 + b : Nat) : Int) := by decide +kernel
 exact this a ha b hb

set_option maxHeartbeats 2000000 in
set_option maxRecDepth 100000 in
theorem unhex_ok (s : ByteArray) (hs : s.size ≤ 140737488351232) (hk : badAt isHex s.data.toList = none) (hev : s.size % 2 = 0) (w : World) :
    Calls Tryz.prog 27 #[.string s] w fun e w' => (∃ v, e = .returned (.tuple #[v, .nilIface]) ∧ Own w' w.heap.size v (unhexL s.data.toList)) ∧ Below w.heap.size w w' := by
 have hall := all_of_badAt hk
 have hf := first_any s dig16 hs
 have e1 : badZ (isIn dig16.data.toList) s.data.toList = -1 := by unfold badZ; rw [dig16_list, badAt_congr isIn_digs, hk]
 simp only [e1] at hf
 unfold dig16 at hf
 have HF := Lib.hid hf; clear hf e1 hk
 have HALL := Lib.hid hall; clear hall
 have t1 : ((s.size : Int) % 2 != 0) = false := by rw [bne_eq_false_iff_eq]; omega
 have HE := Lib.hid hev; clear hev
 have hlist : s.data.toList.length = s.size := by simp
 have HLL := Lib.hid hlist; clear hlist
 obtain ⟨i0, hi, hz0, hz1, hz2⟩ := info_parts info_byte
 go_enter Tryz.func27, Tryz.ntmps27
 go_wp2_with (first
  | (go_at_call 48; refine (HF.out _).mono ?_; rintro e w' ⟨rfl, rfl⟩))
 go_loopw [5, 6] (fun v i wr => ∃ j k : Nat, Hid (k = 2 * j) ∧ k ≤ s.size ∧ i = .int .i64 k ∧ Own wr w.heap.size v ((unhexL s.data.toList).take j) ∧ Below w.heap.size w wr ∧ w.heap.size ≤ wr.heap.size) (fun _ i _ => s.size - (intOf i).toNat)
 case atStart => exact ⟨0, 0, rfl, by omega, rfl, Own.nil _ _, Below.refl _ _, Nat.le_refl _⟩
 case round =>
  obtain ⟨j, k, hk, hks, rfl, hown, hbel, hsz⟩ := hrel
  rename_i v5
  by_cases hlt : k < s.size
  ·
   have hlt2 : k + 1 < s.size := by have := HE.out; have := hk.out; omega
   have hj : j < s.data.toList.length / 2 := by rw [HLL.out]; have := hk.out; omega
   obtain ⟨ca, hca⟩ : ∃ c, s[k] = c := ⟨_, rfl⟩
   obtain ⟨cb, hcb⟩ : ∃ c, s[k + 1] = c := ⟨_, rfl⟩
   have i1 := index_str (P := Tryz.prog) 9 Tryz.underlying9 s k hlt k rfl ca.toNat (by rw [hca])
   have i2 := index_str (P := Tryz.prog) 9 Tryz.underlying9 s (k + 1) hlt2 ((k : Int) + 1) (by omega) cb.toNat (by rw [hcb])
   have ga : isHex ca = true := HALL.out ca (by rw [← hca]; exact List.getElem_mem (l := s.data.toList) (by rw [HLL.out]; exact hlt))
   have gb : isHex cb = true := HALL.out cb (by rw [← hcb]; exact List.getElem_mem (l := s.data.toList) (by rw [HLL.out]; exact hlt2))
   have ha : unhexAt s.data.toList j = hexv ca * 16 + hexv cb := by
    unfold unhexAt
    rw [← hk.out, List.getD_eq_getElem?_getD, List.getD_eq_getElem?_getD, List.getElem?_eq_getElem (by rw [HLL.out]; exact hlt), List.getElem?_eq_getElem (by rw [HLL.out]; exact hlt2)]
    simp only [Option.getD_some, get_list s k hlt, get_list s (k + 1) hlt2, hca, hcb]
   have x1 := fun W => Tryz.strings_IndexByte dig16 (ca.toNat : Int) W
   have x2 := fun W => Tryz.strings_IndexByte dig16 (cb.toNat : Int) W
   have hca' : ((ca.toNat : Int)).toNat.toUInt8 = ca := by simp
   have hcb' : ((cb.toNat : Int)).toNat.toUInt8 = cb := by simp
   rw [hca', dig16_list, indexByte_digs _ ga] at x1
   rw [hcb', dig16_list, indexByte_digs _ gb] at x2
   unfold dig16 at x1 x2
   have va := hexv_lt _ ga
   have vb := hexv_lt _ gb
   clear hca hcb hca' hcb' ga gb
   generalize hexv ca = a at *
   generalize hexv cb = b at *
   have X1 := Lib.hid x1; clear x1
   have X2 := Lib.hid x2; clear x2
   have HA := Lib.hid ha; clear ha
   have HTK := Lib.hid (unhexL_take s.data.toList j hj)
   have htl : ((unhexL s.data.toList).take j).length = j := by rw [List.length_take, unhexL_len]; omega
   have HTL := Lib.hid htl; clear htl
   have hO := or4 a b va vb
   have hE1 : IntKind.i64.wrap ((k : Int) + 1) = (k : Int) + 1 := IntWalk.i64_in _ (by omega)
   have hE2 : IntKind.i64.wrap ((a : Int) * 16) = (a : Int) * 16 := IntWalk.i64_in _ (by omega)
   go_wp2_with fail
   refine wp_region_mix [(0, false), (1, false), (2, false), (3, false), (6, false), (7, false), (8, false), (9, false), (4, true), (5, false), (10, true), (11, false), (12, false), (13, true), (14, true), (15, false)]
    (fun _ => True) rfl (by kernel_rfl) (fun _ _ d _ _ h => by cases d <;> exact h) ?_
   iterate 8 (refine mix_q rfl rfl trivial _ (fun W hW => by (go_simp; rfl)) ?_; go_simp)
   refine mix_e rfl rfl fun K hK => ?_
   go_simp
   refine (X1.out _).mono ?_
   rintro e w' ⟨rfl, rfl⟩
   refine hK _ _ trivial ?_
   clear hK K
   go_simp
   refine mix_q rfl rfl trivial _ (fun W hW => by (go_simp; rfl)) ?_
   go_simp
   refine mix_e rfl rfl fun K hK => ?_
   go_simp
   refine (X2.out _).mono ?_
   rintro e w' ⟨rfl, rfl⟩
   refine hK _ _ trivial ?_
   clear hK K
   go_simp
   iterate 2 (refine mix_q rfl rfl trivial _ (fun W hW => by (go_simp; rfl)) ?_; go_simp)
   refine mix_e rfl rfl fun K hK => ?_
   go_simp
   refine hK _ _ trivial ?_
   clear hK K
   have hw8 : IntKind.u8.wrap ((a : Int) * 16 + b) = ((a * 16 + b : Nat) : Int) := by
    simp [IntKind.wrap, IntKind.bits, IntKind.signed]; omega
   rw [hw8]
   obtain ⟨q, hq⟩ : ∃ q, a * 16 + b = q := ⟨_, rfl⟩
   have hA := HA.out
   rw [hq] at hA ⊢
   have hA := Lib.hid hA
   refine mix_append rfl rfl (.tmp 24) (.tmp 37) 22 rfl w.heap.size 5 i0 (.int .u8 0) 1 1 Tryz.underlying22 hi hz0 hz1 hz2 rfl (by decide) u5 _ _ rfl (World.ownsRow.alloc hown _) ⟨wr.heap.size, 0, none⟩ 1 1 [.int .u8 (q : Int)] rfl rfl ?c1 ?c2 ?c3 ?c4 ?c5 ?_
   case c1 =>
    intro j u hj
    match j, hj with
    | 0, hj => simp at hj; subst hj; simp [Addr.add, World.cell?_drew]
   case c2 => intro u hu; simp at hu; subst hu; rfl
   case c3 => rw [HTL.out]; unfold maxLen; have := hk.out; omega
   case c4 => rw [HTL.out]; have := hk.out; omega
   case c5 => simp; omega
   intro v' w' hown' hgrow _
   refine ⟨trivial, ?_⟩
   go_simp
   refine mix_q rfl rfl trivial _ (fun W hW => by (go_simp; rfl)) ?_
   go_simp
   refine mix_done ?_
   have hbel' : Below w.heap.size w w' := (hbel.alloc hsz _).drew.grown hgrow (by simp; omega) (fun g hg => (World.ownsRow.lt hown g hg).1)
   have hsz' : w.heap.size ≤ w'.heap.size := by have := hgrow.size; simp at this; omega
   have hown2 : Own w' w.heap.size v' ((unhexL s.data.toList).take (j + 1)) := by
    rw [HTK.out, hA.out]
    unfold Own
    rw [List.length_append, HTL.out]
    have e : (byteCells (List.take j (unhexL s.data.toList) ++ [q])).toList = (byteCells (List.take j (unhexL s.data.toList))).toList ++ [.int .u8 (q : Int)] := by simp [byteCells]
    rw [e]
    rw [HTL.out] at hown'
    exact hown'
   go_wp2
   go_roundw
   case rel => exact ⟨j + 1, k + 2, by have := hk.out; exact (by omega : k + 2 = 2 * (j + 1)), by omega, by go_num, hown2, hbel', hsz'⟩
   case measure => simp [intOf]; omega
  ·
   have hfin : (unhexL s.data.toList).take j = unhexL s.data.toList := List.take_of_length_le (by rw [unhexL_len, HLL.out]; have := hk.out; have := HE.out; omega)
   rw [hfin] at hown
   clear hfin
   go_wp2
   go_ret2
   exact ⟨⟨_, rfl, hown⟩, hbel⟩
end Go.Proofs.YthodpjcdmdbnoaaGreatDoor
