/- strings.Builder: copyCheck, WriteByte, String, each with what it leaves alone. -/
import Derived.Test.YthodpjcdmdbnoaaGreatDoorNKit
import Derived.Test.YthodpjcdmdbnoaaGreatDoorShelf
import Derived.Maps.AppendAt
import Derived.Lib.UnsafeStr
namespace Go.Proofs.YthodpjcdmdbnoaaGreatDoor
open Go Go.RowKit Pr

/-- nothing that was there has turned, but block b and row A -/
structure Chg (b : Nat) (A : Option Nat) (w w' : World) : Prop where
 os : w'.os = w.os
 tape : w'.tape = w.tape
 output : w'.output = w.output
 size : w.heap.size ≤ w'.heap.size
 block : ∀ i, i < w.heap.size → i ≠ b → some i ≠ A → w'.heap[i]? = w.heap[i]?
theorem Chg.refl (b : Nat) (A : Option Nat) (w : World) : Chg b A w w := ⟨rfl, rfl, rfl, Nat.le_refl _, fun _ _ _ _ => rfl⟩
theorem Chg.drewN {b : Nat} {A : Option Nat} {w w' : World} (h : Chg b A w w') (n : Nat) : Chg b A w (w'.drewN n) := ⟨h.os, h.tape, h.output, h.size, h.block⟩
theorem Chg.alloc {b : Nat} {A : Option Nat} {w w' : World} (h : Chg b A w w') (o : Obj) : Chg b A w (w'.alloc o) :=
 ⟨h.os, h.tape, h.output, Nat.le_trans h.size (by simp), fun i hi h1 h2 => (heap_alloc_old _ _ (Nat.lt_of_lt_of_le hi h.size)).trans (h.block i hi h1 h2)⟩
theorem Chg.setCell {b : Nat} {A : Option Nat} {w w' : World} (h : Chg b A w w') (i : Nat) (u : Value) : Chg b A w (w'.setCell ⟨b, i, none⟩ u) :=
 ⟨h.os, h.tape, h.output, by simpa [World.setCell] using h.size, fun k hk h1 h2 => (Below.heap_setCell w' ⟨b, i, none⟩ u k h1).trans (h.block k hk h1 h2)⟩
theorem Chg.grown {b : Nat} {A : Option Nat} {w w' w'' : World} (h : Chg b A w w') (hg : w'.grownBy w'' A) : Chg b A w w'' :=
 ⟨hg.os.trans h.os, hg.tape.trans h.tape, hg.output.trans h.output, Nat.le_trans h.size hg.size, fun k hk h1 h2 => (hg.block k (Nat.lt_of_lt_of_le hk h.size) h2).trans (h.block k hk h1 h2)⟩
theorem Chg.below {b B : Nat} {A : Option Nat} {a w w' : World} (h : Chg b A w w') (hb : Below B a w) (hB : B ≤ a.heap.size) (h1 : B ≤ b) (h2 : ∀ g, A = some g → B ≤ g) : Below B a w' :=
 ⟨h.os.trans hb.os, h.tape.trans hb.tape, h.output.trans hb.output, Nat.le_trans hb.size h.size, fun i hi => (h.block i (Nat.lt_of_lt_of_le hi (Nat.le_trans hB hb.size)) (by omega) (fun e => by have := h2 i e.symm; omega)).trans (hb.block i hi)⟩

/-- A strings.Builder in block b that holds the bytes l; its buffer is the row A -/
def Bld (w : World) (b : Nat) (A : Option Nat) (l : List UInt8) : Prop :=
 ∃ p v, (p = .pointer none ∨ p = .pointer (some ⟨b, 0, none⟩)) ∧ w.heap[b]? = some (.cells #[p, v] 106 (0, 0)) ∧ w.ownsRow 0 5 1 v l.length (Lib.byteCells l) ∧ v.ownBlock = A ∧ A ≠ some b ∧ (l = [] → v = .slice none 0 0)

theorem Bld.keep {w w' : World} {b : Nat} {A : Option Nat} {l : List UInt8} (h : Bld w b A l) (h1 : w'.heap[b]? = w.heap[b]?) (h2 : ∀ g, A = some g → w'.heap[g]? = w.heap[g]?) : Bld w' b A l := by
 obtain ⟨p, v, hp, hb, ho, hv, hn, hl⟩ := h
 refine ⟨p, v, hp, h1.trans hb, ?_, hv, hn, hl⟩
 rcases ho with ⟨hlen, ho⟩
 refine ⟨hlen, ?_⟩
 rcases ho with ho | ⟨g, cap, cur, rfl, hg, hgb, r⟩
 ·
  exact .inl ho
 ·
  exact .inr ⟨g, cap, cur, rfl, hg, (h2 g (by rw [← hv]; rfl)).trans hgb, r⟩
theorem Bld.lt {w : World} {b : Nat} {A : Option Nat} {l : List UInt8} (h : Bld w b A l) : b < w.heap.size := by
 obtain ⟨p, v, hp, hb, _⟩ := h
 rcases Nat.lt_or_ge b w.heap.size with hlt | hge
 ·
  exact hlt
 ·
  rw [Array.getElem?_eq_none hge] at hb; cases hb
theorem Bld.row_lt {w : World} {b g : Nat} {A : Option Nat} {l : List UInt8} (h : Bld w b A l) (hA : A = some g) : g < w.heap.size := by
 obtain ⟨p, v, hp, hb, ho, hv, _⟩ := h
 rw [hA] at hv
 exact (ho.lt g hv).2
theorem Bld.chg {w w' : World} {b b' : Nat} {A A' : Option Nat} {l : List UInt8} (h : Bld w b A l) (hc : Chg b' A' w w') (h1 : b ≠ b') (h2 : some b ≠ A') (h3 : A ≠ some b') (h4 : ∀ g, A = some g → A' ≠ some g) : Bld w' b A l :=
 h.keep (hc.block b h.lt h1 h2) fun g hg => hc.block g (h.row_lt hg) (fun e => h3 (by rw [hg, e])) (fun e => h4 g hg e.symm)
theorem Bld.below {w w' : World} {b B : Nat} {A : Option Nat} {l : List UInt8} (h : Bld w b A l) (hb : Below B w w') (h1 : b < B) (h2 : ∀ g, A = some g → g < B) : Bld w' b A l :=
 h.keep (hb.block b h1) fun g hg => hb.block g (h2 g hg)

theorem lays240 : Go.Proofs.Lays.n240 Tryz.prog Tryz.lays105_ren := { Tryz.lays105 with }
theorem x72 : Builder.X72 Tryz.prog Tryz.lays105_ren := Tryz.Builder_Extra_105.toX72

theorem copyCheck_any (b : Nat) (p v : Value) (w : World) (hp : p = .pointer none ∨ p = .pointer (some ⟨b, 0, none⟩)) (hb : w.heap[b]? = some (.cells #[p, v] 106 (0, 0))) :
    Calls Tryz.prog 78 #[.pointer (some ⟨b, 0, none⟩)] w fun e w' => e = .returned (.tuple #[]) ∧ w'.heap[b]? = some (.cells #[.pointer (some ⟨b, 0, none⟩), v] 106 (0, 0)) ∧ Only b w w' := by
 have hc : w.cell? ⟨b, 0, none⟩ = some p := by rw [Lib.cell_of_heap hb]; rfl
 rcases hp with rfl | rfl
 ·
  refine (Any.Builder_copyCheck_fresh lays240 x72 b w hc (by simp [World.shape?, hb]; rfl) (Lib.frozen_of_heap hb 0)).mono ?_
  rintro e w' ⟨rfl, rfl⟩
  exact ⟨rfl, Blk.set_ (cs := #[.pointer none, v]) hb 0 (.pointer (some ⟨b, 0, none⟩)), Only.setCell w b 0 _⟩
 ·
  refine (Any.Builder_copyCheck_used lays240 x72 b w hc).mono ?_
  rintro e w' ⟨rfl, rfl⟩
  exact ⟨rfl, hb, Only.refl _ _⟩

theorem info_byte : (Tryz.prog.info? 5).map (fun i => (i.zero, i.size, i.bytes)) = some (some (.int .u8 0), 1, 1) := by kernel_rfl

set_option maxHeartbeats 2000000 in
set_option maxRecDepth 100000 in
theorem writeByte_any (b : Nat) (A : Option Nat) (l : List UInt8) (c : UInt8) (x : Int) (hx : x = c.toNat) (w : World) (h : Bld w b A l) (hlen : l.length + 1 ≤ 140737488355328) :
    Calls Tryz.prog 57 #[.pointer (some ⟨b, 0, none⟩), .int .u8 x] w fun e w' => e = .returned .nilIface ∧ ∃ A', Bld w' b A' (l ++ [c]) ∧ (A' = A ∨ ∃ g, A' = some g ∧ w.heap.size ≤ g) ∧ Chg b A w w' := by
 subst hx
 obtain ⟨p, v, hp, hb, hown, hv, hn, hl⟩ := h
 obtain ⟨i0, hi, hz0, hz1, hz2⟩ := info_parts info_byte
 have hblt : b < w.heap.size := by
  rcases Nat.lt_or_ge b w.heap.size with hlt | hge
  ·
   exact hlt
  ·
   rw [Array.getElem?_eq_none hge] at hb; cases hb
 go_enter Tryz.func57, Tryz.ntmps57
 go_wp2_with (go_at_call 78; refine (copyCheck_any b p v _ hp hb).mono ?_)
 rintro e w1 ⟨rfl, hbk, hO⟩
 have c0 : w1.cell? ⟨b, 0, none⟩ = some (.pointer (some ⟨b, 0, none⟩)) := by rw [Lib.cell_of_heap hbk]; rfl
 have c1 : w1.cell? ⟨b, 1, none⟩ = some v := by rw [Lib.cell_of_heap hbk]; rfl
 have hown1 : w1.ownsRow 0 5 1 v l.length (Lib.byteCells l) := by
  rcases hown with ⟨hlen, ho⟩
  refine ⟨hlen, ?_⟩
  rcases ho with ho | ⟨g, cap, cur, rfl, hg, hgb, r⟩
  ·
   exact .inl ho
  ·
   exact .inr ⟨g, cap, cur, rfl, hg, (hO.block g (fun e => hn (by rw [← hv, ← e]; rfl))).trans hgb, r⟩
 have hsz1 := hO.size
 have Hl := Lib.hid hl; clear hl
 have Hv := Lib.hid hv; clear hv
 have Hsz := Lib.hid hsz1; clear hsz1
 go_wp2_with (at_builtin; refine wpList_append_own_at _ rfl _ _ 22 rfl 0 5 i0 (.int .u8 0) 1 1 Tryz.underlying22 hi hz0 hz1 hz2 rfl (by decide) _ _ _ rfl (hown1.alloc _) ⟨w1.heap.size, 0, none⟩ 1 1 [.int .u8 (c.toNat : Int)] rfl rfl ?c1 ?c2 ?c3 ?c4 ?c5 ?_)
 case c1 =>
  intro j u hj
  match j, hj with
  | 0, hj => simp at hj; subst hj; simp [Addr.add]
 case c2 => intro u hu; simp at hu; subst hu; rfl
 case c3 => unfold maxLen; omega
 case c4 => omega
 case c5 => omega
 intro v' w2 hown' hgrow _ hat
 have hlt1 : b < w1.heap.size := by rw [Hsz.out]; exact hblt
 have hb2 : w2.heap[b]? = some (.cells #[.pointer (some ⟨b, 0, none⟩), v] 106 (0, 0)) := by
  rw [hgrow.block b (by simp; omega) (fun e => hn (by rw [← Hv.out, ← e])), Lib.alloc_old w1 _ b hlt1]
  exact hbk
 have d0 : w2.cell? ⟨b, 0, none⟩ = some (.pointer (some ⟨b, 0, none⟩)) := by rw [Lib.cell_of_heap hb2]; rfl
 have d1 : w2.cell? ⟨b, 1, none⟩ = some v := by rw [Lib.cell_of_heap hb2]; rfl
 have f1 : w2.frozen? ⟨b, 1, none⟩ = false := Lib.frozen_of_heap hb2 1
 obtain ⟨g, cap, rfl⟩ : ∃ g cap, v' = .slice (some ⟨g, 0, none⟩) (l.length + 1) cap := by
  rcases hown'.2 with ⟨_, h0⟩ | ⟨g, cap, cur, hv, _⟩
  ·
   omega
  ·
   exact ⟨g, cap, hv⟩
 have hat := Lib.hid hat
 have hgb : g ≠ b := by
  rcases hat.out with e | e
  ·
   intro h; subst h; exact hn (by rw [← Hv.out, ← e]; rfl)
  ·
   intro h; subst h; simp [Value.ownBlock] at e; omega
 clear c0 c1
 go_wp2
 go_ret
 refine ⟨rfl, some g, ⟨.pointer (some ⟨b, 0, none⟩), .slice (some ⟨g, 0, none⟩) (l.length + 1) cap, .inr rfl, ?_, ?_, rfl, by simpa using hgb, by simp⟩, ?_, ?_⟩
 ·
  exact Blk.set_ (cs := #[.pointer (some ⟨b, 0, none⟩), v]) hb2 1 (.slice (some ⟨g, 0, none⟩) (l.length + 1) cap)
 ·
  have hq : (w2.setCell ⟨b, 1, none⟩ (.slice (some ⟨g, 0, none⟩) (l.length + 1) cap)).ownsRow 0 5 1 (.slice (some ⟨g, 0, none⟩) (l.length + 1) cap) (l.length + 1) (Lib.byteCells l ++ [.int .u8 (c.toNat : Int)]) := by
   rcases hown' with ⟨hlen, ho⟩
   refine ⟨hlen, ?_⟩
   rcases ho with ⟨h0, _⟩ | ⟨g', cap', cur, hv', hg, hgb', r⟩
   ·
    cases h0
   ·
    obtain ⟨rfl, rfl⟩ : g' = g ∧ cap' = cap := by injection hv' with e1 e2 e3; injection e1 with e1; injection e1 with e1; exact ⟨e1.symm, e3.symm⟩
    exact .inr ⟨_, _, cur, rfl, hg, (Below.heap_setCell w2 ⟨b, 1, none⟩ _ _ hgb).trans hgb', r⟩
  have e1 : Lib.byteCells (l ++ [c]) = Lib.byteCells l ++ [.int .u8 (c.toNat : Int)] := by simp [Lib.byteCells]
  rw [e1, List.length_append]
  exact hq
 ·
  rcases hat.out with e | e
  ·
   exact .inl (by rw [← Hv.out, ← e]; rfl)
  ·
   refine .inr ⟨g, rfl, ?_⟩
   simp [Value.ownBlock] at e
   have := Hsz.out
   omega
 ·
  have k0 : Chg b A w w1 := ⟨hO.os, hO.tape, hO.output, by rw [Hsz.out]; exact Nat.le_refl _, fun i _ h1 _ => hO.block i h1⟩
  exact ((k0.alloc _).grown (by rw [← Hv.out]; exact hgrow)).setCell 1 _

theorem freeze_only (w : World) (g n : Nat) : Only g w (w.freeze ⟨g, 0, none⟩ n) := by
 unfold World.freeze
 split
 ·
  exact Only.refl _ _
 ·
  exact ⟨rfl, rfl, rfl, by simp, fun k hk => by simp [Array.getElem?_modify, show ¬ g = k from fun e => hk e.symm]⟩

theorem cells_byte : Tryz.prog.cellsOf 5 = 1 := by kernel_rfl

set_option maxHeartbeats 1000000 in
set_option maxRecDepth 100000 in
theorem bldString_any (b : Nat) (A : Option Nat) (l : List UInt8) (w : World) (h : Bld w b A l) :
    Calls Tryz.prog 56 #[.pointer (some ⟨b, 0, none⟩)] w fun e w' => e = .returned (.string ⟨l.toArray⟩) ∧ Chg b A w w' ∧ w'.heap[b]? = w.heap[b]? := by
 obtain ⟨p, v, hp, hb, hown, hv, hn, hl⟩ := h
 by_cases h0 : l = []
 ·
  subst h0
  obtain rfl := hl rfl
  have c1 : w.drew.cell? ⟨b, 1, none⟩ = some (.slice none 0 0) := by
   have : w.drew.heap[b]? = some (.cells #[p, .slice none 0 0] 106 (0, 0)) := hb
   rw [Lib.cell_of_heap this]; rfl
  have hUS := fun W => Lib.run_unsafeString_none (P := Tryz.prog) W 141 3 9 none
  have hSD := fun W => Lib.run_unsafeSliceData_nil (P := Tryz.prog) W #[22] 141 0 0
  clear hown hv hn hl
  go_enter Tryz.func56, Tryz.ntmps56
  go_wp2
  go_region
  all_goals (go_wp2; go_ret; exact ⟨rfl, (Chg.refl b A w).drewN 1, rfl⟩)
 ·
  have hl0 : l.length ≠ 0 := by simpa using h0
  obtain ⟨g, cap, cur, rfl, hbg, hg, hnc, hcm, hcs, htake⟩ : ∃ g cap cur, v = .slice (some ⟨g, 0, none⟩) l.length cap ∧ 0 ≤ g ∧ w.heap[g]? = some (.cells cur 5 (0, 0)) ∧ l.length ≤ cap ∧ cap ≤ maxLen ∧ cur.size = cap * 1 ∧ cur.toList.take (l.length * 1) = Lib.byteCells l := by
   rcases hown.2 with ⟨_, hz⟩ | ⟨g, cap, cur, hv, r⟩
   ·
    exact absurd hz hl0
   ·
    exact ⟨g, cap, cur, hv, r⟩
  have c1 : w.drew.cell? ⟨b, 1, none⟩ = some (.slice (some ⟨g, 0, none⟩) l.length cap) := by
   have : w.drew.heap[b]? = some (.cells #[p, .slice (some ⟨g, 0, none⟩) l.length cap] 106 (0, 0)) := hb
   rw [Lib.cell_of_heap this]; rfl
  have hSD : (Builtin.unsafeSliceData_ #[22] 141 #[.slice (some ⟨g, 0, none⟩) l.length cap]).run Tryz.prog w.drew = .ok (.pointer (some ⟨g, 0, none⟩)) w.drew :=
   Lib.run_unsafeSliceData_row _ _ _ _ _ _ (by omega)
  have hUS : (Builtin.unsafeString_ #[141, 3] 9 #[.pointer (some ⟨g, 0, none⟩), .int .i64 l.length]).run Tryz.prog w.drew = .ok (.string ⟨l.toArray⟩) (w.drew.freeze ⟨g, 0, none⟩ l.length) := by
   refine Lib.run_unsafeString_row w.drew 141 3 9 5 Tryz.underlying141 cells_byte g cur.size (by have hg' : w.drew.heap[g]? = some (.cells cur 5 (0, 0)) := hg; simp [World.shape?, hg']) l h0 (by omega) (by unfold maxLen at hcm; omega) ?_
   intro j x hx
   have := hown.cells (g := g) rfl j (.int .u8 x.toNat) (by simp [Lib.byteCells, hx])
   exact this
  have hA : A = some g := by rw [← hv]; rfl
  have hne : b ≠ g := fun e => hn (by rw [hA, e])
  clear hown hv hn hl
  go_enter Tryz.func56, Tryz.ntmps56
  go_wp2
  go_region
  all_goals
   go_wp2
   go_ret
   have ho := freeze_only w.drew g l.length
   exact ⟨rfl, ⟨ho.os, ho.tape, ho.output, Nat.le_of_eq ho.size.symm, fun i _ _ h2 => ho.block i (fun e => h2 (by rw [hA, e]))⟩, ho.block b hne⟩
end Go.Proofs.YthodpjcdmdbnoaaGreatDoor
