/- Pure: a block that was enciphered is deciphered to what it was; the way back through the table of places. The contract of lockboxref03.Bits. Pure: the reference's block on lists of bits is the program's. The contracts of lockboxref03.place, permute, digit, Bytes. The contract of lockboxref03.Bytes; an append alone. The contract of lockboxref03.Keys. The contract of lockboxref03.mix. The contract of lockboxref03.Keys: the walk. (Printed by wip/gen_keys.py.) The contracts of lockboxref03.Block, Triple. The contract of des.Triple: keys of 8, 16, 24 bytes, both ways. The contract of Cipher.Do of TDES. Plain: one block of either cipher, blocks chained, the code of a text; no program in sight. The contract of Cipher.Do of either cipher. The contract of lockboxref03.Triple, of a key of 16 or 24 bytes. -/
import Derived.Test.YthodpjcdmdbnoaaGreatDoorNPureAll
import Derived.Test.YthodpjcdmdbnoaaGreatDoorNDesGH
import Derived.Test.YthodpjcdmdbnoaaGreatDoorNEC
import Derived.Test.YthodpjcdmdbnoaaGreatDoorNPA
import Derived.Test.YthodpjcdmdbnoaaGreatDoorNKit
import Derived.Test.YthodpjcdmdbnoaaGreatDoorNBlk
import Derived.Test.YthodpjcdmdbnoaaGreatDoorNAesXY
/- Pure: a block that was enciphered is deciphered to what it was; the way back through the table of places. -/
namespace Go.Proofs.YthodpjcdmdbnoaaGreatDoor
open Go
namespace Pr

end Pr
open Pr
end Go.Proofs.YthodpjcdmdbnoaaGreatDoor

/- The contract of lockboxref03.Bits. -/
namespace Go.Proofs.YthodpjcdmdbnoaaGreatDoor
open Go Go.RowKit Pr

end Go.Proofs.YthodpjcdmdbnoaaGreatDoor

/- Pure: the reference's block on lists of bits is the program's. -/
namespace Go.Proofs.YthodpjcdmdbnoaaGreatDoor
open Go
namespace Pr

end Pr
end Go.Proofs.YthodpjcdmdbnoaaGreatDoor

/- The contracts of lockboxref03.place, permute, digit, Bytes. The contract of lockboxref03.Bytes; an append alone. The contract of lockboxref03.Keys. -/
/- The contracts of lockboxref03.place, permute, digit, Bytes. -/
namespace Go.Proofs.YthodpjcdmdbnoaaGreatDoor
open Go Go.RowKit Pr

theorem permR_len (l ps : List Nat) : (permR l ps).length = ps.length := by simp [permR]

end Go.Proofs.YthodpjcdmdbnoaaGreatDoor

/- The contract of lockboxref03.Bytes; an append alone. -/
namespace Go.Proofs.YthodpjcdmdbnoaaGreatDoor
open Go Go.RowKit Pr

end Go.Proofs.YthodpjcdmdbnoaaGreatDoor

/- The contract of lockboxref03.Keys. -/
namespace Go.Proofs.YthodpjcdmdbnoaaGreatDoor
open Go Go.RowKit Pr

theorem OwnN.at_ {e : TypeId} {kd : IntKind} {w : World} {B : Nat} {v : Value} {l : List Nat} (h : OwnN e kd w B v l) (hl : l ≠ []) : ∃ g cap, v = .slice (some ⟨g, 0, none⟩) l.length cap ∧ B ≤ g ∧ l.length ≤ cap ∧ g < w.heap.size ∧ Ns kd w g 0 l := by
 obtain ⟨A, cap, rfl, hc, hA⟩ := h.form
 obtain ⟨b, o, rfl, hN⟩ := hA hl
 have hlt := World.ownsRow.lt h b rfl
 rcases h.2 with ⟨hv, h0⟩ | ⟨g, cap', cur, hv, _⟩
 ·
  exact absurd (List.length_eq_zero_iff.1 h0) hl
 ·
  have : o = 0 := by
   have := hv
   simp only [Value.slice.injEq, Option.some.injEq, Addr.mk.injEq] at this
   exact this.1.2.1
  subst this
  exact ⟨b, cap, rfl, hlt.1, hc, hlt.2, hN⟩

/-- a row of rows: one of slices, each of numbers -/
def RowOf (w : World) (v : Value) (l : List Nat) : Prop := ∃ g cap, v = .slice (some ⟨g, 0, none⟩) l.length cap ∧ g < w.heap.size ∧ Ns .i64 w g 0 l
theorem RowOf.keep {w w' : World} {v : Value} {l : List Nat} {row : Option Nat} (h : RowOf w v l) (hg : w.grownBy w' row) (hne : v.ownBlock ≠ row) : RowOf w' v l := by
 obtain ⟨g, cap, rfl, hlt, hN⟩ := h
 refine ⟨g, cap, rfl, Nat.lt_of_lt_of_le hlt hg.size, fun j u hj => ?_⟩
 exact (World.cell?_of_block (hg.block g hlt hne)).trans (hN j u hj)
theorem RowOf.below {w w' : World} {v : Value} {l : List Nat} {B : Nat} (h : RowOf w v l) (hb : Below B w w') (hB : w.heap.size ≤ B) : RowOf w' v l := by
 obtain ⟨g, cap, rfl, hlt, hN⟩ := h
 exact ⟨g, cap, rfl, Nat.lt_of_lt_of_le hlt (Nat.le_trans (by omega) hb.size), hN.below hb (by omega)⟩

section
variable {P : Program} {ops : Array Oper} {rest : List Oper} {op : Oper} {a : Act} {w : World} {Q : Exit → Act → World → Prop}
end
end Go.Proofs.YthodpjcdmdbnoaaGreatDoor

/- The contract of lockboxref03.mix. -/
namespace Go.Proofs.YthodpjcdmdbnoaaGreatDoor
open Go Go.RowKit Pr

end Go.Proofs.YthodpjcdmdbnoaaGreatDoor

/- The contract of lockboxref03.Keys: the walk. (Printed by wip/gen_keys.py.) -/
namespace Go.Proofs.YthodpjcdmdbnoaaGreatDoor
open Go Go.RowKit Pr

theorem Ns.alloc {kd : IntKind} {w : World} {b o : Nat} {l : List Nat} (h : Ns kd w b o l) (ob : Obj) : Ns kd (w.alloc ob) b o l := fun j v hv => by
 have hc := h j v hv
 have hb := block_lt_of_cell hc
 rw [World.cell?_alloc_lt w ob _ hb]; exact hc
/-- the round keys that are made -/
def KeysAt (key : List Nat) (B : Nat) (w : World) (v : Value) (n : Nat) : Prop := ∃ vs : List Value, w.ownsRow B 81 1 v n vs ∧ ∀ j, j < n → ∃ u, vs[j]? = some u ∧ RowOf w u (keyR key j) ∧ v.ownBlock ≠ u.ownBlock
theorem owns_below {w w' : World} {e : TypeId} {v : Value} {n B C : Nat} {vs : List Value} (h1 : w.ownsRow B e 1 v n vs) (hb : Below C w w') (hC : w.heap.size ≤ C) : w'.ownsRow B e 1 v n vs := by
 rcases h1 with ⟨e, h1⟩
 refine ⟨e, ?_⟩
 rcases h1 with h1 | ⟨g, cap, cur, rfl, hg, hgb, r⟩
 ·
  exact .inl h1
 ·
  refine .inr ⟨g, cap, cur, rfl, hg, (hb.block g ?_).trans hgb, r⟩
  rcases Nat.lt_or_ge g w.heap.size with hlt | hge
  ·
   omega
  ·
   rw [Array.getElem?_eq_none hge] at hgb; cases hgb
theorem KeysAt.below {w w' : World} {v : Value} {key : List Nat} {n B C : Nat} (h : KeysAt key B w v n) (hb : Below C w w') (hC : w.heap.size ≤ C) : KeysAt key B w' v n := by
 obtain ⟨vs, h1, h2⟩ := h
 refine ⟨vs, owns_below h1 hb hC, fun j hj => ?_⟩
 obtain ⟨u, hu, hr, hne⟩ := h2 j hj
 exact ⟨u, hu, hr.below hb hC, hne⟩
theorem keyR_len (key : List Nat) (r : Nat) : (keyR key r).length = 48 := by unfold keyR; rw [permR_len]; rfl
end Go.Proofs.YthodpjcdmdbnoaaGreatDoor

/- The contracts of lockboxref03.Block, Triple. -/
namespace Go.Proofs.YthodpjcdmdbnoaaGreatDoor
open Go Go.RowKit Pr

theorem KeysAt.form {key : List Nat} {B : Nat} {w : World} {v : Value} (h : KeysAt key B w v 16) : ∃ g cap, v = .slice (some ⟨g, 0, none⟩) 16 cap ∧ g < w.heap.size ∧ ∀ j, j < 16 → ∃ gk ck, w.cell? ⟨g, j, none⟩ = some (.slice (some ⟨gk, 0, none⟩) 48 ck) ∧ gk < w.heap.size ∧ Ns .i64 w gk 0 (keyR key j) := by
 obtain ⟨vs, h1, h2⟩ := h
 obtain ⟨g, cap, rfl, hlt⟩ : ∃ g cap, v = .slice (some ⟨g, 0, none⟩) 16 cap ∧ g < w.heap.size := by
  rcases h1.2 with ⟨_, h0⟩ | ⟨g, cap, cur, hv, _⟩
  ·
   omega
  ·
   exact ⟨g, cap, hv, (World.ownsRow.lt h1 g (by rw [hv]; rfl)).2⟩
 refine ⟨g, cap, rfl, hlt, fun j hj => ?_⟩
 obtain ⟨u, hu, ⟨gk, ck, rfl, hk, hN⟩, _⟩ := h2 j hj
 have hc := World.ownsRow.cells h1 (g := g) rfl j _ hu
 rw [Addr.add_mid, Nat.zero_add] at hc
 rw [keyR_len] at hc
 exact ⟨gk, ck, hc, hk, hN⟩
/-- a row of bits somewhere -/
def BitsAt (w : World) (c : Value) (l : List Nat) : Prop := ∃ g o cp, c = .slice (some ⟨g, o, none⟩) 32 cp ∧ 32 ≤ cp ∧ Ns .i64 w g o l ∧ g < w.heap.size
theorem BitsAt.below {w w' : World} {c : Value} {l : List Nat} {B : Nat} (h : BitsAt w c l) (hb : Below B w w') (hB : w.heap.size ≤ B) : BitsAt w' c l := by
 obtain ⟨g, o, cp, rfl, h1, h3, h4⟩ := h
 exact ⟨g, o, cp, rfl, h1, h3.below hb (by omega), Nat.lt_of_lt_of_le h4 (Nat.le_trans (by omega) hb.size)⟩

end Go.Proofs.YthodpjcdmdbnoaaGreatDoor


/- The contract of des.Triple: keys of 8, 16, 24 bytes, both ways. The contract of Cipher.Do of TDES. -/
/- The contract of des.Triple: keys of 8, 16, 24 bytes, both ways. -/
namespace Go.Proofs.YthodpjcdmdbnoaaGreatDoor
open Go Go.RowKit Pr

/-- TDES with three keys -/
def trip (k0 k1 k2 b : List Nat) (back : Bool) : List Nat := if back then blockN k0 (blockN k1 (blockN k2 b true) false) true else blockN k2 (blockN k1 (blockN k0 b false) true) false
/-- TDES with a key of 8, 16 or 24 bytes -/
def tripN (key b : List Nat) (back : Bool) : List Nat :=
 if key.length = 8 then blockN key b back else trip (key.take 8) ((key.drop 8).take 8) (if key.length = 16 then key.take 8 else key.drop 16) b back
theorem trip_len (k0 k1 k2 b : List Nat) (back : Bool) : (trip k0 k1 k2 b back).length = 8 := by
 unfold trip; split <;> exact blockN_len _ _ _
theorem trip_lt (k0 k1 k2 b : List Nat) (back : Bool) : ∀ c ∈ trip k0 k1 k2 b back, c < 256 := by
 unfold trip; split <;> exact blockN_lt _ _ _
theorem tripN_len (key b : List Nat) (back : Bool) : (tripN key b back).length = 8 := by
 unfold tripN; split
 ·
  exact blockN_len _ _ _
 ·
  exact trip_len _ _ _ _ _
theorem tripN_lt (key b : List Nat) (back : Bool) : ∀ c ∈ tripN key b back, c < 256 := by
 unfold tripN; split
 ·
  exact blockN_lt _ _ _
 ·
  exact trip_lt _ _ _ _ _

end Go.Proofs.YthodpjcdmdbnoaaGreatDoor

/- The contract of Cipher.Do of TDES. -/
namespace Go.Proofs.YthodpjcdmdbnoaaGreatDoor
open Go Go.RowKit Pr

end Go.Proofs.YthodpjcdmdbnoaaGreatDoor

/- Plain: one block of either cipher, blocks chained, the code of a text; no program in sight. The contract of Cipher.Do of either cipher. -/
/- Plain: one block of either cipher, blocks chained, the code of a text; no program in sight. -/
namespace Go.Proofs.YthodpjcdmdbnoaaGreatDoor
open Go Go.RowKit Pr

/-- one block -/
def ciN (kind : Nat) (key x : List Nat) (back : Bool) : List Nat := if kind = 2 then tripN key x back else aesN key x back
theorem ciN_len (kind : Nat) (key x : List Nat) (back : Bool) : (ciN kind key x back).length = sizeN kind := by
 unfold ciN sizeN
 split
 ·
  exact tripN_len _ _ _
 ·
  exact aesN_len _ _ _
theorem size_pos (kind : Nat) : 0 < sizeN kind := by unfold sizeN; split <;> omega
theorem size_le (kind : Nat) : sizeN kind ≤ 16 := by unfold sizeN; split <;> omega
/-- a key of that kind -/
def KeyOk (kind : Nat) (key : List Nat) : Prop := Byt key ∧ ((kind = 2 ∧ (key.length = 16 ∨ key.length = 24)) ∨ (kind = 1 ∧ (key.length = 16 ∨ key.length = 24 ∨ key.length = 32)))
theorem aesN_lt {key x : List Nat} (hk : Byt key) (hl : x.length = 16) (hx : Byt x) (back : Bool) : Byt (aesN key x back) := by
 unfold aesN
 split
 ·
  exact withG_byt (decTo_ok hl hx (wordsG_byt hk) _ _).2 (wordsG_byt hk) 0
 ·
  exact encG_byt hx (wordsG_byt hk) _
theorem ciN_lt {kind : Nat} {key x : List Nat} (hk : Byt key) (hl : x.length = sizeN kind) (hx : Byt x) (back : Bool) : Byt (ciN kind key x back) := by
 unfold ciN
 unfold sizeN at hl
 split
 ·
  exact tripN_lt _ _ _
 ·
  rename_i h; rw [if_neg h] at hl; exact aesN_lt hk hl hx back
/-- the m-th block of n bytes -/
def blkAt (n m : Nat) (t : List Nat) : List Nat := (t.drop (n * m)).take n
theorem blkAt_len {n m : Nat} {t : List Nat} (h : n * m + n ≤ t.length) : (blkAt n m t).length = n := by simp [blkAt]; omega
theorem blkAt_byt {n m : Nat} {t : List Nat} (h : Byt t) : Byt (blkAt n m t) := fun c hc => h c (List.mem_of_mem_drop (List.mem_of_mem_take hc))
/-- m blocks, chained: what comes out, and the last block of it -/
def cbcE (f : List Nat → List Nat) (n : Nat) (start t : List Nat) : Nat → List Nat × List Nat
 | 0 => ([], start)
 | m + 1 => ((cbcE f n start t m).1 ++ f (xorTo (blkAt n m t) (cbcE f n start t m).2 n), f (xorTo (blkAt n m t) (cbcE f n start t m).2 n))
def cbcD (f : List Nat → List Nat) (n : Nat) (start t : List Nat) : Nat → List Nat × List Nat
 | 0 => ([], start)
 | m + 1 => ((cbcD f n start t m).1 ++ xorTo (f (blkAt n m t)) (cbcD f n start t m).2 n, blkAt n m t)
/-- what holds of the cipher's blocks -/
def Blocks (f : List Nat → List Nat) (n : Nat) : Prop := ∀ x : List Nat, x.length = n → Byt x → (f x).length = n ∧ Byt (f x)
theorem xor_byt {a b : List Nat} (ha : Byt a) (hb : Byt b) : ∀ n, Byt (xorTo a b n)
 | 0 => ha
 | n + 1 => fun c hc => by
  unfold xorTo at hc
  rcases List.mem_or_eq_of_mem_set hc with h | rfl
  ·
   exact xor_byt ha hb n c h
  ·
   exact xor_lt8 (ha.at_ _) (hb.at_ _)
theorem cbcE_ok {f : List Nat → List Nat} {n : Nat} (hf : Blocks f n) {start t : List Nat} (hs : start.length = n) (gs : Byt start) (gt : Byt t) : ∀ m, n * m ≤ t.length →
    (cbcE f n start t m).1.length = n * m ∧ Byt (cbcE f n start t m).1 ∧ (cbcE f n start t m).2.length = n ∧ Byt (cbcE f n start t m).2
 | 0, _ => ⟨rfl, (by intro c hc; cases hc), hs, gs⟩
 | m + 1, h => by
  rw [Nat.mul_succ] at h
  obtain ⟨h1, h2, h3, h4⟩ := cbcE_ok hf hs gs gt m (by omega)
  have hx : (xorTo (blkAt n m t) (cbcE f n start t m).2 n).length = n := by rw [xorTo_len, blkAt_len h]
  have hb := xor_byt (blkAt_byt (n := n) (m := m) gt) h4 n
  obtain ⟨k1, k2⟩ := hf _ hx hb
  unfold cbcE
  refine ⟨by rw [List.length_append, h1, k1, Nat.mul_succ], ?_, k1, k2⟩
  intro c hc
  rcases List.mem_append.1 hc with hc | hc
  ·
   exact h2 c hc
  ·
   exact k2 c hc
theorem cbcD_ok {f : List Nat → List Nat} {n : Nat} (hf : Blocks f n) {start t : List Nat} (hs : start.length = n) (gs : Byt start) (gt : Byt t) : ∀ m, n * m ≤ t.length →
    (cbcD f n start t m).1.length = n * m ∧ Byt (cbcD f n start t m).1 ∧ (cbcD f n start t m).2.length = n ∧ Byt (cbcD f n start t m).2
 | 0, _ => ⟨rfl, (by intro c hc; cases hc), hs, gs⟩
 | m + 1, h => by
  rw [Nat.mul_succ] at h
  obtain ⟨h1, h2, h3, h4⟩ := cbcD_ok hf hs gs gt m (by omega)
  obtain ⟨k1, k2⟩ := hf _ (blkAt_len h) (blkAt_byt gt)
  have hb := xor_byt k2 h4 n
  unfold cbcD
  refine ⟨by rw [List.length_append, h1, xorTo_len, k1, Nat.mul_succ], ?_, blkAt_len h, blkAt_byt gt⟩
  intro c hc
  rcases List.mem_append.1 hc with hc | hc
  ·
   exact h2 c hc
  ·
   exact hb c hc
/-- so many bytes, chained -/
def chN (kind : Nat) (key start t : List Nat) (back : Bool) : List Nat :=
 if back then (cbcD (fun x => ciN kind key x true) (sizeN kind) start t (t.length / sizeN kind)).1
 else (cbcE (fun x => ciN kind key x false) (sizeN kind) start t (t.length / sizeN kind)).1
theorem ci_blocks {kind : Nat} {key : List Nat} (hk : Byt key) (back : Bool) : Blocks (fun x => ciN kind key x back) (sizeN kind) := fun _ hl hx => ⟨ciN_len _ _ _ _, ciN_lt hk hl hx back⟩
theorem mul_div {n l : Nat} (h : l % n = 0) : n * (l / n) = l := by have := Nat.div_add_mod l n; omega
theorem chN_ok {kind : Nat} {key start t : List Nat} (hk : Byt key) (hs : start.length = sizeN kind) (gs : Byt start) (gt : Byt t) (hm : t.length % sizeN kind = 0) (back : Bool) : (chN kind key start t back).length = t.length ∧ Byt (chN kind key start t back) := by
 have e := mul_div hm
 unfold chN
 split
 ·
  have := cbcD_ok (ci_blocks (kind := kind) hk true) hs gs gt (t.length / sizeN kind) (by omega)
  exact ⟨by rw [this.1]; exact e, this.2.1⟩
 ·
  have := cbcE_ok (ci_blocks (kind := kind) hk false) hs gs gt (t.length / sizeN kind) (by omega)
  exact ⟨by rw [this.1]; exact e, this.2.1⟩
/-- a block, doubled -/
def dblN (b : List Nat) : List Nat :=
 let o := (List.range b.length).map fun i => 2 * b.getD i 0 % 256 + b.getD (i + 1) 0 / 128
 if 128 ≤ b.getD 0 0 then o.set (b.length - 1) (o.getD (b.length - 1) 0 ^^^ (if b.length = 8 then 27 else 135)) else o
/-- filled up to whole blocks -/
def padN (t : List Nat) (n : Nat) : List Nat := t ++ 128 :: List.replicate ((n - (t.length + 1) % n) % n) 0
/-- whether a text is filled up -/
def padB (t : List Nat) (n : Nat) : Bool := t.length % n != 0 || t.length == 0
def cmacL (kind : Nat) (key : List Nat) : List Nat := ciN kind key (List.replicate (sizeN kind) 0) false
/-- the blocks that are chained -/
def cmacT (kind : Nat) (key t : List Nat) : List Nat :=
 let n := sizeN kind
 let f := if padB t n then padN t n else t
 let l := if padB t n then dblN (dblN (cmacL kind key)) else dblN (cmacL kind key)
 f.take (f.length - n) ++ xorTo (f.drop (f.length - n)) l n
/-- the code of a text, whole -/
def cmacN (kind : Nat) (key t : List Nat) : List Nat :=
 let x := chN kind key (List.replicate (sizeN kind) 0) (cmacT kind key t) false
 x.drop (x.length - sizeN kind)
theorem dblN_byt {b : List Nat} (h : Byt b) : Byt (dblN b) := by
 have ho : Byt ((List.range b.length).map fun i => 2 * b.getD i 0 % 256 + b.getD (i + 1) 0 / 128) := fun c hc => by
  obtain ⟨i, _, rfl⟩ := List.mem_map.1 hc
  have h1 := h.at_ i
  have h2 := h.at_ (i + 1)
  omega
 unfold dblN
 simp only
 split
 ·
  intro c hc
  rcases List.mem_or_eq_of_mem_set hc with hc | rfl
  ·
   exact ho c hc
  ·
   exact xor_lt8 (ho.at_ _) (by split <;> omega)
 ·
  exact ho
theorem padN_len {n : Nat} (hn : 0 < n) (t : List Nat) : (padN t n).length % n = 0 ∧ n ≤ (padN t n).length := by
 have e : (padN t n).length = t.length + 1 + (n - (t.length + 1) % n) % n := by unfold padN; rw [List.length_append, List.length_cons, List.length_replicate]; omega
 have h1 := Nat.mod_lt (t.length + 1) hn
 have h2 := Nat.div_add_mod (t.length + 1) n
 rw [e]
 by_cases h0 : (t.length + 1) % n = 0
 ·
  rw [h0, Nat.sub_zero, Nat.mod_self, Nat.add_zero]
  refine ⟨h0, ?_⟩
  exact Nat.le_of_dvd (by omega) (Nat.dvd_of_mod_eq_zero h0)
 ·
  rw [Nat.mod_eq_of_lt (show n - (t.length + 1) % n < n by omega)]
  have e2 : t.length + 1 + (n - (t.length + 1) % n) = n * ((t.length + 1) / n) + n := by omega
  rw [e2]
  refine ⟨by rw [Nat.add_mod_right, Nat.mul_mod_right], by omega⟩
theorem padN_byt {t : List Nat} (h : Byt t) (n : Nat) : Byt (padN t n) := fun c hc => by
 unfold padN at hc
 rcases List.mem_append.1 hc with hc | hc
 ·
  exact h c hc
 ·
  rcases List.mem_cons.1 hc with rfl | hc
  ·
   omega
  ·
   rw [(List.mem_replicate.1 hc).2]; omega
theorem zero_byt (n : Nat) : Byt (List.replicate n 0) := fun c hc => by rw [(List.mem_replicate.1 hc).2]; omega
theorem cmacT_ok {kind : Nat} {key t : List Nat} (hk : Byt key) (gt : Byt t) : (cmacT kind key t).length % sizeN kind = 0 ∧ sizeN kind ≤ (cmacT kind key t).length ∧ Byt (cmacT kind key t) := by
 have hn := size_pos kind
 have hl : Byt (cmacL kind key) := ciN_lt hk (by rw [List.length_replicate]) (zero_byt _) false
 have e : ∀ (f l : List Nat), f.length % sizeN kind = 0 → sizeN kind ≤ f.length → Byt f → Byt l → (f.take (f.length - sizeN kind) ++ xorTo (f.drop (f.length - sizeN kind)) l (sizeN kind)).length % sizeN kind = 0 ∧ sizeN kind ≤ (f.take (f.length - sizeN kind) ++ xorTo (f.drop (f.length - sizeN kind)) l (sizeN kind)).length ∧ Byt (f.take (f.length - sizeN kind) ++ xorTo (f.drop (f.length - sizeN kind)) l (sizeN kind)) := fun f l h1 h2 h3 h4 => by
  have hl : (f.take (f.length - sizeN kind) ++ xorTo (f.drop (f.length - sizeN kind)) l (sizeN kind)).length = f.length := by
   rw [List.length_append, xorTo_len, List.length_take, List.length_drop]; omega
  rw [hl]
  refine ⟨h1, h2, fun c hc => ?_⟩
  rcases List.mem_append.1 hc with hc | hc
  ·
   exact h3 c (List.mem_of_mem_take hc)
  ·
   exact xor_byt (fun c hc => h3 c (List.mem_of_mem_drop hc)) h4 _ c hc
 unfold cmacT
 simp only
 by_cases hp : padB t (sizeN kind) = true
 ·
  rw [if_pos hp, if_pos hp]
  exact e _ _ (padN_len hn t).1 (padN_len hn t).2 (padN_byt gt _) (dblN_byt (dblN_byt hl))
 ·
  rw [if_neg hp, if_neg hp]
  simp [padB] at hp
  exact e _ _ hp.1 (Nat.le_of_dvd (List.length_pos_iff.2 hp.2) (Nat.dvd_of_mod_eq_zero hp.1)) gt (dblN_byt hl)
theorem cmacN_ok {kind : Nat} {key t : List Nat} (hk : Byt key) (gt : Byt t) : (cmacN kind key t).length = sizeN kind ∧ Byt (cmacN kind key t) := by
 obtain ⟨h1, h2, h3⟩ := cmacT_ok (kind := kind) hk gt
 have := chN_ok (kind := kind) (start := List.replicate (sizeN kind) 0) hk (by rw [List.length_replicate]) (zero_byt _) h3 h1 false
 unfold cmacN
 simp only
 refine ⟨by rw [List.length_drop, this.1]; omega, fun c hc => this.2 c (List.mem_of_mem_drop hc)⟩
end Go.Proofs.YthodpjcdmdbnoaaGreatDoor

/- The contract of Cipher.Do of either cipher. -/
namespace Go.Proofs.YthodpjcdmdbnoaaGreatDoor
open Go Go.RowKit Pr

theorem KeyOk.kind {kind : Nat} {key : List Nat} (h : KeyOk kind key) : kind = 1 ∨ kind = 2 := by
 rcases h.2 with ⟨h, _⟩ | ⟨h, _⟩
 ·
  exact .inr h
 ·
  exact .inl h
theorem Bs.ofBlk {w : World} {g : Nat} {t : TypeId} {l : List Nat} (h : Blk w g t (byteCells l)) : Bs w g 0 l := Bs.of_blk h (fun j c hj => by rw [Nat.zero_add]; exact hj)
theorem size_2 : sizeN 2 = 8 := by unfold sizeN; rw [if_pos rfl]
theorem size_1 : sizeN 1 = 16 := by unfold sizeN; rw [if_neg (by decide)]
end Go.Proofs.YthodpjcdmdbnoaaGreatDoor

/- The contract of lockboxref03.Triple, of a key of 16 or 24 bytes. -/
namespace Go.Proofs.YthodpjcdmdbnoaaGreatDoor
open Go Go.RowKit Pr

end Go.Proofs.YthodpjcdmdbnoaaGreatDoor
