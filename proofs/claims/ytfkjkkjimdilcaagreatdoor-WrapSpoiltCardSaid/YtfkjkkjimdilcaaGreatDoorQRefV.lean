/- lockboxref02.Words: plain facts; rows of words of four bytes. -/
import Derived.Test.YtfkjkkjimdilcaaGreatDoorQRM
import Derived.Test.YtfkjkkjimdilcaaGreatDoorQAesXY
namespace Go.Proofs.YtfkjkkjimdilcaaGreatDoor
open Go Go.RowKit Pr

/-- the powers of 2 in the field -/
def powB : Nat → Nat
 | 0 => 1
 | k + 1 => mulG (powB k) 2
theorem powB_lt : ∀ k, powB k < 256
 | 0 => by unfold powB; omega
 | k + 1 => by unfold powB; exact mulG_lt _ _ (powB_lt k)
theorem powB_mul (k : Nat) : mulR (powB k) 2 = powB (k + 1) := by
 rw [(mulR_2 (powB k) (powB_lt k)).2.1]; rfl
theorem wordsP (nk : Nat) (h : nk = 4 ∨ nk = 6 ∨ nk = 8) (key : List Nat) : ∀ n, (wordsTo nk key n).2 = powB ((n + (nk - 1)) / nk)
 | 0 => by rcases h with rfl | rfl | rfl <;> rfl
 | n + 1 => by
  have ih := wordsP nk h key n
  unfold wordsTo
  show (if n % nk = 0 then mulG (wordsTo nk key n).2 2 else (wordsTo nk key n).2) = _
  rw [ih]
  rcases h with rfl | rfl | rfl
  ·
   by_cases h0 : n % 4 = 0
   ·
    rw [if_pos h0, show (n + 1 + (4 - 1)) / 4 = (n + (4 - 1)) / 4 + 1 by omega]; rfl
   ·
    rw [if_neg h0, show (n + 1 + (4 - 1)) / 4 = (n + (4 - 1)) / 4 by omega]
  ·
   by_cases h0 : n % 6 = 0
   ·
    rw [if_pos h0, show (n + 1 + (6 - 1)) / 6 = (n + (6 - 1)) / 6 + 1 by omega]; rfl
   ·
    rw [if_neg h0, show (n + 1 + (6 - 1)) / 6 = (n + (6 - 1)) / 6 by omega]
  ·
   by_cases h0 : n % 8 = 0
   ·
    rw [if_pos h0, show (n + 1 + (8 - 1)) / 8 = (n + (8 - 1)) / 8 + 1 by omega]; rfl
   ·
    rw [if_neg h0, show (n + 1 + (8 - 1)) / 8 = (n + (8 - 1)) / 8 by omega]
/-- the next word, out of t and the word of nk words ago -/
def xorW (nk : Nat) (W t : List Nat) : List Nat := (List.range 4).map fun k => t.getD k 0 ^^^ W.getD (W.length - 4 * nk + k) 0
theorem xorW_len (nk : Nat) (W t : List Nat) : (xorW nk W t).length = 4 := by simp [xorW]
theorem nextW_is (nk : Nat) (hnk : 1 ≤ nk) {W t : List Nat} (hW : 4 * nk ≤ W.length) : nextW nk W t 4 = W ++ xorW nk W t := by
 have key : ∀ k, k ≤ 4 → nextW nk W t k = W ++ (List.range k).map fun k => t.getD k 0 ^^^ W.getD (W.length - 4 * nk + k) 0 := by
  intro k
  induction k with
  | zero => intro _; simp [nextW]
  | succ k ih =>
   intro hk; have e := ih (by omega)
   unfold nextW
   rw [e, List.range_succ, List.map_append, List.append_assoc]
   congr 2
   simp only [List.map_cons, List.map_nil]
   congr 1
   rw [Nat.xor_comm]
   congr 1
   rw [List.getD_eq_getElem?_getD, List.getElem?_append_left (by omega), ← List.getD_eq_getElem?_getD]
 exact key 4 lr
theorem xorW_at (nk : Nat) (W t : List Nat) (k : Nat) (hk : k < 4) : (xorW nk W t).getD k 0 = t.getD k 0 ^^^ W.getD (W.length - 4 * nk + k) 0 := rangeD _ _ _ hk

/-- v is a slice of n words of four bytes, the bytes l, that lies from block B on -/
def OwnW (w : World) (B : Nat) (v : Value) (n : Nat) (l : List Nat) : Prop := w.ownsRow B 215 4 v n (numCells .u8 l).toList
theorem OwnW.nil (w : World) (B : Nat) : OwnW w B (.slice none 0 0) 0 [] := ⟨rfl, .inl ⟨rfl, rfl⟩⟩
theorem OwnW.len {w : World} {B n : Nat} {v : Value} {l : List Nat} (h : OwnW w B v n l) : l.length = 4 * n := by
 have := h.1
 simp [numCells] at this
 omega
theorem OwnW.form {w : World} {B n : Nat} {v : Value} {l : List Nat} (h : OwnW w B v n l) (hn : 0 < n) : ∃ g cap, v = .slice (some ⟨g, 0, none⟩) n cap ∧ B ≤ g ∧ g < w.heap.size ∧ n ≤ cap ∧ Ns .u8 w g 0 l := by
 rcases h.2 with ⟨hv, h0⟩ | ⟨g, cap, cur, rfl, hg, hb, hc, hm, hs, ht⟩
 ·
  omega
 ·
  refine ⟨g, cap, rfl, hg, (World.ownsRow.lt h g rfl).2, hc, fun j v hv => ?_⟩; have := World.ownsRow.cells h (g := g) rfl j v hv; rw [Addr.add_mid] at this; exact this
theorem OwnW.below {w w' : World} {B C n : Nat} {v : Value} {l : List Nat} (h : OwnW w B v n l) (hb : Below C w w') (hC : w.heap.size ≤ C) : OwnW w' B v n l := by
 rcases h with ⟨h1, h2⟩
 refine ⟨h1, ?_⟩
 rcases h2 with h2 | ⟨g, cap, cur, rfl, hg, hgb, r⟩
 ·
  exact .inl h2
 ·
  refine .inr ⟨g, cap, cur, rfl, hg, (hb.block g ?_).trans hgb, r⟩
  rcases Nat.lt_or_ge g w.heap.size with hlt | hge
  ·
   omega
  ·
   rw [Array.getElem?_eq_none hge] at hgb; cases hgb
theorem OwnW.keep {w w' : World} {B G n : Nat} {v : Value} {l : List Nat} (h : OwnW w B v n l) (hk : Keep G w w') (hne : v.ownBlock ≠ some G) : OwnW w' B v n l := by
 rcases h with ⟨h1, h2⟩
 refine ⟨h1, ?_⟩
 rcases h2 with h2 | ⟨g', cap, cur, rfl, hg, hgb, r⟩
 ·
  exact .inl h2
 ·
  refine .inr ⟨g', cap, cur, rfl, hg, (hk.block g' ?_ (fun e => hne (by rw [e]; rfl))).trans hgb, r⟩
  rcases Nat.lt_or_ge g' w.heap.size with hlt | hge
  ·
   exact hlt
  ·
   rw [Array.getElem?_eq_none hge] at hgb; cases hgb
theorem zero_4u8 : (Tryz.prog.info? 215).map (fun i => (i.zero, i.size, i.bytes)) = some (some (.agg #[.int .u8 0, .int .u8 0, .int .u8 0, .int .u8 0]), 4, 4) := by kernel_rfl
theorem info_parts4 {P : Program} {e : TypeId} {z : Value} {s b : Nat} (h : (P.info? e).map (fun i => (i.zero, i.size, i.bytes)) = some (some z, s, b)) : ∃ i, P.info? e = some i ∧ i.zero = some z ∧ i.size = s ∧ i.bytes = b := by
 cases hi : P.info? e with
 | none => rw [hi] at h; cases h
 | some i =>
  rw [hi] at h; simp only [Option.map_some, Option.some.injEq, Prod.mk.injEq] at h
  exact ⟨i, rfl, h.1, h.2.1, h.2.2⟩
/-- the operation alone: a word more -/
theorem op_append_word {Q : Exit → Act → World → Prop} {K : Act → World → Prop} {op : Oper} {a : Act} {w : World} (s x : Operand) (ho : op.op = .call { callee := .builtin .append, args := #[s, x], argTypes := #[223, 223] })
    (B : Nat) (w0 : World) (v : Value) (n : Nat) (l : List Nat) (hs : a.eval s = v) (hown : OwnW w B v n l) (hbel : Below B w0 w) (hB : B ≤ w.heap.size)
    (b o c : Nat) (T : List Nat) (hT : T.length = 4) (hx : a.eval x = .slice (some ⟨b, o, none⟩) 1 c) (hA : Ns .u8 w b o T) (hn : n ≤ 1000000)
    (h : ∀ v' w', OwnW w' B v' (n + 1) (l ++ T) → Below B w0 w' → w.heap.size ≤ w'.heap.size → K (a.put op.dst v') w') : op.wp Tryz.prog a w K Q := by
 obtain ⟨i0, hi, hz0, hz1, hz2⟩ := info_parts4 zero_4u8; have h63' : n + 1 ≤ maxLen := by unfold maxLen; omega
 have hbytes : (n + 1) * 4 ≤ 140737488355328 := by omega
 obtain ⟨v', w', hr, h1, h2, _, _⟩ := run_append_own_at (P := Tryz.prog) w B 223 op.type 215 i0 _ 4 4 Tryz.underlying223 hi hz0 hz1 hz2 rfl (by decide) v n (numCells .u8 l).toList hown ⟨b, o, none⟩ 1 c (numCells .u8 T).toList (by simp [numCells, hT])
  (fun j u hj => by have := hA j u hj; rwa [Addr.add_mid]) (fun u hu => by
   simp only [numCells, List.mem_map] at hu
   obtain ⟨c, _, rfl⟩ := hu
   rfl) h63' hbytes hB
 unfold Oper.wp execOp
 simp only [ho, resolve, invoke, builtin, Sem.run_bind, Sem.run_pure, Result.andThen_ok, List.map_toArray, List.map_cons, List.map_nil, hs, hx, hr]
 refine h v' w' ?_ (hbel.grown h2 hB (fun g hg => (World.ownsRow.lt hown g hg).1)) h2.size
 unfold OwnW
 have e1 : (numCells .u8 (l ++ T)).toList = (numCells .u8 l).toList ++ (numCells .u8 T).toList := by simp [numCells]
 rw [e1]; exact h1
theorem wpList_append_word {ops : Array Oper} {rest : List Oper} {Q : Exit → Act → World → Prop} {op : Oper} {a : Act} {w : World} (hgd : op.guard = none) (s x : Operand) (ho : op.op = .call { callee := .builtin .append, args := #[s, x], argTypes := #[223, 223] })
    (B : Nat) (w0 : World) (v : Value) (n : Nat) (l : List Nat) (hs : a.eval s = v) (hown : OwnW w B v n l) (hbel : Below B w0 w) (hB : B ≤ w.heap.size)
    (b o c : Nat) (T : List Nat) (hT : T.length = 4) (hx : a.eval x = .slice (some ⟨b, o, none⟩) 1 c) (hA : Ns .u8 w b o T) (hn : n ≤ 1000000)
    (h : ∀ v' w', OwnW w' B v' (n + 1) (l ++ T) → Below B w0 w' → w.heap.size ≤ w'.heap.size → wpList Tryz.prog ops Q rest (a.put op.dst v') w') : wpList Tryz.prog ops Q (op :: rest) a w :=
 wpList_plain hgd fun _ hK => op_append_word s x ho B w0 v n l hs hown hbel hB b o c T hT hx hA hn fun v' w' h1 h2 h3 => hK _ _ (h v' w' h1 h2 h3)
theorem tailG_A (nk : Nat) (W : List Nat) (p n : Nat) (h : n % nk = 0) : tailG nk W n p = [boxG ((lastT W).getD 1 0) ^^^ p, boxG ((lastT W).getD 2 0), boxG ((lastT W).getD 3 0), boxG ((lastT W).getD 0 0)] := by
 unfold tailG
 rw [if_pos h]
theorem tailG_B (W : List Nat) (p n : Nat) (h : ¬ n % 8 = 0) (h2 : n % 8 = 4) : tailG 8 W n p = (lastT W).map boxG := by
 unfold tailG
 rw [if_neg h, if_pos ⟨rfl, h2⟩]
theorem tailG_C (nk : Nat) (W : List Nat) (p n : Nat) (h : ¬ n % nk = 0) (h2 : ¬ (nk = 8 ∧ n % 8 = 4)) : tailG nk W n p = lastT W := by
 unfold tailG
 rw [if_neg h, if_neg h2]
theorem take4 (l : List Nat) (p : Nat) (h : p + 4 ≤ l.length) : l.take (p + 4) = l.take p ++ [l.getD (p + 0) 0, l.getD (p + 1) 0, l.getD (p + 2) 0, l.getD (p + 3) 0] := by
 have e : ∀ k, p + k < l.length → l.take (p + k + 1) = l.take (p + k) ++ [l.getD (p + k) 0] := fun k hk => by
  rw [List.take_succ_eq_append_getElem hk, getD_of _ _ hk]
 have e0 := e 0 (by omega); have e1 := e 1 (by omega); have e2 := e 2 (by omega); have e3 := e 3 (by omega); rw [show p + 4 = p + 3 + 1 from rfl, e3, show p + 3 = p + 2 + 1 from rfl, e2, show p + 2 = p + 1 + 1 from rfl, e1, show p + 1 = p + 0 + 1 from rfl, e0]
 simp
theorem Ns.ofBlk {w : World} {g : Nat} {t : TypeId} {l : List Nat} (h : Blk w g t (byteCells l)) : Ns .u8 w g 0 l := Bs.of_blk h (fun j c hj => by rw [Nat.zero_add]; exact hj)
end Go.Proofs.YtfkjkkjimdilcaaGreatDoor
