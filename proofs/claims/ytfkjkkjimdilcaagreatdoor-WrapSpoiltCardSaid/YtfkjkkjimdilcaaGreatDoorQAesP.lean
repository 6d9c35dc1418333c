/- Plain definitions and facts of AES: the field, the box, a block's rounds; no program in sight. -/
import Derived.Test.YtfkjkkjimdilcaaGreatDoorQPureAll
set_option maxHeartbeats 8000000
set_option maxRecDepth 100000
namespace Go.Proofs.YtfkjkkjimdilcaaGreatDoor.Pr

/-- times two in the field -/
def xt (a : Nat) : Nat := if 128 ≤ a then (2 * a - 256) ^^^ 27 else 2 * a
def xtN : Nat → Nat → Nat
 | 0, a => a
 | k + 1, a => xt (xtN k a)
def mulTo (a b : Nat) : Nat → Nat
 | 0 => 0
 | k + 1 => if b / 2 ^ k % 2 = 1 then mulTo a b k ^^^ xtN k a else mulTo a b k
def mulG (a b : Nat) : Nat := mulTo a b 8
/-- after so many rounds: the power, and what was gathered -/
def invTo : Nat → Nat → Nat → Nat
 | 0, _, out => out
 | k + 1, a, out => invTo k (mulG a a) (mulG out (mulG a a))
def invG (a : Nat) : Nat := invTo 7 a 1
def rotG (a n : Nat) : Nat := a * 2 ^ n % 256 ||| a / 2 ^ (8 - n)
def affG (b : Nat) : Nat := b ^^^ rotG b 1 ^^^ rotG b 2 ^^^ rotG b 3 ^^^ rotG b 4 ^^^ 99
def boxG (a : Nat) : Nat := affG (invG a)
def unaffG (a : Nat) : Nat := rotG a 1 ^^^ rotG a 3 ^^^ rotG a 6 ^^^ 5
def unboxG (a : Nat) : Nat := invG (unaffG a)
theorem xt_lt (a : Nat) (h : a < 256) : xt a < 256 := by
 unfold xt
 split
 ·
  exact Nat.xor_lt_two_pow (n := 8) (by omega) (by decide)
 ·
  omega
theorem xtN_lt : ∀ (k a : Nat), a < 256 → xtN k a < 256
 | 0, _, h => h
 | k + 1, a, h => xt_lt _ (xtN_lt k a h)
theorem mulTo_lt (a b : Nat) (h : a < 256) : ∀ k, mulTo a b k < 256
 | 0 => by simp [mulTo]
 | k + 1 => by
  unfold mulTo
  split
  ·
   exact Nat.xor_lt_two_pow (n := 8) (mulTo_lt a b h k) (xtN_lt k a h)
  ·
   exact mulTo_lt a b h k
theorem mulG_lt (a b : Nat) (h : a < 256) : mulG a b < 256 := mulTo_lt a b h 8
theorem unbox_box : ∀ c < 256, unboxG (boxG c) = c := by decide +kernel
theorem box_lt_all : ∀ c < 256, boxG c < 256 := by decide +kernel
theorem unbox_lt_all : ∀ c < 256, unboxG c < 256 := by decide +kernel
theorem boxG_lt (c : Nat) (h : c < 256) : boxG c < 256 := box_lt_all c h
theorem unboxG_lt (c : Nat) (h : c < 256) : unboxG c < 256 := unbox_lt_all c h

theorem mulTo_xor (a b c : Nat) : ∀ k, mulTo a (b ^^^ c) k = mulTo a b k ^^^ mulTo a c k
 | 0 => by simp [mulTo]
 | k + 1 => by
  have hb := bit_xor b c k; have h1 : b / 2 ^ k % 2 = 0 ∨ b / 2 ^ k % 2 = 1 := by omega
  have h2 : c / 2 ^ k % 2 = 0 ∨ c / 2 ^ k % 2 = 1 := by omega
  unfold mulTo
  rw [mulTo_xor a b c k, hb]; generalize mulTo a b k = x; generalize mulTo a c k = y; generalize xtN k a = z
  rcases h1 with h1 | h1 <;> rcases h2 with h2 | h2 <;> rw [h1, h2]
  ·
   simp
  ·
   simp [Nat.xor_assoc]
  ·
   simp only [Nat.xor_zero, if_true, if_neg (show ¬ (0 = 1) by omega)]
   rw [Nat.xor_assoc, Nat.xor_comm y z, ← Nat.xor_assoc]
  ·
   simp only [Nat.xor_self, if_true, if_neg (show ¬ (0 = 1) by omega)]
   rw [Nat.xor_assoc x z, ← Nat.xor_assoc z y z, Nat.xor_comm z y, Nat.xor_assoc y z z, Nat.xor_self, Nat.xor_zero]
theorem mulG_xor (a b c : Nat) : mulG a (b ^^^ c) = mulG a b ^^^ mulG a c := mulTo_xor a b c 8
/-- a block turned by a round's key -/
def withG (l w : List Nat) (r : Nat) : List Nat := (List.range 16).map fun i => l.getD i 0 ^^^ w.getD (16 * r + i) 0
def rowsG (l : List Nat) (t : Nat) : List Nat := (List.range 16).map fun i => l.getD ((i + 4 * (i % 4) * t) % 16) 0
def colTo (l m : List Nat) (i : Nat) : Nat → Nat
 | 0 => 0
 | k + 1 => colTo l m i k ^^^ mulG (m.getD k 0) (l.getD (i / 4 * 4 + (i % 4 + k) % 4) 0)
def columnsG (l m : List Nat) : List Nat := (List.range 16).map fun i => colTo l m i 4
def mE : List Nat := [2, 3, 1, 1]
def mD : List Nat := [14, 11, 13, 9]
def encTo (b w : List Nat) (n : Nat) : Nat → List Nat
 | 0 => withG b w 0
 | r + 1 => withG (if r + 1 < n then columnsG (rowsG ((encTo b w n r).map boxG) 1) mE else rowsG ((encTo b w n r).map boxG) 1) w (r + 1)
def encG (b w : List Nat) (n : Nat) : List Nat := encTo b w n n
def decTo (b w : List Nat) (n : Nat) : Nat → List Nat
 | 0 => b
 | k + 1 => (rowsG (if n - k < n then columnsG (withG (decTo b w n k) w (n - k)) mD else withG (decTo b w n k) w (n - k)) 3).map unboxG
def decG (b w : List Nat) (n : Nat) : List Nat := withG (decTo b w n n) w 0

theorem rangeD (f : Nat → Nat) (n i : Nat) (h : i < n) : ((List.range n).map f).getD i 0 = f i := by
 rw [List.getD_eq_getElem?_getD]; simp [h]
theorem list_ext16 {l m : List Nat} (h1 : l.length = 16) (h2 : m.length = 16) (h : ∀ i, i < 16 → l.getD i 0 = m.getD i 0) : l = m := by
 apply List.ext_getElem
 ·
  omega
 ·
  intro i a b; have := h i (by omega); rw [List.getD_eq_getElem?_getD, List.getD_eq_getElem?_getD, List.getElem?_eq_getElem a, List.getElem?_eq_getElem b] at this; exact this
theorem withG_len (l w : List Nat) (r : Nat) : (withG l w r).length = 16 := by simp [withG]
theorem rowsG_len (l : List Nat) (t : Nat) : (rowsG l t).length = 16 := by simp [rowsG]
theorem columnsG_len (l m : List Nat) : (columnsG l m).length = 16 := by simp [columnsG]
def Byt (l : List Nat) : Prop := ∀ c ∈ l, c < 256
theorem Byt.at_ {l : List Nat} (h : Byt l) (i : Nat) : l.getD i 0 < 256 := by
 rw [List.getD_eq_getElem?_getD]
 cases hq : l[i]? with
 | none => simp
 | some c => exact h c (List.mem_of_getElem? hq)
theorem byt_range {f : Nat → Nat} {n : Nat} (h : ∀ i, f i < 256) : Byt ((List.range n).map f) := by
 intro c hc; obtain ⟨i, _, rfl⟩ := List.mem_map.1 hc; exact h i
theorem xor_lt8 {a b : Nat} (ha : a < 256) (hb : b < 256) : a ^^^ b < 256 := Nat.xor_lt_two_pow (n := 8) ha hb
theorem withG_byt {l w : List Nat} (h : Byt l) (hw : Byt w) (r : Nat) : Byt (withG l w r) := byt_range fun _ => xor_lt8 (h.at_ _) (hw.at_ _)
theorem rowsG_byt {l : List Nat} (h : Byt l) (t : Nat) : Byt (rowsG l t) := byt_range fun _ => h.at_ _
theorem colTo_lt {l m : List Nat} (hm : Byt m) (i : Nat) : ∀ k, colTo l m i k < 256
 | 0 => by simp [colTo]
 | k + 1 => xor_lt8 (colTo_lt hm i k) (mulG_lt _ _ (hm.at_ _))
theorem columnsG_byt {l m : List Nat} (hm : Byt m) : Byt (columnsG l m) := byt_range fun i => colTo_lt hm i 4
theorem box_byt {l : List Nat} (h : Byt l) : Byt (l.map boxG) := by
 intro c hc; obtain ⟨x, hx, rfl⟩ := List.mem_map.1 hc; exact boxG_lt x (h x hx)
theorem unbox_byt {l : List Nat} (h : Byt l) : Byt (l.map unboxG) := by
 intro c hc; obtain ⟨x, hx, rfl⟩ := List.mem_map.1 hc; exact unboxG_lt x (h x hx)
theorem mE_byt : Byt mE := by unfold Byt mE; decide
theorem mD_byt : Byt mD := by unfold Byt mD; decide

theorem with_with {l w : List Nat} (h : l.length = 16) (r : Nat) : withG (withG l w r) w r = l := by
 refine list_ext16 (withG_len _ _ _) h fun i hi => ?_
 unfold withG
 rw [rangeD _ _ _ hi, rangeD _ _ _ hi, Nat.xor_assoc, Nat.xor_self, Nat.xor_zero]
theorem rows_rows {l : List Nat} (h : l.length = 16) : rowsG (rowsG l 1) 3 = l := by
 refine list_ext16 (rowsG_len _ _) h fun i hi => ?_; have hk : ∀ i < 16, (((i + 4 * (i % 4) * 3) % 16) + 4 * (((i + 4 * (i % 4) * 3) % 16) % 4) * 1) % 16 = i := by decide
 unfold rowsG
 rw [rangeD _ _ _ hi, rangeD _ _ _ (Nat.mod_lt _ (by omega)), hk i hi]
theorem unboxes {l : List Nat} (h : Byt l) : (l.map boxG).map unboxG = l := by
 rw [List.map_map]
 conv => rhs; rw [← List.map_id l]
 apply List.map_congr_left
 intro c hc; exact unbox_box c (h c hc)

theorem co0 : ∀ x < 256, mulG 14 (mulG 2 x) ^^^ mulG 11 (mulG 1 x) ^^^ mulG 13 (mulG 1 x) ^^^ mulG 9 (mulG 3 x) = x := by decide +kernel
theorem co1 : ∀ x < 256, mulG 14 (mulG 3 x) ^^^ mulG 11 (mulG 2 x) ^^^ mulG 13 (mulG 1 x) ^^^ mulG 9 (mulG 1 x) = 0 := by decide +kernel
theorem co2 : ∀ x < 256, mulG 14 (mulG 1 x) ^^^ mulG 11 (mulG 3 x) ^^^ mulG 13 (mulG 2 x) ^^^ mulG 9 (mulG 1 x) = 0 := by decide +kernel
theorem co3 : ∀ x < 256, mulG 14 (mulG 1 x) ^^^ mulG 11 (mulG 1 x) ^^^ mulG 13 (mulG 3 x) ^^^ mulG 9 (mulG 2 x) = 0 := by decide +kernel
/-- four columns' bytes: multiplied and back -/
theorem col_back (x0 x1 x2 x3 : Nat) (h0 : x0 < 256) (h1 : x1 < 256) (h2 : x2 < 256) (h3 : x3 < 256) :
    (((0 ^^^ mulG 14 ((((0 ^^^ mulG 2 x0) ^^^ mulG 3 x1) ^^^ mulG 1 x2) ^^^ mulG 1 x3)) ^^^ mulG 11 ((((0 ^^^ mulG 2 x1) ^^^ mulG 3 x2) ^^^ mulG 1 x3) ^^^ mulG 1 x0)) ^^^
     mulG 13 ((((0 ^^^ mulG 2 x2) ^^^ mulG 3 x3) ^^^ mulG 1 x0) ^^^ mulG 1 x1)) ^^^ mulG 9 ((((0 ^^^ mulG 2 x3) ^^^ mulG 3 x0) ^^^ mulG 1 x1) ^^^ mulG 1 x2) = x0 := by
 simp only [Nat.zero_xor, mulG_xor]
 have c0 := co0 x0 h0; have c1 := co1 x1 h1; have c2 := co2 x2 h2; have c3 := co3 x3 h3
 have e : ∀ a0 a1 a2 a3 b0 b1 b2 b3 d0 d1 d2 d3 f0 f1 f2 f3 : Nat,
     (((a0 ^^^ a1) ^^^ a2) ^^^ a3) ^^^ (((b1 ^^^ b2) ^^^ b3) ^^^ b0) ^^^ (((d2 ^^^ d3) ^^^ d0) ^^^ d1) ^^^ (((f3 ^^^ f0) ^^^ f1) ^^^ f2) =
     (a0 ^^^ b0 ^^^ d0 ^^^ f0) ^^^ (a1 ^^^ b1 ^^^ d1 ^^^ f1) ^^^ (a2 ^^^ b2 ^^^ d2 ^^^ f2) ^^^ (a3 ^^^ b3 ^^^ d3 ^^^ f3) := by
  intros
  ac_rfl
 rw [e, c0, c1, c2, c3]
 simp
theorem colTo_four (l m : List Nat) (i : Nat) : colTo l m i 4 = (((0 ^^^ mulG (m.getD 0 0) (l.getD (i / 4 * 4 + (i % 4 + 0) % 4) 0)) ^^^ mulG (m.getD 1 0) (l.getD (i / 4 * 4 + (i % 4 + 1) % 4) 0)) ^^^ mulG (m.getD 2 0) (l.getD (i / 4 * 4 + (i % 4 + 2) % 4) 0)) ^^^ mulG (m.getD 3 0) (l.getD (i / 4 * 4 + (i % 4 + 3) % 4) 0) := rfl
theorem col_col {l : List Nat} (h : l.length = 16) (hb : Byt l) : columnsG (columnsG l mE) mD = l := by
 refine list_ext16 (columnsG_len _ _) h fun i hi => ?_
 have hin : ∀ k, (columnsG l mE).getD (i / 4 * 4 + (i % 4 + k) % 4) 0 = colTo l mE (i / 4 * 4 + (i % 4 + k) % 4) 4 := fun k => by
  unfold columnsG
  rw [rangeD _ _ _ (by omega)]
 have hix : ∀ k j, l.getD ((i / 4 * 4 + (i % 4 + k) % 4) / 4 * 4 + ((i / 4 * 4 + (i % 4 + k) % 4) % 4 + j) % 4) 0 = l.getD (i / 4 * 4 + (i % 4 + (k + j) % 4) % 4) 0 := fun k j => by
  congr 1
  omega
 have h0 : i / 4 * 4 + (i % 4 + 0) % 4 = i := by omega
 have hout : (columnsG (columnsG l mE) mD).getD i 0 = colTo (columnsG l mE) mD i 4 := rangeD (fun i => colTo (columnsG l mE) mD i 4) 16 i hi; rw [hout, colTo_four, hin, hin, hin, hin, colTo_four, colTo_four, colTo_four, colTo_four]; simp only [hix]
 have := col_back (l.getD (i / 4 * 4 + (i % 4 + 0) % 4) 0) (l.getD (i / 4 * 4 + (i % 4 + 1) % 4) 0) (l.getD (i / 4 * 4 + (i % 4 + 2) % 4) 0) (l.getD (i / 4 * 4 + (i % 4 + 3) % 4) 0) (hb.at_ _) (hb.at_ _) (hb.at_ _) (hb.at_ _); rw [h0] at this; rw [h0]; exact this

theorem encTo_ok {b w : List Nat} (hb : Byt b) (hw : Byt w) (n : Nat) : ∀ r, (encTo b w n r).length = 16 ∧ Byt (encTo b w n r)
 | 0 => ⟨withG_len _ _ _, withG_byt hb hw 0⟩
 | r + 1 => by
  have ih := encTo_ok hb hw n r; refine ⟨withG_len _ _ _, ?_⟩
  unfold encTo
  refine withG_byt ?_ hw _
  split
  ·
   exact columnsG_byt mE_byt
  ·
   exact rowsG_byt (box_byt ih.2) 1
theorem decTo_enc {b w : List Nat} (hb : Byt b) (hw : Byt w) (n : Nat) : ∀ k, k ≤ n → decTo (encG b w n) w n k = encTo b w n (n - k)
 | 0, _ => rfl
 | k + 1, h => by
  have ih := decTo_enc hb hw n k (by omega); obtain ⟨r, hr⟩ : ∃ r, n - k = r + 1 := ⟨n - k - 1, by omega⟩; have hr2 : n - (k + 1) = r := by omega
  obtain ⟨el, eb⟩ := encTo_ok hb hw n r
  unfold decTo
  rw [ih, hr, hr2]; have hE : encTo b w n (r + 1) = withG (if r + 1 < n then columnsG (rowsG ((encTo b w n r).map boxG) 1) mE else rowsG ((encTo b w n r).map boxG) 1) w (r + 1) := rfl; rw [hE]; have hml : ((encTo b w n r).map boxG).length = 16 := by rw [List.length_map, el]
  by_cases hlt : r + 1 < n
  ·
   rw [if_pos hlt, if_pos hlt, with_with (columnsG_len _ _), col_col (rowsG_len _ _) (rowsG_byt (box_byt eb) 1), rows_rows hml, unboxes eb]
  ·
   rw [if_neg hlt, if_neg hlt, with_with (rowsG_len _ _), rows_rows hml, unboxes eb]
/-- what is enciphered is deciphered as it was -/
theorem dec_enc {b w : List Nat} (hl : b.length = 16) (hb : Byt b) (hw : Byt w) (n : Nat) : decG (encG b w n) w n = b := by
 unfold decG
 rw [decTo_enc hb hw n n (Nat.le_refl _), Nat.sub_self]; exact with_with hl 0
theorem encG_len (b w : List Nat) (n : Nat) : (encG b w n).length = 16 := by
 unfold encG
 cases n with
 | zero => exact withG_len _ _ _
 | succ n => exact withG_len _ _ _
theorem encG_byt {b w : List Nat} (hb : Byt b) (hw : Byt w) (n : Nat) : Byt (encG b w n) := (encTo_ok hb hw n n).2
theorem decG_len (b w : List Nat) (n : Nat) : (decG b w n).length = 16 := withG_len _ _ _
end Go.Proofs.YtfkjkkjimdilcaaGreatDoor.Pr
