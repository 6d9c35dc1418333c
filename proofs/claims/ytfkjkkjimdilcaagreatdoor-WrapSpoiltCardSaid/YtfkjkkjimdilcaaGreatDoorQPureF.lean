/- Pure: a block that was enciphered is deciphered to what it was; the way back through the table of places. -/
import Derived.Test.YtfkjkkjimdilcaaGreatDoorQPureAll
import Derived.Test.YtfkjkkjimdilcaaGreatDoorQDesGH
namespace Go.Proofs.YtfkjkkjimdilcaaGreatDoor
open Go
namespace Pr

theorem any_one {n : Nat} {p f : Nat → Bool} (j0 : Nat) (h0 : j0 < n) (hp : ∀ j, j < n → (p j = true ↔ j = j0)) : (List.range n).any (fun j => p j && f j) = f j0 := by
 rw [Bool.eq_iff_iff, List.any_eq_true]
 constructor
 ·
  rintro ⟨j, hj, h⟩; rw [List.mem_range] at hj; rw [Bool.and_eq_true] at h; rw [← (hp j hj).1 h.1]; exact h.2
 ·
  intro h; exact ⟨j0, List.mem_range.2 h0, by rw [(hp j0 h0).2 rfl, h]; rfl⟩
theorem bit_mul (c s m : Nat) (hc : c < 2) : (c * 2 ^ s).testBit m = (decide (m = s) && c.testBit 0) := by
 rcases (by omega : c = 0 ∨ c = 1) with rfl | rfl
 ·
  simp
 ·
  rw [Nat.one_mul, Nat.testBit_two_pow]
  simp [eq_comm]
theorem bit_of (x k : Nat) : (x / 2 ^ k % 2).testBit 0 = x.testBit k := by
 rw [Nat.testBit_eq_decide_div_mod_eq, Nat.testBit_eq_decide_div_mod_eq]; simp
theorem unpN_bit (x : Nat) (ps : List Nat) (m : Nat) : ∀ n, (unpN x ps n).testBit m = (List.range n).any fun j => decide (m = 64 - ps.getD j 0) && x.testBit (63 - j)
 | 0 => by simp [unpN]
 | n + 1 => by
  rw [unpN, Nat.testBit_or, unpN_bit x ps m n, bit_mul _ _ _ (Nat.mod_lt _ (by omega)), List.range_succ, List.any_append, List.any_cons, List.any_nil, Bool.or_false, bit_of]
def invIP (m : Nat) : Nat := psIP.idxOf (64 - m)
theorem invIP_ok : ∀ m < 64, invIP m < 64 ∧ ∀ j < 64, (decide (m = 64 - psIP.getD j 0) = true ↔ j = invIP m) := by decide +kernel
theorem unp_bit (x m : Nat) (hm : m < 64) : (unpN x psIP 64).testBit m = x.testBit (63 - invIP m) := by
 obtain ⟨h1, h2⟩ := invIP_ok m hm; rw [unpN_bit]; exact any_one (f := fun j => x.testBit (63 - j)) (invIP m) h1 h2
theorem psIP_ok : ∀ i < 64, 1 ≤ psIP.getD i 0 ∧ psIP.getD i 0 ≤ 64 := by decide +kernel
theorem perm_bit (x i : Nat) (hi : i < 64) : (permN x 64 psIP).testBit (63 - i) = x.testBit (64 - psIP.getD i 0) := by
 have h := permR_bits x 64 psIP (by decide); have h1 := bitsW_getD 64 (permN x 64 psIP) i hi; rw [← show bitsW psIP.length (permN x 64 psIP) = bitsW 64 (permN x 64 psIP) from rfl, ← h] at h1; obtain ⟨p1, p2⟩ := psIP_ok i hi
 have h2 : (permR (bitsW 64 x) psIP).getD i 0 = (bitsW 64 x).getD (psIP.getD i 0 - 1) 0 := by
  unfold permR
  rw [List.getD_eq_getElem?_getD, List.getElem?_map, List.getElem?_eq_getElem (show i < psIP.length from hi), Option.map_some, Option.getD_some, getD_of psIP i hi]
  rfl
 rw [h2, bitsW_getD 64 x _ (by omega)] at h1; rw [Nat.testBit_eq_decide_div_mod_eq, Nat.testBit_eq_decide_div_mod_eq, show 63 - i = 64 - 1 - i by omega, ← h1, show 64 - 1 - (psIP.getD i 0 - 1) = 64 - psIP.getD i 0 by omega]
theorem eq_bits {x y : Nat} (hx : x < 2 ^ 64) (hy : y < 2 ^ 64) (h : ∀ m, m < 64 → x.testBit m = y.testBit m) : x = y := by
 apply Nat.eq_of_testBit_eq
 intro m
 by_cases hm : m < 64
 ·
  exact h m hm
 ·
  have e : 2 ^ 64 ≤ 2 ^ m := Nat.pow_le_pow_right (by omega) (by omega); rw [Nat.testBit_lt_two_pow (by omega), Nat.testBit_lt_two_pow (by omega)]
theorem unp_perm (x : Nat) (hx : x < 2 ^ 64) : unpN (permN x 64 psIP) psIP 64 = x := by
 refine eq_bits (unpN_lt _ _ tab_ip 64 lr) hx fun m hm => ?_; obtain ⟨h1, h2⟩ := invIP_ok m hm; have h3 := of_decide_eq_true ((h2 _ h1).2 rfl); rw [unp_bit _ _ hm, perm_bit _ _ h1, ← h3]
theorem perm_unp (x : Nat) (hx : x < 2 ^ 64) : permN (unpN x psIP 64) 64 psIP = x := by
 refine eq_bits (permN_lt _ _ psIP) hx fun m hm => ?_; have e : m = 63 - (63 - m) := by omega
 obtain ⟨p1, p2⟩ := psIP_ok (63 - m) (by omega); rw [e, perm_bit _ _ (by omega), unp_bit _ _ (by omega), ← ((invIP_ok (64 - psIP.getD (63 - m) 0) (by omega)).2 (63 - m) (by omega)).1 (by simp)]
theorem be8_bytes8 (x : Nat) (hx : x < 2 ^ 64) : be8 (bytes8 x) = x := by
 simp only [be8, bytes8, List.range, List.range.loop, List.map_cons, List.map_nil, List.foldl_cons, List.foldl_nil]
 omega
theorem bytes8_be8 (l : List Nat) (hl : l.length = 8) (h : ∀ c ∈ l, c < 256) : bytes8 (be8 l) = l := by
 match l, hl with
 | [a, b, c, d, e, f, g, i], _ =>
  simp only [List.mem_cons, List.not_mem_nil, or_false, forall_eq_or_imp, forall_eq] at h
  obtain ⟨h1, h2, h3, h4, h5, h6, h7, h8⟩ := h; simp only [be8, bytes8, List.range, List.range.loop, List.map_cons, List.map_nil, List.foldl_cons, List.foldl_nil, List.cons.injEq, and_true]
  refine ⟨?_, ?_, ?_, ?_, ?_, ?_, ?_, ?_⟩ <;> omega
theorem ladder_back (ks : List Nat) (back : Bool) (x y : Nat) (hx : x < 2 ^ 64) (hy : y = (ladderN ks back x 16).2 * 4294967296 + (ladderN ks back x 16).1) :
    ∀ r, r ≤ 16 → ladderN ks (!back) y r = ((ladderN ks back x (16 - r)).2, (ladderN ks back x (16 - r)).1)
 | 0, _ => by
  have h := ladderN_lt ks back x hx 16; rw [ladderN, hy]; simp only [Nat.sub_zero, Prod.mk.injEq]
  constructor <;> omega
 | r + 1, hr => by
  have ih := ladder_back ks back x y hx hy r (by omega); obtain ⟨s, hs⟩ : ∃ s, 16 - (r + 1) = s := ⟨_, rfl⟩; rw [show 16 - r = s + 1 by omega] at ih; rw [hs, ladderN, ih]; simp only [ladderN]
  have hk : (if (!back) = true then 15 - r else r) = (if back = true then 15 - s else s) := by cases back <;> simp <;> omega
  rw [hk, Nat.xor_assoc, Nat.xor_self, Nat.xor_zero]
theorem block_back (k b : List Nat) (back : Bool) (hl : b.length = 8) (hb : ∀ c ∈ b, c < 256) : blockN k (blockN k b back) (!back) = b := by
 have h8 := be8_lt8 hl hb; have hx := permN_lt (be8 b) 64 psIP; obtain ⟨x, hxd⟩ : ∃ x, permN (be8 b) 64 psIP = x := ⟨_, rfl⟩; have h1 : blockN k b back = bytes8 (unpN ((ladderN (roundsN k) back x 16).2 * 4294967296 + (ladderN (roundsN k) back x 16).1) psIP 64) := by simp only [blockN, hxd]
 rw [hxd] at hx; obtain ⟨y, hy⟩ : ∃ y, (ladderN (roundsN k) back x 16).2 * 4294967296 + (ladderN (roundsN k) back x 16).1 = y := ⟨_, rfl⟩; have hl16 := ladderN_lt (roundsN k) back x hx 16; have hyl : y < 2 ^ 64 := by omega
 rw [h1, hy]; have hz := be8_bytes8 (unpN y psIP 64) (unpN_lt _ _ tab_ip 64 lr); generalize bytes8 (unpN y psIP 64) = z at *; simp only [blockN]
 rw [hz, perm_unp _ hyl, ladder_back _ _ _ _ hx hy.symm 16 lr]; simp only [Nat.sub_self, ladderN]
 rw [Nat.div_add_mod' x 4294967296, ← hxd, unp_perm _ h8, bytes8_be8 _ hl hb]
end Pr
open Pr
end Go.Proofs.YtfkjkkjimdilcaaGreatDoor
