/- Pure: the reference's block on lists of bits is the program's. -/
import Derived.Test.YtnkgglmfoimbhaaGreatDoorPureF
import Derived.Test.YtnkgglmfoimbhaaGreatDoorRef3A
namespace Go.Proofs.YtnkgglmfoimbhaaGreatDoor
open Go
namespace Pr

theorem bitsL_eq (l : List Nat) : bitsL l = bitsB l := rfl

def bytesR (l : List Nat) : List Nat := (List.range (l.length / 8)).map fun i => ((l.drop (8 * i)).take 8).foldl (fun a b => 2 * a + b) 0
theorem fold8 : ∀ y < 256, (bitsW 8 y).foldl (fun a b => 2 * a + b) 0 = y := by decide +kernel
theorem sub8 (x i : Nat) (hi : i < 8) : ((bitsW 64 x).drop (8 * i)).take 8 = bitsW 8 (x / 2 ^ (56 - 8 * i) % 256) := by
  apply List.ext_getElem
  · simp [bitsW_len]; omega
  · intro j h1 h2
    rw [bitsW_len] at h2
    rw [List.getElem_take, List.getElem_drop, bitsW_get _ _ _ (by omega), bitsW_get _ _ _ h2]
    rw [show 64 - 1 - (8 * i + j) = (56 - 8 * i) + (7 - j) by omega, Nat.pow_add, ← Nat.div_div_eq_div_mul]
    generalize x / 2 ^ (56 - 8 * i) = y
    rcases (by omega : j = 0 ∨ j = 1 ∨ j = 2 ∨ j = 3 ∨ j = 4 ∨ j = 5 ∨ j = 6 ∨ j = 7) with rfl | rfl | rfl | rfl | rfl | rfl | rfl | rfl <;> simp <;> omega
theorem bytesR_bits (x : Nat) : bytesR (bitsW 64 x) = bytes8 x := by
  unfold bytesR bytes8
  rw [bitsW_len]
  apply List.map_congr_left
  intro i hi
  rw [List.mem_range] at hi
  rw [sub8 x i (by omega), fold8 _ (Nat.mod_lt _ (by omega))]

def unR (both : List Nat) : Nat → List Nat
  | 0 => List.replicate 64 0
  | n + 1 => (unR both n).set (psIP.getD n 0 - 1) (both.getD n 0)
theorem unR_len (both : List Nat) : ∀ n, (unR both n).length = 64
  | 0 => by simp [unR]
  | n + 1 => by rw [unR, List.length_set, unR_len both n]
theorem unR_lt (both : List Nat) (h : ∀ b ∈ both, b < 2) : ∀ n, ∀ b ∈ unR both n, b < 2
  | 0 => by intro b hb; simp [unR] at hb; omega
  | n + 1 => by
    intro b hb
    rw [unR] at hb
    rcases List.mem_or_eq_of_mem_set hb with hb | rfl
    · exact unR_lt both h n b hb
    · rw [List.getD_eq_getElem?_getD]
      rcases hq : both[n]? with _ | c
      · simp
      · exact h c (List.mem_of_getElem? hq)
theorem psIP_inj : ∀ j < 64, ∀ n < 64, psIP.getD j 0 - 1 = psIP.getD n 0 - 1 → j = n := by decide +kernel
theorem unR_at (both : List Nat) : ∀ n, n ≤ 64 → ∀ j, j < n → (unR both n).getD (psIP.getD j 0 - 1) 0 = both.getD j 0
  | 0, _, j, h => by omega
  | n + 1, hn, j, h => by
    rw [unR, List.getD_eq_getElem?_getD, List.getElem?_set]
    by_cases e : j = n
    · subst e
      rw [if_pos rfl, if_pos (by rw [unR_len]; have := psIP_ok j (by omega); omega)]; rfl
    · rw [if_neg (fun h' => e (psIP_inj j (by omega) n (by omega) h'.symm)), ← List.getD_eq_getElem?_getD]
      exact unR_at both n (by omega) j (by omega)
theorem bit_tb {x k : Nat} {y m : Nat} (h : x.testBit k = y.testBit m) : x / 2 ^ k % 2 = y / 2 ^ m % 2 := by
  rw [Nat.testBit_eq_decide_div_mod_eq, Nat.testBit_eq_decide_div_mod_eq] at h
  have h1 : x / 2 ^ k % 2 < 2 := Nat.mod_lt _ (by omega)
  have h2 : y / 2 ^ m % 2 < 2 := Nat.mod_lt _ (by omega)
  have h3 : (x / 2 ^ k % 2 = 1) ↔ (y / 2 ^ m % 2 = 1) := by
    rw [← decide_eq_true_eq (p := x / 2 ^ k % 2 = 1), h, decide_eq_true_eq]
  generalize x / 2 ^ k % 2 = a at *
  generalize y / 2 ^ m % 2 = b at *
  omega
theorem unR_bits (X : Nat) : unR (bitsW 64 X) 64 = bitsW 64 (unpN X psIP 64) := by
  apply List.ext_getElem
  · rw [unR_len, bitsW_len]
  · intro i h1 h2
    rw [bitsW_len] at h2
    obtain ⟨j1, j2⟩ := invIP_ok (63 - i) (by omega)
    have j3 := of_decide_eq_true ((j2 _ j1).2 rfl)
    obtain ⟨p1, p2⟩ := psIP_ok _ j1
    have hp : psIP.getD (invIP (63 - i)) 0 - 1 = i := by omega
    have h3 := unR_at (bitsW 64 X) 64 (Nat.le_refl _) _ j1
    rw [hp, getD_of _ _ h1, bitsW_getD _ _ _ j1] at h3
    rw [h3, bitsW_get _ _ _ h2]
    exact (bit_tb (by rw [show 64 - 1 - i = 63 - i by omega, unp_bit X (63 - i) (by omega)])).symm

/-- a round's key, counted as the reference takes them -/
def pickR (key : List Nat) (back : Bool) (r : Nat) : List Nat := keyR key (if back then 15 - r else r)
def blockR (key b : List Nat) (back : Bool) : List Nat :=
  let p := ladderR (pickR key back) ((permR (bitsB b) psIP).take 32) ((permR (bitsB b) psIP).drop 32) 16
  bytesR (unR (p.2 ++ p.1) 64)
theorem range_getD (f : Nat → Nat) (n i : Nat) (h : i < n) : ((List.range n).map f).getD i 0 = f i := by
  rw [List.getD_eq_getElem?_getD, List.getElem?_map, List.getElem?_range h, Option.map_some, Option.getD_some]
theorem roundsN_get (k : List Nat) (i : Nat) (hi : i < 16) : (roundsN k).getD i 0 = keyN k i := range_getD (keyN k) 16 i hi
theorem blockR_eq (k b : List Nat) (back : Bool) (hk : k.length = 8) (gk : ∀ c ∈ k, c < 256) (hb : b.length = 8) (gb : ∀ c ∈ b, c < 256) : blockR k b back = blockN k b back := by
  have hx := permN_lt (be8 b) 64 psIP
  have h1 : permR (bitsB b) psIP = bitsW 64 (permN (be8 b) 64 psIP) := by
    rw [bitsB_be8 b gb, hb]
    exact permR_bits (be8 b) 64 psIP (by decide)
  simp only [blockR, blockN]
  rw [h1]
  generalize permN (be8 b) 64 psIP = x at *
  have hx' : x < 18446744073709551616 := hx
  have h2 : bitsW 64 x = bitsW 32 (x / 4294967296) ++ bitsW 32 (x % 4294967296) := by
    have := bitsW_cat 32 32 (x / 4294967296) (x % 4294967296) (Nat.mod_lt _ (by decide))
    rw [show x / 4294967296 * 2 ^ 32 + x % 4294967296 = x by omega] at this
    exact this
  rw [h2, List.take_left' (bitsW_len _ _), List.drop_left' (bitsW_len _ _)]
  have h3 := ladderR_bits (roundsN k) back x hx' (pickR k back) (fun r hr => by
    unfold pickR
    rw [keyR_bits k hk gk, roundsN_get k _ (by cases back <;> simp <;> omega)]) 16 (Nat.le_refl _)
  rw [h3]
  have hl := ladderN_lt (roundsN k) back x hx' 16
  have h4 := bitsW_cat 32 32 (ladderN (roundsN k) back x 16).2 (ladderN (roundsN k) back x 16).1 hl.1
  generalize ladderN (roundsN k) back x 16 = q at *
  simp only
  rw [← h4]
  simp only [Nat.reduceAdd, Nat.reducePow]
  rw [unR_bits, bytesR_bits]
end Pr
end Go.Proofs.YtnkgglmfoimbhaaGreatDoor
