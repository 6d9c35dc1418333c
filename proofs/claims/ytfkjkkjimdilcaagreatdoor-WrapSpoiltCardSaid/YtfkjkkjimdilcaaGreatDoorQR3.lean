/- The contract of lockboxref03.Bits. Pure: the reference's block on lists of bits is the program's. The contracts of lockboxref03.place, permute, digit, Bytes. The contract of lockboxref03.Bytes; an append alone. The contract of lockboxref03.Keys. The contract of lockboxref03.mix. The contract of lockboxref03.Keys: the walk. (Printed by wip/gen_keys.py.) The contracts of lockboxref03.Block, Triple. -/
import Derived.Test.YtfkjkkjimdilcaaGreatDoorQNums
import Derived.Test.YtfkjkkjimdilcaaGreatDoorQEqual
import Derived.Test.YtfkjkkjimdilcaaGreatDoorQPureF
import Derived.Test.YtfkjkkjimdilcaaGreatDoorQKit
import Derived.Test.YtfkjkkjimdilcaaGreatDoorQConv
set_option maxHeartbeats 8000000
set_option maxRecDepth 100000
/- The contract of lockboxref03.Bits. -/
namespace Go.Proofs.YtfkjkkjimdilcaaGreatDoor
open Go Go.RowKit Pr

/-- a byte's bits, the highest first -/
def bits8 (c : Nat) : List Nat := (List.range 8).map fun k => c / 2 ^ (7 - k) % 2
def bitsL (l : List Nat) : List Nat := l.flatMap bits8
theorem bits8_len (c : Nat) : (bits8 c).length = 8 := by simp [bits8]
theorem bitsL_len (l : List Nat) : (bitsL l).length = 8 * l.length := by
 induction l with
 | nil => rfl
 | cons c l ih => rw [bitsL, List.flatMap_cons, List.length_append, bits8_len]; show 8 + (bitsL l).length = _; rw [ih, List.length_cons]; omega
theorem bitsL_snoc (l : List Nat) (c : Nat) : bitsL (l ++ [c]) = bitsL l ++ bits8 c := by simp [bitsL]
theorem bits8_take (c j : Nat) (hj : j < 8) : (bits8 c).take (j + 1) = (bits8 c).take j ++ [c / 2 ^ (7 - j) % 2] := by
 rw [List.take_succ_eq_append_getElem (by rw [bits8_len]; exact hj)]
 simp [bits8]
theorem bits8_lt (c : Nat) : ∀ b ∈ bits8 c, b < 2 := by
 intro b hb; simp only [bits8, List.mem_map] at hb
 obtain ⟨k, _, rfl⟩ := hb; exact Nat.mod_lt _ (by omega)
theorem bitsL_lt (l : List Nat) : ∀ b ∈ bitsL l, b < 2 := by
 intro b hb; simp only [bitsL, List.mem_flatMap] at hb
 obtain ⟨c, _, hb⟩ := hb; exact bits8_lt c b hb

theorem and_one (c m : Nat) (hc : c < 256) : bits .and .i64 ((c : Int) / 2 ^ m) 1 = ((c / 2 ^ m % 2 : Nat) : Int) := by
 have h : ∀ x : Nat, x < 256 → bits .and .i64 (x : Int) 1 = ((x % 2 : Nat) : Int) := by decide +kernel
 have e : (c : Int) / 2 ^ m = ((c / 2 ^ m : Nat) : Int) := by simp
 rw [e]; exact h _ (Nat.lt_of_le_of_lt (Nat.div_le_self _ _) hc)

theorem bits_any (l : List Nat) (hl : ∀ c ∈ l, c < 256) (hlen : l.length ≤ 1000) (A : Option Addr) (cp : Nat) (w : World) (hA : At w A l) :
    Calls Tryz.prog 100 #[.slice A l.length cp] w fun e w' => (∃ v, e = .returned v ∧ OwnN 3 .i64 w' w.heap.size v (bitsL l)) ∧ Below w.heap.size w w' := by
 obtain ⟨n, hn⟩ : ∃ n, l.length = n := ⟨_, rfl⟩; rw [hn] at hlen ⊢; have HN := Hh hn; clear hn; have HLT := Hh hl; clear hl; have HA := Hh hA; clear hA
 go_enter Tryz.func100, Tryz.ntmps100
 go_wp2
 go_loopw [3, 4] (fun v i wr => ∃ k : Nat, k ≤ n ∧ i = .int .i64 k ∧ OwnN 3 .i64 wr w.heap.size v (bitsL (l.take k)) ∧ Below w.heap.size w wr ∧ w.heap.size ≤ wr.heap.size) (fun _ i _ => n - (intOf i).toNat)
 case atStart => exact ⟨0, by omega, rfl, OwnN.nil _ _ _ _, Below.refl _ _, Nat.le_refl _⟩
 case round =>
  obtain ⟨k, hk, rfl, hown, hbel, hsz⟩ := hrel
  rename_i v3
  by_cases hlt : k < n
  ·
   have hkl : k < l.length := by rw [HN.out]; exact hlt
   obtain ⟨b, o, rfl, hBs⟩ := HA.out (by intro h; rw [h] at hkl; cases hkl); have hblt := hBs.lt (by intro h; rw [h] at hkl; cases hkl); have hcell : ∀ W, Below w.heap.size w W → W.cell? ⟨b, o + k, none⟩ = some (.int .u8 (l[k] : Nat)) := fun W hW => (hBs.below hW hblt).cell k hkl; have hc := HLT.out l[k] (List.getElem_mem _); have hstep : bitsL (l.take (k + 1)) = bitsL (l.take k) ++ bits8 l[k] := by rw [List.take_succ_eq_append_getElem hkl, bitsL_snoc]
   have hll : (bitsL (l.take k)).length ≤ 8 * n := by rw [bitsL_len, List.length_take]; omega
   generalize l[k] = c at *; have HST := Hh hstep; clear hstep; have HCELL := Hh hcell; clear hcell; go_wp2
   go_loopw [3, 5] (fun v i wr2 => ∃ j : Nat, j ≤ 8 ∧ i = .int .i64 (7 - (j : Int)) ∧ OwnN 3 .i64 wr2 w.heap.size v (bitsL (l.take k) ++ (bits8 c).take j) ∧ Below w.heap.size w wr2 ∧ w.heap.size ≤ wr2.heap.size) (fun _ i _ => (intOf i + 1).toNat)
   case atStart => exact ⟨0, by omega, rfl, by simpa using hown, hbel, hsz⟩
   case round =>
    obtain ⟨j, hj, rfl, hown2, hbel2, hsz2⟩ := hrel
    rename_i v4
    by_cases hj8 : j < 8
    ·
     have hc1 := HCELL.out _ hbel2; have hst := bits8_take c j hj8; have h0 : (0 : Int) ≤ 7 - (j : Int) := by omega
     have hv := and_one c (7 - j) hc; generalize hd : c / 2 ^ (7 - j) % 2 = d at *; have HD := Hh hd; clear hd; have HST2 := Hh hst; clear hst; have hl3 : (bitsL (l.take k) ++ (bits8 c).take j).length ≤ 8 * n + 8 := by rw [List.length_append, List.length_take, bits8_len]; omega
     obtain ⟨L, hL⟩ : ∃ L, bitsL (l.take k) ++ (bits8 c).take j = L := ⟨_, rfl⟩; rw [hL] at hown2 hl3; have HL := Hh hL; clear hL; go_wp2_with (at_builtin; refine wpList_append_nums rfl (.tmp 16) (.tmp 26) 28 rfl .i64 3 8 Tryz.underlying28 info_int w.heap.size w _ L rfl (OwnN.below hown2 ((Below.refl wr.heap.size wr).alloc lr _) lr) (hbel2.alloc hsz2 _) (by simp; omega) _ 1 1 [d] rfl rfl ⟨_, _, rfl, Ns.new .i64 wr 3 d⟩ (by omega) (by omega) ?_; intro v5 w5 hown5 hbel5 hsz5)

     have hown6 : OwnN 3 .i64 w5 w.heap.size v5 (bitsL (l.take k) ++ (bits8 c).take (j + 1)) := by
      rw [HST2.out, ← List.append_assoc, HL.out]; exact hown5
     have hsz6 : w.heap.size ≤ w5.heap.size := hbel5.size; clear hown5; go_wp2
     go_roundw
     case rel => exact ⟨j + 1, by omega, by go_num, hown6, hbel5, hsz6⟩
     case measure => simp [intOf]; omega
    ·
     obtain rfl : j = 8 := by omega
     rw [show (bits8 c).take 8 = bits8 c from List.take_of_length_le (by rw [bits8_len]; exact Nat.le_refl _), ← HST.out] at hown2; go_wp2
     go_roundw
     case rel => exact ⟨k + 1, by omega, by go_num, hown2, hbel2, hsz2⟩
     case measure => simp [intOf]; omega
  ·
   have hfin : l.take k = l := List.take_of_length_le (by rw [HN.out]; omega); rw [hfin] at hown; clear hfin; go_wp2
   go_ret
   exact ⟨⟨_, rfl, hown⟩, hbel⟩
end Go.Proofs.YtfkjkkjimdilcaaGreatDoor

/- Pure: the reference's block on lists of bits is the program's. -/
namespace Go.Proofs.YtfkjkkjimdilcaaGreatDoor
open Go
namespace Pr

theorem bitsL_eq (l : List Nat) : bitsL l = bitsB l := rfl

def bytesR (l : List Nat) : List Nat := (List.range (l.length / 8)).map fun i => ((l.drop (8 * i)).take 8).foldl (fun a b => 2 * a + b) 0
theorem fold8 : ∀ y < 256, (bitsW 8 y).foldl (fun a b => 2 * a + b) 0 = y := by decide +kernel
theorem sub8 (x i : Nat) (hi : i < 8) : ((bitsW 64 x).drop (8 * i)).take 8 = bitsW 8 (x / 2 ^ (56 - 8 * i) % 256) := by
 apply List.ext_getElem
 ·
  simp [bitsW_len]; omega
 ·
  intro j h1 h2; rw [bitsW_len] at h2; rw [List.getElem_take, List.getElem_drop, bitsW_get _ _ _ (by omega), bitsW_get _ _ _ h2]; rw [show 64 - 1 - (8 * i + j) = (56 - 8 * i) + (7 - j) by omega, Nat.pow_add, ← Nat.div_div_eq_div_mul]; generalize x / 2 ^ (56 - 8 * i) = y
  rcases (by omega : j = 0 ∨ j = 1 ∨ j = 2 ∨ j = 3 ∨ j = 4 ∨ j = 5 ∨ j = 6 ∨ j = 7) with rfl | rfl | rfl | rfl | rfl | rfl | rfl | rfl <;> simp <;> omega
theorem bytesR_bits (x : Nat) : bytesR (bitsW 64 x) = bytes8 x := by
 unfold bytesR bytes8
 rw [bitsW_len]
 apply List.map_congr_left
 intro i hi; rw [List.mem_range] at hi; rw [sub8 x i (by omega), fold8 _ (Nat.mod_lt _ (by omega))]

def unR (both : List Nat) : Nat → List Nat
 | 0 => List.replicate 64 0
 | n + 1 => (unR both n).set (psIP.getD n 0 - 1) (both.getD n 0)
theorem unR_len (both : List Nat) : ∀ n, (unR both n).length = 64
 | 0 => by simp [unR]
 | n + 1 => by rw [unR, List.length_set, unR_len both n]
theorem unR_lt (both : List Nat) (h : ∀ b ∈ both, b < 2) : ∀ n, ∀ b ∈ unR both n, b < 2
 | 0 => by intro b hb; simp [unR] at hb; omega
 | n + 1 => by
  intro b hb; rw [unR] at hb
  rcases List.mem_or_eq_of_mem_set hb with hb | rfl
  ·
   exact unR_lt both h n b hb
  ·
   rw [List.getD_eq_getElem?_getD]
   rcases hq : both[n]? with _ | c
   ·
    simp
   ·
    exact h c (List.mem_of_getElem? hq)
theorem psIP_inj : ∀ j < 64, ∀ n < 64, psIP.getD j 0 - 1 = psIP.getD n 0 - 1 → j = n := by decide +kernel
theorem unR_at (both : List Nat) : ∀ n, n ≤ 64 → ∀ j, j < n → (unR both n).getD (psIP.getD j 0 - 1) 0 = both.getD j 0
 | 0, _, j, h => by omega
 | n + 1, hn, j, h => by
  rw [unR, List.getD_eq_getElem?_getD, List.getElem?_set]
  by_cases e : j = n
  ·
   subst e; rw [if_pos rfl, if_pos (by rw [unR_len]; have := psIP_ok j (by omega); omega)]; rfl
  ·
   rw [if_neg (fun h' => e (psIP_inj j (by omega) n (by omega) h'.symm)), ← List.getD_eq_getElem?_getD]; exact unR_at both n (by omega) j (by omega)
theorem bit_tb {x k : Nat} {y m : Nat} (h : x.testBit k = y.testBit m) : x / 2 ^ k % 2 = y / 2 ^ m % 2 := by
 rw [Nat.testBit_eq_decide_div_mod_eq, Nat.testBit_eq_decide_div_mod_eq] at h; have h1 : x / 2 ^ k % 2 < 2 := Nat.mod_lt _ (by omega); have h2 : y / 2 ^ m % 2 < 2 := Nat.mod_lt _ (by omega)
 have h3 : (x / 2 ^ k % 2 = 1) ↔ (y / 2 ^ m % 2 = 1) := by
  rw [← decide_eq_true_eq (p := x / 2 ^ k % 2 = 1), h, decide_eq_true_eq]
 generalize x / 2 ^ k % 2 = a at *; generalize y / 2 ^ m % 2 = b at *; omega
theorem unR_bits (X : Nat) : unR (bitsW 64 X) 64 = bitsW 64 (unpN X psIP 64) := by
 apply List.ext_getElem
 ·
  rw [unR_len, bitsW_len]
 ·
  intro i h1 h2; rw [bitsW_len] at h2; obtain ⟨j1, j2⟩ := invIP_ok (63 - i) (by omega); have j3 := of_decide_eq_true ((j2 _ j1).2 rfl); obtain ⟨p1, p2⟩ := psIP_ok _ j1; have hp : psIP.getD (invIP (63 - i)) 0 - 1 = i := by omega
  have h3 := unR_at (bitsW 64 X) 64 lr _ j1; rw [hp, getD_of _ _ h1, bitsW_getD _ _ _ j1] at h3; rw [h3, bitsW_get _ _ _ h2]; exact (bit_tb (by rw [show 64 - 1 - i = 63 - i by omega, unp_bit X (63 - i) (by omega)])).symm

/-- a round's key, counted as the reference takes them -/
def pickR (key : List Nat) (back : Bool) (r : Nat) : List Nat := keyR key (if back then 15 - r else r)
def blockR (key b : List Nat) (back : Bool) : List Nat :=
 let p := ladderR (pickR key back) ((permR (bitsB b) psIP).take 32) ((permR (bitsB b) psIP).drop 32) 16
 bytesR (unR (p.2 ++ p.1) 64)
theorem range_getD (f : Nat → Nat) (n i : Nat) (h : i < n) : ((List.range n).map f).getD i 0 = f i := by
 rw [List.getD_eq_getElem?_getD, List.getElem?_map, List.getElem?_range h, Option.map_some, Option.getD_some]
theorem roundsN_get (k : List Nat) (i : Nat) (hi : i < 16) : (roundsN k).getD i 0 = keyN k i := range_getD (keyN k) 16 i hi
theorem blockR_eq (k b : List Nat) (back : Bool) (hk : k.length = 8) (gk : ∀ c ∈ k, c < 256) (hb : b.length = 8) (gb : ∀ c ∈ b, c < 256) : blockR k b back = blockN k b back := by
 have hx := permN_lt (be8 b) 64 psIP
 have h1 : permR (bitsB b) psIP = bitsW 64 (permN (be8 b) 64 psIP) := by
  rw [bitsB_be8 b gb, hb]; exact permR_bits (be8 b) 64 psIP (by decide)
 simp only [blockR, blockN]
 rw [h1]; generalize permN (be8 b) 64 psIP = x at *; have hx' : x < 18446744073709551616 := hx
 have h2 : bitsW 64 x = bitsW 32 (x / 4294967296) ++ bitsW 32 (x % 4294967296) := by
  have := bitsW_cat 32 32 (x / 4294967296) (x % 4294967296) (Nat.mod_lt _ (by decide)); rw [show x / 4294967296 * 2 ^ 32 + x % 4294967296 = x by omega] at this; exact this
 rw [h2, List.take_left' (bitsW_len _ _), List.drop_left' (bitsW_len _ _)]
 have h3 := ladderR_bits (roundsN k) back x hx' (pickR k back) (fun r hr => by
  unfold pickR
  rw [keyR_bits k hk gk, roundsN_get k _ (by cases back <;> simp <;> omega)]) 16 lr
 rw [h3]; have hl := ladderN_lt (roundsN k) back x hx' 16; have h4 := bitsW_cat 32 32 (ladderN (roundsN k) back x 16).2 (ladderN (roundsN k) back x 16).1 hl.1; generalize ladderN (roundsN k) back x 16 = q at *
 simp only
 rw [← h4]; simp only [Nat.reduceAdd, Nat.reducePow]
 rw [unR_bits, bytesR_bits]
end Pr
end Go.Proofs.YtfkjkkjimdilcaaGreatDoor

/- The contracts of lockboxref03.place, permute, digit, Bytes. The contract of lockboxref03.Bytes; an append alone. The contract of lockboxref03.Keys. -/
/- The contracts of lockboxref03.place, permute, digit, Bytes. -/
namespace Go.Proofs.YtfkjkkjimdilcaaGreatDoor
open Go Go.RowKit Pr

theorem place3_any (tab : ByteArray) (size : Nat) (ps : List Nat) (ht : Tab tab size ps) (hsize : size ≤ 64) (j : Nat) (hj : j < ps.length) (w : World) :
    Calls Tryz.prog 148 #[.string tab, .int .i64 j] w fun e w' => e = .returned (.int .i64 (ps[j] : Nat)) ∧ ∃ n, w' = w.drewN n := by
 have hlen := ht.len; have hsh := ht.short; have hlt : 2 * j < tab.size := by omega
 obtain ⟨hj', hlt2, h1, h2, h3, h4⟩ := ht.at_ (k := 2 * j) rfl hlt; have i1 := index_str (P := Tryz.prog) 9 Tryz.underlying9 tab (2 * j) hlt (2 * (j : Int)) (by omega) _ h1; have i2 := index_str (P := Tryz.prog) 9 Tryz.underlying9 tab (2 * j + 1) hlt2 (2 * (j : Int) + 1) (by omega) _ h2; generalize hp : ps[j] = p at *; have Hp := Hh hp; clear hp; obtain ⟨a, ha⟩ : ∃ a, 48 + p / 10 = a := ⟨_, rfl⟩; obtain ⟨b, hb⟩ : ∃ b, 48 + p % 10 = b := ⟨_, rfl⟩; rw [ha] at i1; rw [hb] at i2; have : 48 ≤ a := by omega
 have : a ≤ 54 := by omega
 have : 48 ≤ b := by omega
 have : b ≤ 57 := by omega
 have hpp : (a - 48 : Int) * 10 + (b - 48) = p := by omega
 have hjb : j ≤ 64 := by omega
 clear h1 h2 hlen hsh hlt hlt2 ht; have Ha := Hh ha; clear ha; have Hb := Hh hb; clear hb; have Hpp := Hh hpp; clear hpp
 go_enter Tryz.func148, Tryz.ntmps148
 go_wp2
 go_quiet (fail)
 rw [Hpp.out]; go_wp2
 go_ret
 exact ⟨rfl, _, rfl⟩

theorem permR_snoc (l ps : List Nat) (p : Nat) : permR l (ps ++ [p]) = permR l ps ++ [l.getD (p - 1) 0] := by simp [permR]
theorem permR_len (l ps : List Nat) : (permR l ps).length = ps.length := by simp [permR]

theorem perm3_any (l : List Nat) (A : Option Addr) (cp : Nat) (tab : ByteArray) (size : Nat) (ps : List Nat) (ht : Tab tab size ps) (hsize : size ≤ 64) (hl : size ≤ l.length) (w : World) (hA : AtN .i64 w A l) :
    Calls Tryz.prog 146 #[.slice A l.length cp, .string tab] w fun e w' => (∃ v, e = .returned v ∧ OwnN 3 .i64 w' w.heap.size v (permR l ps)) ∧ Below w.heap.size w w' := by
 have hlen := ht.len; have hsh := ht.short; obtain ⟨m, hm⟩ : ∃ m, ps.length = m := ⟨_, rfl⟩; have hP := Hh (fun (j : Nat) (hj : j < ps.length) W => place3_any tab size ps ht hsize j hj W); have hrange := Hh (fun (j : Nat) (hj : j < ps.length) => (ht.dig j hj).2.2); rw [hm] at hlen hsh; have hdv : (tab.size : Int) / 2 = (m : Int) := by omega
 have HDV := Hh hdv; clear hdv; have HM := Hh hm; clear hm; have hts : tab.size ≤ 128 := by omega
 clear hlen ht; obtain ⟨n, hn⟩ : ∃ n, l.length = n := ⟨_, rfl⟩; rw [hn] at hl ⊢; have HN := Hh hn; clear hn; have HA := Hh hA; clear hA
 go_enter Tryz.func146, Tryz.ntmps146
 go_wp2
 go_loopw [5, 6] (fun v i wr => ∃ k : Nat, k ≤ m ∧ i = .int .i64 k ∧ OwnN 3 .i64 wr w.heap.size v (permR l (ps.take k)) ∧ Below w.heap.size w wr ∧ w.heap.size ≤ wr.heap.size) (fun _ i _ => m - (intOf i).toNat)
 case atStart => exact ⟨0, by omega, rfl, OwnN.nil _ _ _ _, Below.refl _ _, Nat.le_refl _⟩
 case round =>
  obtain ⟨k, hk, rfl, hown, hbel, hsz⟩ := hrel
  rename_i v3
  have hd := HDV.out
  by_cases hlt : k < m
  ·
   have hkl : k < ps.length := by rw [HM.out]; exact hlt
   obtain ⟨q1, q2⟩ := hrange.out k hkl; have hP1 := Hh (hP.out k hkl wr); have hstep : permR l (ps.take (k + 1)) = permR l (ps.take k) ++ [l.getD (ps[k] - 1) 0] := by rw [List.take_succ_eq_append_getElem hkl, permR_snoc]
   have hll : (permR l (ps.take k)).length ≤ 64 := by rw [permR_len, List.length_take]; omega
   generalize ps[k] = p at *; have hpl : p - 1 < l.length := by rw [HN.out]; omega
   obtain ⟨b, o, rfl, hNs⟩ := HA.out (by intro h; rw [h] at hpl; cases hpl); have hblt := hNs.lt (by intro h; rw [h] at hpl; cases hpl)
   have hcell : ∀ W, Below w.heap.size w W → W.cell? ⟨b, o + (p - 1), none⟩ = some (.int .i64 (l.getD (p - 1) 0 : Nat)) := fun W hW => by
    rw [getD_of _ _ hpl]; exact (hNs.below hW hblt).cell (p - 1) hpl
   generalize l.getD (p - 1) 0 = d at *; have HST := Hh hstep; clear hstep; have HCELL := Hh hcell; clear hcell; have e1 : ((p : Int) - 1).toNat = p - 1 := by omega
   have t1 : (k : Int) < (tab.size : Int) / 2 := by omega
   clear hd; obtain ⟨L, hL⟩ : ∃ L, permR l (ps.take k) = L := ⟨_, rfl⟩; rw [hL] at hown hll; have HL := Hh hL; clear hL; clear hNs hpl hkl; go_wp2_with fail
   refine hP1.out.mono ?_; rintro e w1 ⟨rfl, n1, rfl⟩; have hc1 := HCELL.out _ (below_drewN hbel n1); go_wp2_with (at_builtin; go_loud (refine wpList_append_nums rfl (.tmp 14) (.tmp 22) 28 rfl .i64 3 8 Tryz.underlying28 info_int w.heap.size w _ L rfl (OwnN.below hown ((below_drewN (Below.refl wr.heap.size wr) n1).alloc lr _) lr) ((below_drewN hbel n1).alloc (by simpa using hsz) _) (by simp; omega) _ 1 1 [d] rfl rfl ⟨_, _, rfl, Ns.new .i64 (wr.drewN n1) 3 d⟩ (by omega) (by omega) ?_); intro v5 w5 hown5 hbel5 hsz5)
   have hown6 : OwnN 3 .i64 w5 w.heap.size v5 (permR l (ps.take (k + 1))) := by
    rw [HST.out, HL.out]; exact hown5
   have hsz6 : w.heap.size ≤ w5.heap.size := hbel5.size; clear hown5; go_wp2
   go_roundw
   case rel => exact ⟨k + 1, by omega, by go_num, hown6, hbel5, hsz6⟩
   case measure => simp [intOf]; omega
  ·
   have hfin : ps.take k = ps := List.take_of_length_le (by rw [HM.out]; omega); rw [hfin] at hown; have t1 : (tab.size : Int) / 2 ≤ (k : Int) := by omega
   clear hfin hd; go_wp2
   go_ret
   exact ⟨⟨_, rfl, hown⟩, hbel⟩

theorem digit3_any (c : Nat) (hc : 48 ≤ c) (hc2 : c < 256) (w : World) :
    Calls Tryz.prog 162 #[.int .u8 c] w fun e w' => e = .returned (.int .i64 (hexN c : Nat)) ∧ w' = w := by
 by_cases h : 97 ≤ c
 ·
  have hv : (c : Int) - 87 = (hexN c : Nat) := by unfold hexN; rw [if_pos h]; omega
  have HV := Hh hv; clear hv
  go_enter Tryz.func162, Tryz.ntmps162
  go_wp2
  go_ret
  exact ⟨retI HV.out, rfl⟩
 ·
  have hv : (c : Int) - 48 = (hexN c : Nat) := by unfold hexN; rw [if_neg (by omega)]; omega
  have HV := Hh hv; clear hv
  go_enter Tryz.func162, Tryz.ntmps162
  go_wp2
  go_ret
  exact ⟨retI HV.out, rfl⟩
end Go.Proofs.YtfkjkkjimdilcaaGreatDoor

/- The contract of lockboxref03.Bytes; an append alone. -/
namespace Go.Proofs.YtfkjkkjimdilcaaGreatDoor
open Go Go.RowKit Pr

theorem fold_snoc (L : List Nat) (j : Nat) (h : j < L.length) : (L.take (j + 1)).foldl (fun a b => 2 * a + b) 0 = 2 * (L.take j).foldl (fun a b => 2 * a + b) 0 + L[j] := by
 rw [List.take_succ_eq_append_getElem h, List.foldl_append]; rfl
theorem fold_lt (L : List Nat) (h : ∀ b ∈ L, b < 2) : ∀ j, j ≤ L.length → (L.take j).foldl (fun a b => 2 * a + b) 0 < 2 ^ j
 | 0, _ => by simp
 | j + 1, hj => by
  have ih := fold_lt L h j (by omega); have hb := h L[j] (List.getElem_mem _); rw [fold_snoc L j (by omega), Nat.pow_succ]; omega

theorem bytes3_any (l : List Nat) (hl : ∀ b ∈ l, b < 2) (m : Nat) (hlen : l.length = 8 * m) (hm : m ≤ 1000) (A : Option Addr) (cp : Nat) (w : World) (hA : AtN .i64 w A l) :
    Calls Tryz.prog 101 #[.slice A l.length cp] w fun e w' => (∃ v, e = .returned v ∧ Own w' w.heap.size v (bytesR l)) ∧ Below w.heap.size w w' := by
 obtain ⟨n, hn⟩ : ∃ n, l.length = n := ⟨_, rfl⟩; have hrl : (bytesR l).length = m := by unfold bytesR; rw [List.length_map, List.length_range, hlen]; omega
 have hget : ∀ k (hk : k < m), (bytesR l)[k]'(by rw [hrl]; exact hk) = ((l.drop (8 * k)).take 8).foldl (fun a b => 2 * a + b) 0 := fun k hk => by simp [bytesR]
 rw [hn] at hlen ⊢; have HLN := Hh hlen; clear hlen; have HRL := Hh hrl; have HN := Hh hn; clear hn; have HLT := Hh hl; clear hl; have HA := Hh hA; clear hA
 have hstep : ∀ k, k < m → (bytesR l).take (k + 1) = (bytesR l).take k ++ [((l.drop (8 * k)).take 8).foldl (fun a b => 2 * a + b) 0] := fun k hk => by
  rw [List.take_succ_eq_append_getElem (by rw [hrl]; exact hk), hget k hk]
 have HSTEP := Hh hstep; clear hstep hget hrl; obtain ⟨R, hR⟩ : ∃ R, bytesR l = R := ⟨_, rfl⟩; rw [hR] at HSTEP HRL ⊢; clear hR; have hnb : n ≤ 8000 := by have := HLN.out; omega
 go_enter Tryz.func101, Tryz.ntmps101
 go_wp2
 go_loopw [3, 4] (fun v i wr => ∃ k q : Nat, Hid (q = 8 * k) ∧ q ≤ n ∧ k ≤ m ∧ i = .int .i64 q ∧ OwnN 5 .u8 wr w.heap.size v (R.take k) ∧ Below w.heap.size w wr ∧ w.heap.size ≤ wr.heap.size) (fun _ i _ => n - (intOf i).toNat)
 case atStart => exact ⟨0, 0, rfl, by omega, by omega, rfl, OwnN.nil _ _ _ _, Below.refl _ _, Nat.le_refl _⟩
 case round =>
  obtain ⟨k, q, hq, hqn, hk, rfl, hown, hbel, hsz⟩ := hrel
  rename_i v3
  by_cases hlt : q + 8 ≤ n
  ·
   have hkm : k < m := by have := hq.out; have := HLN.out; omega
   have hdl : (l.drop (8 * k)).length = n - q := by rw [List.length_drop, HN.out, hq.out]
   have hcell : ∀ j, j < 8 → ∃ (h : j < (l.drop (8 * k)).length) (b o : Nat), A = some ⟨b, o, none⟩ ∧ ∀ W, Below w.heap.size w W → W.cell? ⟨b, o + (q + j), none⟩ = some (.int .i64 ((l.drop (8 * k))[j] : Nat)) := fun j hj => by
    have hql : q + j < l.length := by rw [HN.out]; omega
    obtain ⟨b, o, rfl, hNs⟩ := HA.out (by intro h; rw [h] at hql; cases hql); have hblt := hNs.lt (by intro h; rw [h] at hql; cases hql); refine ⟨by omega, b, o, rfl, fun W hW => ?_⟩; rw [(hNs.below hW hblt).cell (q + j) hql]
    simp [hq.out]
   have hbits : ∀ b ∈ l.drop (8 * k), b < 2 := fun b hb => HLT.out b (List.mem_of_mem_drop hb); have hst := HSTEP.out k hkm; have hRl : (R.take k).length ≤ 1000 := by rw [List.length_take]; omega
   generalize l.drop (8 * k) = D at *; have HST := Hh hst; clear hst; have HCELL := Hh hcell; clear hcell; have HBITS := Hh hbits; clear hbits; have HDL := Hh hdl; clear hdl; go_wp2
   go_loop [5, 6] (fun x i => ∃ j : Nat, j ≤ 8 ∧ i = .int .i64 j ∧ x = .int .i64 ((D.take j).foldl (fun a b => 2 * a + b) 0 : Nat)) (fun _ i => 8 - (intOf i).toNat)
   case atStart => exact ⟨0, by omega, rfl, rfl⟩
   case round =>
    obtain ⟨j, hj, rfl, rfl⟩ := hrel; have hFl := fold_lt D HBITS.out j (by have := HDL.out; omega); have h2 : 2 ^ j ≤ 2 ^ 8 := Nat.pow_le_pow_right (by omega) hj; have hF : (D.take j).foldl (fun a b => 2 * a + b) 0 < 256 := Nat.lt_of_lt_of_le hFl h2; clear hFl h2
    by_cases hj8 : j < 8
    ·
     obtain ⟨hjD, b, o, rfl, hc⟩ := HCELL.out j hj8; have hc1 := hc _ hbel; have hb2 := HBITS.out D[j] (List.getElem_mem _); have hsn := fold_snoc D j hjD; generalize D[j] = d at *; generalize (D.take j).foldl (fun a b => 2 * a + b) 0 = F at *; have HSN := Hh hsn; clear hsn hc; have e1 : ((q : Int) + (j : Int)).toNat = q + j := by omega
     go_wp2
     go_round
     case rel => exact ⟨j + 1, by omega, by go_num, by rw [HSN.out]; go_num⟩
     case measure => simp [intOf]; omega
    ·
     obtain rfl : j = 8 := by omega
     generalize (D.take 8).foldl (fun a b => 2 * a + b) 0 = F at *; have e1 : IntKind.u8.wrap (F : Int) = F := by simp [IntKind.wrap, IntKind.bits, IntKind.signed]; omega
     go_wp2_with (at_builtin; refine wpList_append_nums rfl (.tmp 27) (.tmp 30) 22 rfl .u8 5 1 Tryz.underlying22 info_byte w.heap.size w _ (R.take k) rfl (OwnN.below hown ((Below.refl wr.heap.size wr).alloc lr _) lr) (hbel.alloc hsz _) (by simp; omega) _ 1 1 [F] rfl rfl ⟨_, _, rfl, Ns.new .u8 wr 5 F⟩ (by omega) (by omega) ?_; intro v5 w5 hown5 hbel5 hsz5)
     rw [← HST.out] at hown5; have hsz6 : w.heap.size ≤ w5.heap.size := hbel5.size; go_wp2
     go_roundw
     case rel => exact ⟨k + 1, q + 8, (by have := hq.out; exact (by omega : q + 8 = 8 * (k + 1))), by omega, by omega, by go_num, hown5, hbel5, hsz6⟩
     case measure => simp [intOf]; omega
  ·
   have hfin : R.take k = R := List.take_of_length_le (by have := hq.out; have := HLN.out; have := HRL.out; omega); rw [hfin] at hown; clear hfin; go_wp2
   go_ret
   exact ⟨⟨_, rfl, hown⟩, hbel⟩

theorem OwnN.made (e : TypeId) (kd : IntKind) (w : World) (B : Nat) (hB : B ≤ w.heap.size) : OwnN e kd (w.alloc (.cells #[] e)) B (.slice (some ⟨w.heap.size, 0, none⟩) 0 0) [] :=
 World.ownsRow_made w #[] 0 hB (by unfold maxLen; omega) rfl
theorem OwnN.at_ {e : TypeId} {kd : IntKind} {w : World} {B : Nat} {v : Value} {l : List Nat} (h : OwnN e kd w B v l) (hl : l ≠ []) : ∃ g cap, v = .slice (some ⟨g, 0, none⟩) l.length cap ∧ B ≤ g ∧ l.length ≤ cap ∧ g < w.heap.size ∧ Ns kd w g 0 l := by
 obtain ⟨A, cap, rfl, hc, hA⟩ := h.form; obtain ⟨b, o, rfl, hN⟩ := hA hl; have hlt := World.ownsRow.lt h b rfl
 rcases h.2 with ⟨hv, h0⟩ | ⟨g, cap', cur, hv, _⟩
 ·
  exact absurd (List.length_eq_zero_iff.1 h0) hl
 ·
  have : o = 0 := by
   have := hv; simp only [Value.slice.injEq, Option.some.injEq, Addr.mk.injEq] at this
   exact this.1.2.1
  subst this; exact ⟨b, cap, rfl, hlt.1, hc, hlt.2, hN⟩

/-- a row of rows: one of slices, each of numbers -/
def RowOf (w : World) (v : Value) (l : List Nat) : Prop := ∃ g cap, v = .slice (some ⟨g, 0, none⟩) l.length cap ∧ g < w.heap.size ∧ Ns .i64 w g 0 l
theorem RowOf.keep {w w' : World} {v : Value} {l : List Nat} {row : Option Nat} (h : RowOf w v l) (hg : w.grownBy w' row) (hne : v.ownBlock ≠ row) : RowOf w' v l := by
 obtain ⟨g, cap, rfl, hlt, hN⟩ := h; refine ⟨g, cap, rfl, Nat.lt_of_lt_of_le hlt hg.size, fun j u hj => ?_⟩; exact (World.cell?_of_block (hg.block g hlt hne)).trans (hN j u hj)
theorem RowOf.below {w w' : World} {v : Value} {l : List Nat} {B : Nat} (h : RowOf w v l) (hb : Below B w w') (hB : w.heap.size ≤ B) : RowOf w' v l := by
 obtain ⟨g, cap, rfl, hlt, hN⟩ := h; exact ⟨g, cap, rfl, Nat.lt_of_lt_of_le hlt (Nat.le_trans (by omega) hb.size), hN.below hb (by omega)⟩

theorem info_ints : (Tryz.prog.info? 28).map (fun i => (i.zero, i.size, i.bytes)) = some (some (.slice none 0 0), 1, 24) := by kernel_rfl

section
variable {P : Program} {ops : Array Oper} {rest : List Oper} {op : Oper} {a : Act} {w : World} {Q : Exit → Act → World → Prop}
/-- append of one slice to a row of slices of one's own -/
theorem wpList_append_one (hgd : op.guard = none) (s x : Operand) (t : TypeId) (ho : op.op = .call { callee := .builtin .append, args := #[s, x], argTypes := #[t, t] })
    (e : TypeId) (bytes : Nat) (ht : P.underlying t = some (.slice e)) (hinfo : (P.info? e).map (fun i => (i.zero, i.size, i.bytes)) = some (some (.slice none 0 0), 1, bytes))
    (B : Nat) (v : Value) (n : Nat) (l : List Value) (hs : a.eval s = v) (hown : w.ownsRow B e 1 v n l) (hB : B ≤ w.heap.size)
    (b o c : Nat) (u : Value) (hx : a.eval x = .slice (some ⟨b, o, none⟩) 1 c) (hu : w.cell? ⟨b, o, none⟩ = some u) (hu1 : u.oneCell' = true)
    (h63 : n + 1 ≤ 1000000000) (hby : bytes ≤ 1000)
    (h : ∀ v' w', w'.ownsRow B e 1 v' (n + 1) (l ++ [u]) → w.grownBy w' v.ownBlock → (v'.ownBlock = v.ownBlock ∨ v'.ownBlock = some w.heap.size) → wpList P ops Q rest (a.put op.dst v') w') : wpList P ops Q (op :: rest) a w := by
 obtain ⟨i0, hi, hz0, hz1, hz2⟩ := info_parts hinfo; refine wpList_append_own_at w hgd s x t ho B e i0 (.slice none 0 0) 1 bytes ht hi hz0 hz1 hz2 rfl (by decide) v n l hs hown ⟨b, o, none⟩ 1 c [u] hx rfl ?_ ?_ ?_ ?_ hB ?_
 ·
  intro j z hj
  match j, hj with
  | 0, hj =>
   simp at hj
   subst hj
   simpa [Addr.add] using hu
 ·
  intro z hz
  simp at hz
  subst hz; exact hu1
 ·
  unfold maxLen; omega
 ·
  have := Nat.mul_le_mul h63 hby; omega
 ·
  intro v' w' h1 h2 _ h4; exact h v' w' h1 h2 h4
end

/-- the eight boxes' texts, as the reference lays them -/
def boxCells : Array Value := #[.string (boxS 0), .string (boxS 1), .string (boxS 2), .string (boxS 3), .string (boxS 4), .string (boxS 5), .string (boxS 6), .string (boxS 7)]
theorem boxCells_get : ∀ i, i < 8 → boxCells[i]? = some (.string (boxS i)) := fun i hi => by
 rcases (by omega : i = 0 ∨ i = 1 ∨ i = 2 ∨ i = 3 ∨ i = 4 ∨ i = 5 ∨ i = 6 ∨ i = 7) with rfl | rfl | rfl | rfl | rfl | rfl | rfl | rfl <;> rfl
theorem i64_xor_bits (a b : Nat) (ha : a < 2) (hb : b < 2) : bits .xor .i64 (a : Int) (b : Int) = ((a ^^^ b : Nat) : Int) := by
 rcases (by omega : a = 0 ∨ a = 1) with rfl | rfl <;> rcases (by omega : b = 0 ∨ b = 1) with rfl | rfl <;> rfl
theorem sixR_len (h k : List Nat) (i : Nat) : (sixR h k i).length = 6 := by simp [sixR]
theorem sixR_take (h k : List Nat) (i j : Nat) (hj : j < 6) : (sixR h k i).take (j + 1) = (sixR h k i).take j ++ [h.getD ((4 * i + j + 31) % 32) 0 ^^^ k.getD (6 * i + j) 0] := by
 rw [List.take_succ_eq_append_getElem (by rw [sixR_len]; exact hj)]
 simp [sixR]
theorem xor_lt2 (a b : Nat) (ha : a < 2) (hb : b < 2) : a ^^^ b < 2 := Nat.xor_lt_two_pow (n := 1) ha hb
theorem getD_lt2 (l : List Nat) (h : ∀ b ∈ l, b < 2) (i : Nat) : l.getD i 0 < 2 := by
 rw [List.getD_eq_getElem?_getD]
 rcases hq : l[i]? with _ | c
 ·
  simp
 ·
  exact h c (List.mem_of_getElem? hq)
theorem outR_len (h k : List Nat) : ∀ i, (outR h k i).length = 4 * i
 | 0 => rfl
 | i + 1 => by rw [outR, List.length_append, outR_len h k i]; simp [nibR]; omega
/-- where a box's digit stands, of six bits -/
def six0 (a b c d e f : Nat) : Nat := 16 * (2 * a + f) + (8 * b + 4 * c + 2 * d + e)
def nib4 (x : Nat) : List Nat := [x / 8 % 2, x / 4 % 2, x / 2 % 2, x % 2]
theorem Ns.new4 (W : World) (t : TypeId) (x : Nat) : Ns .i64 (W.alloc (.cells #[.int .i64 ((x : Int) / 8 % 2), .int .i64 ((x : Int) / 4 % 2), .int .i64 ((x : Int) / 2 % 2), .int .i64 ((x : Int) % 2)] t)) W.heap.size 0 (nib4 x) :=
 Blk.range (Blk.new W t _) 0 _ (fun j v hv => by
  rw [Nat.zero_add]; simp only [numCells, nib4, List.map_cons, List.map_nil] at hv
  match j, hv with
  | 0, hv => simpa using hv
  | 1, hv => simpa using hv
  | 2, hv => simpa using hv
  | 3, hv => simpa using hv)
theorem six0_lt (a b c d e f : Nat) (ha : a < 2) (hb : b < 2) (hc : c < 2) (hd : d < 2) (he : e < 2) (hf : f < 2) : six0 a b c d e f < 64 := by unfold six0; omega
theorem hexN_box (i : Nat) (hi : i < 8) (j : Nat) (hj : j < 64) : hexN (tb (boxS i) j) = (boxes.getD i []).getD j 0 ∧ 48 ≤ tb (boxS i) j ∧ tb (boxS i) j < 256 ∧ (boxes.getD i []).getD j 0 < 16 := by
 obtain ⟨h1, h2⟩ := boxS_dig i hi j hj; rw [h1]; generalize (boxes.getD i []).getD j 0 = d at *
 unfold hexN
 split <;> split <;> omega

theorem mix3_any (half key : List Nat) (hh : half.length = 32) (hk : key.length = 48) (gh : ∀ b ∈ half, b < 2) (gk : ∀ b ∈ key, b < 2) (A B : Option Addr) (ca cb : Nat) (w : World) (hA : AtN .i64 w A half) (hB : AtN .i64 w B key) :
    Calls Tryz.prog 147 #[.slice A half.length ca, .slice B key.length cb] w fun e w' => (∃ v, e = .returned v ∧ OwnN 3 .i64 w' w.heap.size v (mixR half key)) ∧ Below w.heap.size w w' := by
 rw [hh, hk]; obtain ⟨b1, o1, rfl, hN1⟩ := hA (by intro h; rw [h] at hh; cases hh); obtain ⟨b2, o2, rfl, hN2⟩ := hB (by intro h; rw [h] at hk; cases hk); have hl1 := hN1.lt (by intro h; rw [h] at hh; cases hh); have hl2 := hN2.lt (by intro h; rw [h] at hk; cases hk)
 have hc1 : ∀ i, i < 32 → ∀ W, Below w.heap.size w W → W.cell? ⟨b1, o1 + i, none⟩ = some (.int .i64 (half.getD i 0 : Nat)) := fun i hi W hW => by
  rw [getD_of _ _ (by omega)]; exact (hN1.below hW hl1).cell i (by omega)
 have hc2 : ∀ i, i < 48 → ∀ W, Below w.heap.size w W → W.cell? ⟨b2, o2 + i, none⟩ = some (.int .i64 (key.getD i 0 : Nat)) := fun i hi W hW => by
  rw [getD_of _ _ (by omega)]; exact (hN2.below hW hl2).cell i (by omega)
 have HC1 := Hh hc1; clear hc1; have HC2 := Hh hc2; clear hc2; have g1 := fun i => getD_lt2 half gh i; have g2 := fun i => getD_lt2 key gk i; clear hN1 hN2 hA hB hh hk gh gk; have HG1 := Hh g1; clear g1; have HG2 := Hh g2; clear g2; have hBX : Blk (w.alloc (.cells boxCells 9)) w.heap.size 9 boxCells := Blk.new _ _ _; have hbel0 : Below w.heap.size w (w.alloc (.cells boxCells 9)) := (Below.refl _ _).alloc lr _; have HBX := Hh hBX; clear hBX
 go_enter Tryz.func147, Tryz.ntmps147
 go_wp2
 go_loopw [6, 7] (fun v i wr => ∃ k : Nat, k ≤ 8 ∧ i = .int .i64 k ∧ OwnN 3 .i64 wr (w.heap.size + 1) v (outR half key k) ∧ Below (w.heap.size + 1) (w.alloc (.cells boxCells 9)) wr) (fun _ i _ => 8 - (intOf i).toNat)
 case atStart => exact ⟨0, by omega, rfl, OwnN.nil _ _ _ _, Below.refl _ _⟩
 case round =>
  obtain ⟨k, hk, rfl, hown, hbel1⟩ := hrel; have hbx := HBX.out.below hbel1 (by omega); have hsz : w.heap.size < wr.heap.size := by have := hbel1.size; simp at this; omega
  have hbel : Below w.heap.size w wr := hbel0.trans (hbel1.mono (by simp))
  by_cases hlt : k < 8
  ·
   have hki : (k : Int) < 8 := by omega
   obtain ⟨wo, rfl⟩ : ∃ wo, wo = wr := ⟨_, rfl⟩; have hstep : outR half key (k + 1) = outR half key k ++ nibR half key k := rfl; have hS6 : ∀ j, j < 6 → (sixR half key k).take (j + 1) = (sixR half key k).take j ++ [half.getD ((4 * k + j + 31) % 32) 0 ^^^ key.getD (6 * k + j) 0] := fun j hj => sixR_take half key k j hj; have HS6 := Hh hS6; clear hS6; have HSTEP := Hh hstep; clear hstep; have hol := outR_len half key k; obtain ⟨O, hO⟩ : ∃ O, outR half key k = O := ⟨_, rfl⟩; rw [hO] at hown hol HSTEP; have HO := Hh hO; clear hO; obtain ⟨X6, hX6⟩ : ∃ X, sixR half key k = X := ⟨_, rfl⟩; rw [hX6] at HS6; have hnib : nibR half key k = nib4 ((boxes.getD k []).getD (six0 (X6.getD 0 0) (X6.getD 1 0) (X6.getD 2 0) (X6.getD 3 0) (X6.getD 4 0) (X6.getD 5 0)) 0) := by unfold nibR; rw [hX6]; rfl
   rw [hnib] at HSTEP; clear hnib; have hX6l : X6.length = 6 := by rw [← hX6]; exact sixR_len _ _ _
   have hX6b : ∀ b ∈ X6, b < 2 := by
    rw [← hX6]; intro b hb; simp only [sixR, List.mem_map] at hb
    obtain ⟨j, _, rfl⟩ := hb; exact xor_lt2 _ _ (HG1.out _) (HG2.out _)
   have HX6 := Hh hX6; clear hX6; have HX6L := Hh hX6l; clear hX6l; have HX6B := Hh hX6b; clear hX6b; go_wp2
   go_loopw [8, 9] (fun v i wr2 => ∃ q : Nat, 1 ≤ q ∧ q ≤ 7 ∧ i = .int .i64 q ∧ OwnN 3 .i64 wr2 wo.heap.size v (X6.take (q - 1)) ∧ Below wo.heap.size wo wr2 ∧ wo.heap.size ≤ wr2.heap.size) (fun _ i _ => 7 - (intOf i).toNat)
   case atStart => exact ⟨1, by omega, by omega, rfl, OwnN.nil _ _ _ _, Below.refl _ _, Nat.le_refl _⟩
   case round =>
    obtain ⟨q, hq1, hq7, rfl, hown2, hbel2, hsz2⟩ := hrel
    by_cases hq : q ≤ 6
    ·
     have hst := HS6.out (q - 1) (by omega); rw [show q - 1 + 1 = q by omega] at hst; have hm1 : (4 * k + (q - 1) + 31) % 32 < 32 := Nat.mod_lt _ (by decide); have hm2 : 6 * k + (q - 1) < 48 := by omega
     have hE1 : (IntKind.i64.wrap (IntKind.i64.wrap (IntKind.i64.wrap (IntKind.i64.wrap (4 * (k : Int)) + (q : Int)) - 2) + 32)).tmod 32 = (((4 * k + (q - 1) + 31) % 32 : Nat) : Int) := by
      rw [IntWalk.i64_in (4 * (k : Int)) (by omega), IntWalk.i64_in (4 * (k : Int) + (q : Int)) (by omega), IntWalk.i64_in (4 * (k : Int) + (q : Int) - 2) (by omega), IntWalk.i64_in (4 * (k : Int) + (q : Int) - 2 + 32) (by omega), Int.tmod_eq_emod_of_nonneg (by omega)]; omega
     have hE2 : IntKind.i64.wrap (IntKind.i64.wrap (IntKind.i64.wrap (6 * (k : Int)) + (q : Int)) - 1) = ((6 * k + (q - 1) : Nat) : Int) := by
      rw [IntWalk.i64_in (6 * (k : Int)) (by omega), IntWalk.i64_in (6 * (k : Int) + (q : Int)) (by omega), IntWalk.i64_in (6 * (k : Int) + (q : Int) - 1) (by omega)]; omega
     obtain ⟨m1, hm1d⟩ : ∃ m, (4 * k + (q - 1) + 31) % 32 = m := ⟨_, rfl⟩; obtain ⟨m2, hm2d⟩ : ∃ m, 6 * k + (q - 1) = m := ⟨_, rfl⟩; rw [hm1d] at hm1 hE1 hst; rw [hm2d] at hm2 hE2 hst; clear hm1d hm2d; have hw2 : Below w.heap.size w wr := hbel.trans (hbel2.mono hbel.size); have hx := i64_xor_bits _ _ (HG1.out m1) (HG2.out m2); have hx2 := xor_lt2 _ _ (HG1.out m1) (HG2.out m2); have hL1 := fun W hW => HC1.out m1 hm1 W hW; have hL2 := fun W hW => HC2.out m2 hm2 W hW; generalize half.getD m1 0 = x1 at *; generalize key.getD m2 0 = x2 at *; generalize x1 ^^^ x2 = x at *; have hl4 : (X6.take (q - 1)).length ≤ 6 := by rw [List.length_take]; omega
     obtain ⟨L, hL⟩ : ∃ L, X6.take (q - 1) = L := ⟨_, rfl⟩; rw [hL] at hst hown2 hl4; clear hL; have HST := Hh hst; clear hst; have HE1 := Hh hE1; clear hE1; have HE2 := Hh hE2; clear hE2; have HX := Hh hx; clear hx; have HL1 := Hh hL1; clear hL1; have HL2 := Hh hL2; clear hL2; go_wp2_with fail
     refine wp_region_tree (.q 0 (.q 1 (.q 2 (.q 3 (.q 4 (.q 5 (.q 6 (.q 7 (.q 8 (.q 9 (.q 10 (.q 11 (.q 12 (.q 13 (.q 14 (.q 15 (.q 16 (.q 17 (.q 18 (.q 19 (.e [20] fun _ => .e [21] fun _ => .q 22 .done))))))))))))))))))))) (fun W => Below w.heap.size w W) rfl (by kernel_rfl) (fun _ _ d _ _ h => by cases d <;> exact h) ?_; have hw3 : Below w.heap.size w wr.drew := below_drewN hw2 1
     iterate 8 (refine t_q rfl rfl hw3 _ (fun W hW => by (go_simp; rfl)) ?_; go_simp)
     refine t_q rfl rfl hw3 (.int .i64 (m1 : Nat)) (fun W hW => by (go_simp; exact HE1.out)) ?_; go_simp
     have hm1i : (m1 : Int) < 32 := by omega
     have hm2i : (m2 : Int) < 48 := by omega
     refine t_q rfl rfl hw3 (.pointer (some ⟨b1, o1 + m1, none⟩)) (fun W hW => by go_simp) ?_; go_simp
     refine t_q rfl rfl hw3 (.int .i64 (x1 : Nat)) (fun W hW => by (have hc := HL1.out W hW; go_simp)) ?_; go_simp
     iterate 5 (refine t_q rfl rfl hw3 _ (fun W hW => by (go_simp; rfl)) ?_; go_simp)
     refine t_q rfl rfl hw3 (.int .i64 (m2 : Nat)) (fun W hW => by (go_simp; exact HE2.out)) ?_; go_simp
     refine t_q rfl rfl hw3 (.pointer (some ⟨b2, o2 + m2, none⟩)) (fun W hW => by go_simp) ?_; go_simp
     refine t_q rfl rfl hw3 (.int .i64 (x2 : Nat)) (fun W hW => by (have hc := HL2.out W hW; go_simp)) ?_; go_simp
     refine t_q rfl rfl hw3 (.int .i64 (x : Nat)) (fun W hW => by (go_simp; exact HX.out)) ?_; go_simp
     refine t_e rfl rfl fun K hK => ?_; go_simp
     refine hK _ _ (hw3.alloc (by simp; omega) _) ?_; clear hK K
     change wpT _ _ _ _ _ _ (wr.drew.alloc (.cells #[.int .i64 (x : Int)] 3))
     have hown4 : OwnN 3 .i64 (wr.drew.alloc (.cells #[.int .i64 (x : Int)] 3)) wo.heap.size _ L := OwnN.below hown2 ((below_drewN (Below.refl wr.heap.size wr) 1).alloc lr _) lr; have hbel4 : Below wo.heap.size wo (wr.drew.alloc (.cells #[.int .i64 (x : Int)] 3)) := (below_drewN hbel2 1).alloc (by simpa using hsz2) _; refine t_e rfl rfl fun K hK => ?_; refine op_append_nums (.tmp 22) (.tmp 42) 28 rfl .i64 3 8 Tryz.underlying28 info_int wo.heap.size wo _ L rfl hown4 hbel4 (by simp; omega) _ 1 1 [x] rfl rfl ⟨_, _, rfl, Ns.new .i64 wr.drew 3 x⟩ (by omega) (by omega) fun v5 w5 hown5 hbel5 hsz5 => ?_; rw [← HST.out] at hown5; refine hK _ _ (hbel.trans (hbel5.mono hbel.size)) ?_; clear hK K; go_simp
     refine t_q rfl rfl (hbel.trans (hbel5.mono hbel.size)) _ (fun W hW => by (go_simp; rfl)) ?_; go_simp
     refine t_done ?_; have hsz6 : wo.heap.size ≤ w5.heap.size := hbel5.size; go_wp2
     go_roundw
     case rel => exact ⟨q + 1, by omega, by omega, by go_num, hown5, hbel5, hsz6⟩
     case measure => simp [intOf]; omega
    ·
     obtain rfl : q = 7 := by omega
     have hq7 : List.take (7 - 1) X6 = X6 := List.take_of_length_le (by rw [HX6L.out]; decide); rw [hq7] at hown2; clear hq7; obtain ⟨g6, c6, rfl, -, -, hg6, hN6⟩ := hown2.at_ (by intro h; have := HX6L.out; rw [h] at this; cases this); rw [HX6L.out]
     have hc6 : ∀ j, j < 6 → wr.cell? ⟨g6, j, none⟩ = some (.int .i64 (X6.getD j 0 : Nat)) := fun j hj => by
      have := hN6.cell j (by rw [HX6L.out]; exact hj); rw [Nat.zero_add] at this; rw [this, getD_of]
     have hb6 : ∀ j, X6.getD j 0 < 2 := fun j => getD_lt2 _ HX6B.out j; have z0 := hc6 0 (by omega); have z1 := hc6 1 (by omega); have z2 := hc6 2 (by omega); have z3 := hc6 3 (by omega); have z4 := hc6 4 (by omega); have z5 := hc6 5 (by omega); have y0 := hb6 0; have y1 := hb6 1; have y2 := hb6 2; have y3 := hb6 3; have y4 := hb6 4; have y5 := hb6 5; clear hc6 hb6 hown2 hN6; generalize X6.getD 0 0 = s0 at *; generalize X6.getD 1 0 = s1 at *; generalize X6.getD 2 0 = s2 at *; generalize X6.getD 3 0 = s3 at *; generalize X6.getD 4 0 = s4 at *; generalize X6.getD 5 0 = s5 at *; have hJ := six0_lt s0 s1 s2 s3 s4 s5 y0 y1 y2 y3 y4 y5; have hJd : 16 * (2 * (s0 : Int) + (s5 : Int)) + (8 * (s1 : Int) + 4 * (s2 : Int) + 2 * (s3 : Int) + (s4 : Int)) = (six0 s0 s1 s2 s3 s4 s5 : Nat) := by unfold six0; omega
     obtain ⟨p1, p2, p3, p4⟩ := hexN_box k hlt _ hJ; have hbs := boxS_size k hlt; generalize six0 s0 s1 s2 s3 s4 s5 = J at *; generalize (boxes.getD k []).getD J 0 = x at *
     have hbx2 : wr.cell? ⟨w.heap.size, k, none⟩ = some (.string (boxS k)) := by
      have := (hbx.below hbel2 hsz).cell k; rw [this, boxCells_get k hlt]
     generalize boxS k = bs at *; have hix := index_str (P := Tryz.prog) 9 Tryz.underlying9 bs J (by omega) (16 * (2 * (s0 : Int) + (s5 : Int)) + (8 * (s1 : Int) + 4 * (s2 : Int) + 2 * (s3 : Int) + (s4 : Int))) hJd (tb bs J) (tb_of (by omega)).symm; generalize tb bs J = c at *; have hdg := fun W => digit3_any c p2 p3 W; rw [p1] at hdg; have HDG := Hh hdg; clear hdg p1 hJd hJ hbs; go_wp2
     go_quiet (fail)
     go_wp2
     go_quiet (fail)
     go_wp2_with fail
     refine (HDG.out _).mono ?_; rintro e wz ⟨rfl, rfl⟩; go_wp2_with (at_builtin; go_loud (refine wpList_append_nums rfl (.tmp 80) (.tmp 92) 28 rfl .i64 3 8 Tryz.underlying28 info_int (w.heap.size + 1) (w.alloc (.cells boxCells 9)) _ O rfl (OwnN.below hown ((below_drewN hbel2 _).alloc (by simpa using hsz2) _) lr) ((hbel1.trans ((below_drewN hbel2 _).mono (by omega))).alloc (by simp; omega) _) (by simp; omega) _ 4 4 (nib4 x) rfl rfl ⟨_, _, rfl, Ns.new4 _ _ _⟩ (by omega) (by omega) ?_); intro v5 w5 hown5 hbel5 hsz5)
     rw [← HSTEP.out] at hown5; go_wp2
     go_roundw
     case rel => exact ⟨k + 1, by omega, by go_num, hown5, hbel5⟩
     case measure => simp [intOf]; omega
  ·
   obtain rfl : k = 8 := by omega
   have hol := outR_len half key 8; have hfin : permR (outR half key 8) psP = mixR half key := rfl; have HFIN := Hh hfin; clear hfin; obtain ⟨O, hO⟩ : ∃ O, outR half key 8 = O := ⟨_, rfl⟩; rw [hO] at hown hol HFIN; clear hO; obtain ⟨gO, cO, rfl, -, -, hgO, hNO⟩ := hown.at_ (by intro h; rw [h] at hol; cases hol); have HP := Hh (fun (tab : ByteArray) (ht : Tab tab 32 psP) W hA => perm3_any O (some ⟨gO, 0, none⟩) cO tab 32 psP ht (by decide) (by rw [hol]; decide) W hA); rw [HFIN.out] at HP; rw [show O.length = 32 from hol] at HP ⊢; clear hown hol; go_wp2_with fail
   refine (HP.out _ (tab_of (by kernel_rfl)) _ (fun _ => ⟨_, _, rfl, hNO⟩)).mono ?_; rintro e w5 ⟨⟨v, rfl, hv⟩, hb5⟩; go_wp2
   go_ret
   exact ⟨⟨_, rfl, hv.more (by omega)⟩, hbel.trans (hb5.mono (by omega))⟩

theorem Ns.alloc {kd : IntKind} {w : World} {b o : Nat} {l : List Nat} (h : Ns kd w b o l) (ob : Obj) : Ns kd (w.alloc ob) b o l := fun j v hv => by
 have hc := h j v hv; have hb := block_lt_of_cell hc; rw [World.cell?_alloc_lt w ob _ hb]; exact hc
/-- half of the key's bits, somewhere but in the row v -/
def HalfAt (w : World) (v c : Value) (l : List Nat) : Prop := ∃ g o cp, c = .slice (some ⟨g, o, none⟩) 28 cp ∧ 28 ≤ cp ∧ l.length = 28 ∧ Ns .i64 w g o l ∧ g < w.heap.size ∧ v.ownBlock ≠ some g
/-- the round keys that are made -/
def KeysAt (key : List Nat) (B : Nat) (w : World) (v : Value) (n : Nat) : Prop := ∃ vs : List Value, w.ownsRow B 28 1 v n vs ∧ ∀ j, j < n → ∃ u, vs[j]? = some u ∧ RowOf w u (keyR key j) ∧ v.ownBlock ≠ u.ownBlock
theorem owns_below {w w' : World} {e : TypeId} {v : Value} {n B C : Nat} {vs : List Value} (h1 : w.ownsRow B e 1 v n vs) (hb : Below C w w') (hC : w.heap.size ≤ C) : w'.ownsRow B e 1 v n vs := by
 rcases h1 with ⟨e, h1⟩
 refine ⟨e, ?_⟩
 rcases h1 with h1 | ⟨g, cap, cur, rfl, hg, hgb, r⟩
 ·
  exact .inl h1
 ·
  refine .inr ⟨g, cap, cur, rfl, hg, (hb.block g ?_).trans hgb, r⟩
  rcases Nat.lt_or_ge g w.heap.size with hlt | hge
  ·
   omega
  ·
   rw [Array.getElem?_eq_none hge] at hgb; cases hgb
theorem KeysAt.below {w w' : World} {v : Value} {key : List Nat} {n B C : Nat} (h : KeysAt key B w v n) (hb : Below C w w') (hC : w.heap.size ≤ C) : KeysAt key B w' v n := by
 obtain ⟨vs, h1, h2⟩ := h; refine ⟨vs, owns_below h1 hb hC, fun j hj => ?_⟩; obtain ⟨u, hu, hr, hne⟩ := h2 j hj; exact ⟨u, hu, hr.below hb hC, hne⟩
theorem KeysAt.push {W W6 : World} {key : List Nat} {B n g5 cp5 : Nat} {v v6 : Value} {vs : List Value} (hrows : ∀ j, j < n → ∃ u, vs[j]? = some u ∧ RowOf W u (keyR key j) ∧ v.ownBlock ≠ u.ownBlock) (hn : vs.length = n)
    (hlt : g5 < W.heap.size) (hl : (keyR key n).length = 48) (hN : Ns .i64 W g5 0 (keyR key n)) (hne : v.ownBlock ≠ some g5)
    (h1 : W6.ownsRow B 28 1 v6 (n + 1) (vs ++ [.slice (some ⟨g5, 0, none⟩) 48 cp5])) (h2 : W.grownBy W6 v.ownBlock) (h3 : v6.ownBlock = v.ownBlock ∨ v6.ownBlock = some W.heap.size) : KeysAt key B W6 v6 (n + 1) := by
 have hb : ∀ g, g < W.heap.size → v.ownBlock ≠ some g → v6.ownBlock ≠ some g := fun g hg hv => by
  rcases h3 with h3 | h3
  ·
   rw [h3]; exact hv
  ·
   rw [h3]; intro h; cases h; omega
 refine ⟨_, h1, fun j hj => ?_⟩
 by_cases e : j = n
 ·
  subst e; refine ⟨.slice (some ⟨g5, 0, none⟩) 48 cp5, by rw [List.getElem?_append_right (by omega), hn, Nat.sub_self]; rfl, ⟨g5, cp5, by rw [hl], Nat.lt_of_lt_of_le hlt h2.size, fun i u hi => ?_⟩, hb g5 hlt hne⟩; exact (World.cell?_of_block (h2.block g5 hlt (Ne.symm hne))).trans (hN i u hi)
 ·
  obtain ⟨u, hu, hr, hv⟩ := hrows j (by omega); refine ⟨u, by rw [List.getElem?_append_left (by omega)]; exact hu, hr.keep h2 (Ne.symm hv), ?_⟩; obtain ⟨g, cap, rfl, hg, _⟩ := hr; exact hb g hg hv
theorem HalfAt.push {W W6 : World} {v v6 c : Value} {l : List Nat} (h : HalfAt W v c l) (h2 : W.grownBy W6 v.ownBlock) (h3 : v6.ownBlock = v.ownBlock ∨ v6.ownBlock = some W.heap.size) : HalfAt W6 v6 c l := by
 obtain ⟨g, o, cp, rfl, a1, a2, a3, a4, a5⟩ := h; refine ⟨g, o, cp, rfl, a1, a2, fun j u hj => (World.cell?_of_block (h2.block g a4 (Ne.symm a5))).trans (a3 j u hj), Nat.lt_of_lt_of_le a4 h2.size, ?_⟩
 rcases h3 with h3 | h3
 ·
  rw [h3]; exact a5
 ·
  rw [h3]; intro h; cases h; omega
theorem keyR_len (key : List Nat) (r : Nat) : (keyR key r).length = 48 := by unfold keyR; rw [permR_len]; rfl
theorem refC_len (c : List Nat) (h : c.length = 28) : ∀ r, (refC c r).length = 28
 | 0 => h
 | r + 1 => by
  have := refC_len c h r; have h2 := rotN_le r; rw [refC, List.length_append, List.length_drop, List.length_take, this]; omega

theorem keys3_any (key : List Nat) (hk : key.length = 8) (gk : ∀ c ∈ key, c < 256) (A : Option Addr) (cp : Nat) (w : World) (hA : At w A key) :
    Calls Tryz.prog 145 #[.slice A key.length cp] w fun e w' => (∃ v, e = .returned v ∧ KeysAt key w.heap.size w' v 16) ∧ Below w.heap.size w w' := by
 have HB := Hh (fun W hA => bits_any key gk (by omega) A cp W hA); have hbl := bitsL_len key; rw [hk] at hbl; have hC0 : ∀ r, refC ((permR (bitsB key) psPC1).take 28) (r + 1) = (refC ((permR (bitsB key) psPC1).take 28) r).drop (rotN r) ++ (refC ((permR (bitsB key) psPC1).take 28) r).take (rotN r) := fun r => rfl; have hD0 : ∀ r, refC ((permR (bitsB key) psPC1).drop 28) (r + 1) = (refC ((permR (bitsB key) psPC1).drop 28) r).drop (rotN r) ++ (refC ((permR (bitsB key) psPC1).drop 28) r).take (rotN r) := fun r => rfl; have hKR : ∀ r, keyR key r = permR (refC ((permR (bitsB key) psPC1).take 28) (r + 1) ++ refC ((permR (bitsB key) psPC1).drop 28) (r + 1)) psPC2 := fun r => rfl; rw [← bitsL_eq] at hC0 hD0 hKR; have h56 := permR_len (bitsL key) psPC1; rw [show psPC1.length = 56 from rfl] at h56; generalize bitsL key = L at *; have HP := Hh (fun A' c' (tab : ByteArray) (ht : Tab tab 64 psPC1) W hA => perm3_any L A' c' tab 64 psPC1 ht (by decide) (by rw [hbl]; decide) W hA); rw [hbl] at HP; generalize permR L psPC1 = M at *; have hl0 : (M.take 28).length = 28 := by rw [List.length_take, h56]; rfl
 have hl1 : (M.drop 28).length = 28 := by rw [List.length_drop, h56]
 have HLC := Hh (refC_len _ hl0); have HLD := Hh (refC_len _ hl1); have hC00 : refC (M.take 28) 0 = M.take 28 := rfl; have hD00 : refC (M.drop 28) 0 = M.drop 28 := rfl; have HBL := Hh hbl; clear hbl; have H56 := Hh h56; clear h56; have HMC := Hh hC00; clear hC00; have HMD := Hh hD00; clear hD00; generalize refC (M.take 28) = RC at *; generalize refC (M.drop 28) = RD at *; have HC0 := Hh hC0; clear hC0; have HD0 := Hh hD0; clear hD0; have HKR := Hh hKR; clear hKR; clear hl0 hl1 gk; rw [hk] at HB ⊢; clear hk
 go_enter Tryz.func145, Tryz.ntmps145
 go_wp2_with fail
 refine (HB.out _ hA).mono ?_; rintro e w1 ⟨⟨v, rfl, hv⟩, hb1⟩; obtain ⟨A1, c1, rfl, -, hN1⟩ := hv.form; rw [HBL.out]; clear hv HB; go_wp2_with fail
 refine (HP.out _ _ _ (tab_of (by kernel_rfl)) _ hN1).mono ?_; rintro e w2 ⟨⟨v, rfl, hv⟩, hb2⟩; obtain ⟨g, cap, rfl, -, hcap, hg, hN⟩ := hv.at_ (by intro h; have := H56.out; rw [h] at this; cases this); rw [H56.out] at hcap ⊢; have hb2' : Below w.heap.size w w2 := hb1.trans (hb2.mono hb1.size); have hci : (56 : Int) ≤ (cap : Int) := by omega
 have hci2 : (28 : Int) ≤ (cap : Int) := by omega
 have hci3 : ¬ cap = 28 := by omega
 have hHC : HalfAt w2 (.slice none 0 0) (.slice (some ⟨g, 0, none⟩) 28 cap) (RC 0) := ⟨g, 0, cap, rfl, by omega, by rw [HLC.out], by have := hN.sub 0 28; rw [HMC.out]; simpa using this, hg, by intro h; cases h⟩; have hHD : HalfAt w2 (.slice none 0 0) (.slice (some ⟨g, 28, none⟩) 28 (cap - 28)) (RD 0) := ⟨g, 28, cap - 28, rfl, by omega, by rw [HLD.out], by have := hN.sub 28 28; rw [HMD.out]; rwa [Nat.zero_add, List.take_of_length_le (by rw [List.length_drop, H56.out]; decide)] at this, hg, by intro h; cases h⟩; have hKA : KeysAt key w.heap.size w2 (.slice none 0 0) 0 := ⟨[], World.ownsRow_nil _ _ _ _, fun j h => by omega⟩; clear hv hN hN1 hb1 hb2 HP; have HHC := Hh hHC; clear hHC; have HHD := Hh hHD; clear hHD; have HKA := Hh hKA; clear hKA; go_wp2
 go_loopw [4, 5, 6, 7] (fun c d v i wr => ∃ q : Nat, 1 ≤ q ∧ q ≤ 17 ∧ i = .int .i64 q ∧ HalfAt wr v c (RC (q - 1)) ∧ HalfAt wr v d (RD (q - 1)) ∧ KeysAt key w.heap.size wr v (q - 1) ∧ Below w.heap.size w wr) (fun _ _ _ i _ => 17 - (intOf i).toNat)
 case atStart => exact ⟨1, by omega, by omega, rfl, HHC.out, HHD.out, HKA.out, hb2'⟩
 case round =>
  obtain ⟨q, hq1, hq17, rfl, ⟨gc, oc, cc, rfl, hcc, lc, Nc, kc, nc⟩, ⟨gd, od, cd, rfl, hcd, ld, Nd, kd, nd⟩, hKy, hbel⟩ := hrel
  by_cases hq : q ≤ 16
  ·
   have hqi : (q : Int) ≤ 16 := by omega
   obtain ⟨C, hCe⟩ : ∃ C, RC (q - 1) = C := ⟨_, rfl⟩; obtain ⟨D, hDe⟩ : ∃ D, RD (q - 1) = D := ⟨_, rfl⟩; rw [hCe] at lc Nc; rw [hDe] at ld Nd; have hkr := HKR.out (q - 1); have hcc1 : (28 : Int) ≤ (cc : Int) := by omega
   have hcd1 : (28 : Int) ≤ (cd : Int) := by omega
   have hcc2 : (1 : Int) ≤ (cc : Int) := by omega
   have hcd2 : (1 : Int) ≤ (cd : Int) := by omega
   have hcc3 : (2 : Int) ≤ (cc : Int) := by omega
   have hcd3 : (2 : Int) ≤ (cd : Int) := by omega
   have HKR1 := Hh hkr; clear hkr; obtain ⟨vs, hvs, hrows⟩ := hKy; have hvn := hvs.1; have hvlt := World.ownsRow.lt hvs; have HVN := Hh hvn; clear hvn
   rcases (by omega : (q = 1) ∨ (q ≠ 1 ∧ q = 2) ∨ (q ≠ 1 ∧ q ≠ 2 ∧ q = 9) ∨ (q ≠ 1 ∧ q ≠ 2 ∧ q ≠ 9 ∧ q = 16) ∨ (q ≠ 1 ∧ q ≠ 2 ∧ q ≠ 9 ∧ q ≠ 16)) with hc | hc | hc | hc | hc
   ·
    have t0 : ((q : Int) == 1) = true := by rw [beq_iff_eq]; omega
    have hrot : rotN (q - 1) = 1 := by unfold rotN; rw [if_pos (by omega)]
    have hC1 := HC0.out (q - 1); have hD1 := HD0.out (q - 1); rw [hrot, hCe] at hC1; rw [hrot, hDe] at hD1; clear hc hrot; have HC1 := Hh hC1; clear hC1; have HD1 := Hh hD1; clear hD1; go_wp2_with fail
    refine wp_region_tree (.q 1 (.q 2 (.q 3 (.q 5 (.q 6 (.q 7 (.e [0] fun _ => .e [4] fun _ => .e [8] fun _ => .q 9 .done))))))) (fun _ => True) rfl (by kernel_rfl) (fun _ _ d _ _ h => by cases d <;> exact h) ?_
    iterate 2 (refine t_q rfl rfl trivial _ (fun W hW => by (go_simp; rfl)) ?_; go_simp)
    refine t_q rfl rfl trivial (.slice (some ⟨gc, oc + 1, none⟩) 27 (cc - 1)) (fun W hW => by (go_simp; try omega)) ?_; go_simp
    iterate 2 (refine t_q rfl rfl trivial _ (fun W hW => by (go_simp; rfl)) ?_; go_simp)
    refine t_q rfl rfl trivial (.slice (some ⟨gc, oc, none⟩) 1 cc) (fun W hW => by (go_simp; try omega)) ?_; go_simp
    refine t_e rfl rfl fun K hK => ?_; go_simp
    refine hK _ _ trivial ?_; clear hK K
    change wpT _ _ _ _ _ _ ((wr).drew.alloc (.cells #[] 3))
    have hmA : OwnN 3 .i64 ((wr).drew.alloc (.cells #[] 3)) (wr).heap.size (.slice (some ⟨(wr).heap.size, 0, none⟩) 0 0) [] := OwnN.made _ _ (wr).drew _ lr; have hbA : Below (wr).heap.size wr ((wr).drew.alloc (.cells #[] 3)) := (below_drewN (Below.refl _ _) 1).alloc lr _; refine t_e rfl rfl fun K hK => ?_; refine op_append_nums (.tmp 34) (.tmp 37) 28 rfl .i64 3 8 Tryz.underlying28 info_int (wr).heap.size wr _ [] rfl hmA hbA (by simp) _ 27 _ (C.drop 1) rfl (by rw [List.length_drop, lc]) ⟨_, _, rfl, (Ns.drewN (by have := Nc.sub 1 27; rwa [List.take_of_length_le (by rw [List.length_drop, lc]; decide)] at this) 1).alloc _⟩ (by simp) (by omega) fun x1A w1A hx1A hy1A hz1A => ?_; refine hK _ _ trivial ?_; clear hK K; go_simp
    refine t_e rfl rfl fun K hK => ?_; refine op_append_nums (.tmp 38) (.tmp 41) 28 rfl .i64 3 8 Tryz.underlying28 info_int (wr).heap.size wr _ ([] ++ C.drop 1) rfl hx1A hy1A hy1A.size _ 1 _ (C.take 1) rfl (by rw [List.length_take, lc]; decide) ⟨_, _, rfl, (by have := (Nc.below hy1A kc).sub 0 1; simpa using this)⟩ (by rw [List.nil_append, List.length_drop, lc]; decide) (by omega) fun x2A wA hx2A hy2A hz2A => ?_; refine hK _ _ trivial ?_; clear hK K; go_simp
    refine t_q rfl rfl trivial _ (fun W hW => by (go_simp; rfl)) ?_; go_simp
    refine t_done ?_; rw [List.nil_append] at hx2A; have hLA : (C.drop 1 ++ C.take 1).length = 28 := by rw [List.length_append, List.length_drop, List.length_take, lc]; decide
    obtain ⟨gA, cpA, rfl, hgA, hcpA, hltA, hNA⟩ := hx2A.at_ (by intro h; rw [h] at hLA; cases hLA); rw [hLA] at hcpA ⊢; clear hx1A hx2A hmA; have Nd := Nd.below hy2A kd; have kd : gd < wA.heap.size := Nat.lt_of_lt_of_le kd hy2A.size; go_wp2_with fail
    refine wp_region_tree (.q 1 (.q 2 (.q 3 (.q 5 (.q 6 (.q 7 (.e [0] fun _ => .e [4] fun _ => .e [8] fun _ => .q 9 .done))))))) (fun _ => True) rfl (by kernel_rfl) (fun _ _ d _ _ h => by cases d <;> exact h) ?_
    iterate 2 (refine t_q rfl rfl trivial _ (fun W hW => by (go_simp; rfl)) ?_; go_simp)
    refine t_q rfl rfl trivial (.slice (some ⟨gd, od + 1, none⟩) 27 (cd - 1)) (fun W hW => by (go_simp; try omega)) ?_; go_simp
    iterate 2 (refine t_q rfl rfl trivial _ (fun W hW => by (go_simp; rfl)) ?_; go_simp)
    refine t_q rfl rfl trivial (.slice (some ⟨gd, od, none⟩) 1 cd) (fun W hW => by (go_simp; try omega)) ?_; go_simp
    refine t_e rfl rfl fun K hK => ?_; go_simp
    refine hK _ _ trivial ?_; clear hK K
    change wpT _ _ _ _ _ _ ((wA).drew.alloc (.cells #[] 3))
    have hmB : OwnN 3 .i64 ((wA).drew.alloc (.cells #[] 3)) (wA).heap.size (.slice (some ⟨(wA).heap.size, 0, none⟩) 0 0) [] := OwnN.made _ _ (wA).drew _ lr; have hbB : Below (wA).heap.size wA ((wA).drew.alloc (.cells #[] 3)) := (below_drewN (Below.refl _ _) 1).alloc lr _; refine t_e rfl rfl fun K hK => ?_; refine op_append_nums (.tmp 43) (.tmp 46) 28 rfl .i64 3 8 Tryz.underlying28 info_int (wA).heap.size wA _ [] rfl hmB hbB (by simp) _ 27 _ (D.drop 1) rfl (by rw [List.length_drop, ld]) ⟨_, _, rfl, (Ns.drewN (by have := Nd.sub 1 27; rwa [List.take_of_length_le (by rw [List.length_drop, ld]; decide)] at this) 1).alloc _⟩ (by simp) (by omega) fun x1B w1B hx1B hy1B hz1B => ?_; refine hK _ _ trivial ?_; clear hK K; go_simp
    refine t_e rfl rfl fun K hK => ?_; refine op_append_nums (.tmp 47) (.tmp 50) 28 rfl .i64 3 8 Tryz.underlying28 info_int (wA).heap.size wA _ ([] ++ D.drop 1) rfl hx1B hy1B hy1B.size _ 1 _ (D.take 1) rfl (by rw [List.length_take, ld]; decide) ⟨_, _, rfl, (by have := (Nd.below hy1B kd).sub 0 1; simpa using this)⟩ (by rw [List.nil_append, List.length_drop, ld]; decide) (by omega) fun x2B wB hx2B hy2B hz2B => ?_; refine hK _ _ trivial ?_; clear hK K; go_simp
    refine t_q rfl rfl trivial _ (fun W hW => by (go_simp; rfl)) ?_; go_simp
    refine t_done ?_; rw [List.nil_append] at hx2B; have hLB : (D.drop 1 ++ D.take 1).length = 28 := by rw [List.length_append, List.length_drop, List.length_take, ld]; decide
    obtain ⟨gB, cpB, rfl, hgB, hcpB, hltB, hNB⟩ := hx2B.at_ (by intro h; rw [h] at hLB; cases hLB); rw [hLB] at hcpB ⊢; clear hx1B hx2B hmB; have hAN := hNA.below hy2B hltA; have hbw : Below wr.heap.size wr wB := hy2A.trans (hy2B.mono hy2A.size); have hmE : OwnN 3 .i64 (wB.alloc (.cells #[] 3)) wB.heap.size (.slice (some ⟨wB.heap.size, 0, none⟩) 0 0) [] := OwnN.made _ _ wB _ lr; have hbE : Below wB.heap.size wB (wB.alloc (.cells #[] 3)) := (Below.refl _ _).alloc lr _; have hltA2 : gA < wB.heap.size := Nat.lt_of_lt_of_le hltA hy2B.size; obtain ⟨CA, hCA⟩ : ∃ CA, C.drop 1 ++ C.take 1 = CA := ⟨_, rfl⟩; obtain ⟨DA, hDA⟩ : ∃ DA, D.drop 1 ++ D.take 1 = DA := ⟨_, rfl⟩; rw [hCA] at hAN hLA HC1; rw [hDA] at hNB hLB HD1; rw [HC1.out, HD1.out] at HKR1; clear hCA hDA hNA; have HLA := Hh hLA; clear hLA; have HLB := Hh hLB; clear hLB
    go_wp2_with (first
     | (at_builtin; refine wpList_append_nums rfl (.tmp 53) (.tmp 54) 28 rfl .i64 3 8 Tryz.underlying28 info_int wB.heap.size wB _ [] rfl hmE hbE (by simp) _ 28 _ CA rfl HLA.out ⟨_, _, rfl, hAN.alloc _⟩ (by simp) (by omega) ?_; intro x3 w3 hx3 hy3 hz3)
     | (at_builtin; refine wpList_append_nums rfl (.tmp 55) (.tmp 56) 28 rfl .i64 3 8 Tryz.underlying28 info_int wB.heap.size wB _ ([] ++ CA) rfl hx3 hy3 hy3.size _ 28 _ DA rfl HLB.out ⟨_, _, rfl, hNB.below hy3 hltB⟩ (by rw [List.nil_append, HLA.out]; decide) (by omega) ?_; intro x4 w4 hx4 hy4 hz4; rw [List.nil_append] at hx4; obtain ⟨A4, c4, rfl, -, hN4⟩ := hx4.form))
    have hL4 : (CA ++ DA).length = 56 := by rw [List.length_append, HLA.out, HLB.out]
    have HP2 := Hh (fun (tab : ByteArray) (ht : Tab tab 56 psPC2) W hA => perm3_any (CA ++ DA) A4 c4 tab 56 psPC2 ht (by decide) (by rw [hL4]; decide) W hA); rw [← HKR1.out, hL4] at HP2; rw [show CA.length + DA.length = 56 by rw [HLA.out, HLB.out]]; refine (HP2.out _ (tab_of (by kernel_rfl)) _ hN4).mono ?_; rintro e w5 ⟨⟨v5, rfl, hv5⟩, hb5⟩; have hl48 := keyR_len key (q - 1); obtain ⟨g5, c5, rfl, hg5, hc5, hlt5, hN5⟩ := hv5.at_ (by intro h; rw [h] at hl48; cases hl48); rw [hl48]; have hbw5 : Below wr.heap.size wr w5 := hbw.trans ((hy4.mono hbw.size).trans (hb5.mono (Nat.le_trans hbw.size hy4.size))); have hbw6 : Below wr.heap.size wr (w5.alloc (.cells #[.slice (some ⟨g5, 0, none⟩) 48 c5] 28)) := hbw5.alloc hbw5.size _; have hu5 : (w5.alloc (.cells #[.slice (some ⟨g5, 0, none⟩) 48 c5] 28)).cell? ⟨w5.heap.size, 0, none⟩ = some (.slice (some ⟨g5, 0, none⟩) 48 c5) := (Blk.new w5 28 #[.slice (some ⟨g5, 0, none⟩) 48 c5]).cell 0; clear hv5 hx4 hx3 HP2 hmE hbE; go_wp2_with (at_builtin; go_loud (refine wpList_append_one rfl (.tmp 52) (.tmp 59) 219 rfl 28 24 Tryz.underlying219 info_ints w.heap.size _ (q - 1) vs rfl (owns_below hvs hbw6 lr) (Nat.le_trans hbel.size hbw6.size) w5.heap.size 0 1 (.slice (some ⟨g5, 0, none⟩) 48 c5) rfl hu5 rfl (by omega) (by omega) ?_); intro v6 w6 h61 h62 h63)
    go_wp2
    go_roundw
    case rel =>
     have hq' : q + 1 - 1 = q - 1 + 1 := by omega
     have hWB : Below wB.heap.size wB (w5.alloc (.cells #[.slice (some ⟨g5, 0, none⟩) 48 c5] 28)) := (hy4.trans (hb5.mono hy4.size)).alloc (hy4.trans (hb5.mono hy4.size)).size _; refine ⟨q + 1, by omega, by omega, by go_num, ?_, ?_, ?_, ?_⟩
     ·
      rw [hq', HC1.out]; exact HalfAt.push ⟨gA, 0, cpA, rfl, hcpA, HLA.out, hAN.below hWB hltA2, Nat.lt_of_lt_of_le hltA2 hWB.size, fun h => by have := (hvlt _ h).2; omega⟩ h62 h63
     ·
      rw [hq', HD1.out]; exact HalfAt.push ⟨gB, 0, cpB, rfl, hcpB, HLB.out, hNB.below hWB hltB, Nat.lt_of_lt_of_le hltB hWB.size, fun h => by have := (hvlt _ h).2; have := hy2A.size; omega⟩ h62 h63
     ·
      rw [hq']; refine KeysAt.push (fun j hj => ?_) (by rw [HVN.out]; omega) (by simp; omega) hl48 (hN5.alloc _) (fun h => by have := (hvlt _ h).2; have := hbw.size; have := hy4.size; omega) h61 h62 h63; obtain ⟨u, hu, hr, hne⟩ := hrows j hj; exact ⟨u, hu, hr.below hbw6 lr, hne⟩
     ·
      exact (hbel.trans (hbw6.mono hbel.size)).grown h62 (Nat.le_trans hbel.size hbw6.size) (fun k hk => (hvlt k hk).1)
    case measure => simp [intOf]; omega

   ·
    have t0 : ((q : Int) == 1) = false := by rw [beq_eq_false_iff_ne]; omega
    have t1 : ((q : Int) == 2) = true := by rw [beq_iff_eq]; omega
    have hrot : rotN (q - 1) = 1 := by unfold rotN; rw [if_pos (by omega)]
    have hC1 := HC0.out (q - 1); have hD1 := HD0.out (q - 1); rw [hrot, hCe] at hC1; rw [hrot, hDe] at hD1; clear hc hrot; have HC1 := Hh hC1; clear hC1; have HD1 := Hh hD1; clear hD1; go_wp2_with fail
    refine wp_region_tree (.q 1 (.q 2 (.q 3 (.q 5 (.q 6 (.q 7 (.e [0] fun _ => .e [4] fun _ => .e [8] fun _ => .q 9 .done))))))) (fun _ => True) rfl (by kernel_rfl) (fun _ _ d _ _ h => by cases d <;> exact h) ?_
    iterate 2 (refine t_q rfl rfl trivial _ (fun W hW => by (go_simp; rfl)) ?_; go_simp)
    refine t_q rfl rfl trivial (.slice (some ⟨gc, oc + 1, none⟩) 27 (cc - 1)) (fun W hW => by (go_simp; try omega)) ?_; go_simp
    iterate 2 (refine t_q rfl rfl trivial _ (fun W hW => by (go_simp; rfl)) ?_; go_simp)
    refine t_q rfl rfl trivial (.slice (some ⟨gc, oc, none⟩) 1 cc) (fun W hW => by (go_simp; try omega)) ?_; go_simp
    refine t_e rfl rfl fun K hK => ?_; go_simp
    refine hK _ _ trivial ?_; clear hK K
    change wpT _ _ _ _ _ _ ((wr).drew.alloc (.cells #[] 3))
    have hmA : OwnN 3 .i64 ((wr).drew.alloc (.cells #[] 3)) (wr).heap.size (.slice (some ⟨(wr).heap.size, 0, none⟩) 0 0) [] := OwnN.made _ _ (wr).drew _ lr; have hbA : Below (wr).heap.size wr ((wr).drew.alloc (.cells #[] 3)) := (below_drewN (Below.refl _ _) 1).alloc lr _; refine t_e rfl rfl fun K hK => ?_; refine op_append_nums (.tmp 34) (.tmp 37) 28 rfl .i64 3 8 Tryz.underlying28 info_int (wr).heap.size wr _ [] rfl hmA hbA (by simp) _ 27 _ (C.drop 1) rfl (by rw [List.length_drop, lc]) ⟨_, _, rfl, (Ns.drewN (by have := Nc.sub 1 27; rwa [List.take_of_length_le (by rw [List.length_drop, lc]; decide)] at this) 1).alloc _⟩ (by simp) (by omega) fun x1A w1A hx1A hy1A hz1A => ?_; refine hK _ _ trivial ?_; clear hK K; go_simp
    refine t_e rfl rfl fun K hK => ?_; refine op_append_nums (.tmp 38) (.tmp 41) 28 rfl .i64 3 8 Tryz.underlying28 info_int (wr).heap.size wr _ ([] ++ C.drop 1) rfl hx1A hy1A hy1A.size _ 1 _ (C.take 1) rfl (by rw [List.length_take, lc]; decide) ⟨_, _, rfl, (by have := (Nc.below hy1A kc).sub 0 1; simpa using this)⟩ (by rw [List.nil_append, List.length_drop, lc]; decide) (by omega) fun x2A wA hx2A hy2A hz2A => ?_; refine hK _ _ trivial ?_; clear hK K; go_simp
    refine t_q rfl rfl trivial _ (fun W hW => by (go_simp; rfl)) ?_; go_simp
    refine t_done ?_; rw [List.nil_append] at hx2A; have hLA : (C.drop 1 ++ C.take 1).length = 28 := by rw [List.length_append, List.length_drop, List.length_take, lc]; decide
    obtain ⟨gA, cpA, rfl, hgA, hcpA, hltA, hNA⟩ := hx2A.at_ (by intro h; rw [h] at hLA; cases hLA); rw [hLA] at hcpA ⊢; clear hx1A hx2A hmA; have Nd := Nd.below hy2A kd; have kd : gd < wA.heap.size := Nat.lt_of_lt_of_le kd hy2A.size; go_wp2_with fail
    refine wp_region_tree (.q 1 (.q 2 (.q 3 (.q 5 (.q 6 (.q 7 (.e [0] fun _ => .e [4] fun _ => .e [8] fun _ => .q 9 .done))))))) (fun _ => True) rfl (by kernel_rfl) (fun _ _ d _ _ h => by cases d <;> exact h) ?_
    iterate 2 (refine t_q rfl rfl trivial _ (fun W hW => by (go_simp; rfl)) ?_; go_simp)
    refine t_q rfl rfl trivial (.slice (some ⟨gd, od + 1, none⟩) 27 (cd - 1)) (fun W hW => by (go_simp; try omega)) ?_; go_simp
    iterate 2 (refine t_q rfl rfl trivial _ (fun W hW => by (go_simp; rfl)) ?_; go_simp)
    refine t_q rfl rfl trivial (.slice (some ⟨gd, od, none⟩) 1 cd) (fun W hW => by (go_simp; try omega)) ?_; go_simp
    refine t_e rfl rfl fun K hK => ?_; go_simp
    refine hK _ _ trivial ?_; clear hK K
    change wpT _ _ _ _ _ _ ((wA).drew.alloc (.cells #[] 3))
    have hmB : OwnN 3 .i64 ((wA).drew.alloc (.cells #[] 3)) (wA).heap.size (.slice (some ⟨(wA).heap.size, 0, none⟩) 0 0) [] := OwnN.made _ _ (wA).drew _ lr; have hbB : Below (wA).heap.size wA ((wA).drew.alloc (.cells #[] 3)) := (below_drewN (Below.refl _ _) 1).alloc lr _; refine t_e rfl rfl fun K hK => ?_; refine op_append_nums (.tmp 43) (.tmp 46) 28 rfl .i64 3 8 Tryz.underlying28 info_int (wA).heap.size wA _ [] rfl hmB hbB (by simp) _ 27 _ (D.drop 1) rfl (by rw [List.length_drop, ld]) ⟨_, _, rfl, (Ns.drewN (by have := Nd.sub 1 27; rwa [List.take_of_length_le (by rw [List.length_drop, ld]; decide)] at this) 1).alloc _⟩ (by simp) (by omega) fun x1B w1B hx1B hy1B hz1B => ?_; refine hK _ _ trivial ?_; clear hK K; go_simp
    refine t_e rfl rfl fun K hK => ?_; refine op_append_nums (.tmp 47) (.tmp 50) 28 rfl .i64 3 8 Tryz.underlying28 info_int (wA).heap.size wA _ ([] ++ D.drop 1) rfl hx1B hy1B hy1B.size _ 1 _ (D.take 1) rfl (by rw [List.length_take, ld]; decide) ⟨_, _, rfl, (by have := (Nd.below hy1B kd).sub 0 1; simpa using this)⟩ (by rw [List.nil_append, List.length_drop, ld]; decide) (by omega) fun x2B wB hx2B hy2B hz2B => ?_; refine hK _ _ trivial ?_; clear hK K; go_simp
    refine t_q rfl rfl trivial _ (fun W hW => by (go_simp; rfl)) ?_; go_simp
    refine t_done ?_; rw [List.nil_append] at hx2B; have hLB : (D.drop 1 ++ D.take 1).length = 28 := by rw [List.length_append, List.length_drop, List.length_take, ld]; decide
    obtain ⟨gB, cpB, rfl, hgB, hcpB, hltB, hNB⟩ := hx2B.at_ (by intro h; rw [h] at hLB; cases hLB); rw [hLB] at hcpB ⊢; clear hx1B hx2B hmB; have hAN := hNA.below hy2B hltA; have hbw : Below wr.heap.size wr wB := hy2A.trans (hy2B.mono hy2A.size); have hmE : OwnN 3 .i64 (wB.alloc (.cells #[] 3)) wB.heap.size (.slice (some ⟨wB.heap.size, 0, none⟩) 0 0) [] := OwnN.made _ _ wB _ lr; have hbE : Below wB.heap.size wB (wB.alloc (.cells #[] 3)) := (Below.refl _ _).alloc lr _; have hltA2 : gA < wB.heap.size := Nat.lt_of_lt_of_le hltA hy2B.size; obtain ⟨CA, hCA⟩ : ∃ CA, C.drop 1 ++ C.take 1 = CA := ⟨_, rfl⟩; obtain ⟨DA, hDA⟩ : ∃ DA, D.drop 1 ++ D.take 1 = DA := ⟨_, rfl⟩; rw [hCA] at hAN hLA HC1; rw [hDA] at hNB hLB HD1; rw [HC1.out, HD1.out] at HKR1; clear hCA hDA hNA; have HLA := Hh hLA; clear hLA; have HLB := Hh hLB; clear hLB
    go_wp2_with (first
     | (at_builtin; refine wpList_append_nums rfl (.tmp 53) (.tmp 54) 28 rfl .i64 3 8 Tryz.underlying28 info_int wB.heap.size wB _ [] rfl hmE hbE (by simp) _ 28 _ CA rfl HLA.out ⟨_, _, rfl, hAN.alloc _⟩ (by simp) (by omega) ?_; intro x3 w3 hx3 hy3 hz3)
     | (at_builtin; refine wpList_append_nums rfl (.tmp 55) (.tmp 56) 28 rfl .i64 3 8 Tryz.underlying28 info_int wB.heap.size wB _ ([] ++ CA) rfl hx3 hy3 hy3.size _ 28 _ DA rfl HLB.out ⟨_, _, rfl, hNB.below hy3 hltB⟩ (by rw [List.nil_append, HLA.out]; decide) (by omega) ?_; intro x4 w4 hx4 hy4 hz4; rw [List.nil_append] at hx4; obtain ⟨A4, c4, rfl, -, hN4⟩ := hx4.form))
    have hL4 : (CA ++ DA).length = 56 := by rw [List.length_append, HLA.out, HLB.out]
    have HP2 := Hh (fun (tab : ByteArray) (ht : Tab tab 56 psPC2) W hA => perm3_any (CA ++ DA) A4 c4 tab 56 psPC2 ht (by decide) (by rw [hL4]; decide) W hA); rw [← HKR1.out, hL4] at HP2; rw [show CA.length + DA.length = 56 by rw [HLA.out, HLB.out]]; refine (HP2.out _ (tab_of (by kernel_rfl)) _ hN4).mono ?_; rintro e w5 ⟨⟨v5, rfl, hv5⟩, hb5⟩; have hl48 := keyR_len key (q - 1); obtain ⟨g5, c5, rfl, hg5, hc5, hlt5, hN5⟩ := hv5.at_ (by intro h; rw [h] at hl48; cases hl48); rw [hl48]; have hbw5 : Below wr.heap.size wr w5 := hbw.trans ((hy4.mono hbw.size).trans (hb5.mono (Nat.le_trans hbw.size hy4.size))); have hbw6 : Below wr.heap.size wr (w5.alloc (.cells #[.slice (some ⟨g5, 0, none⟩) 48 c5] 28)) := hbw5.alloc hbw5.size _; have hu5 : (w5.alloc (.cells #[.slice (some ⟨g5, 0, none⟩) 48 c5] 28)).cell? ⟨w5.heap.size, 0, none⟩ = some (.slice (some ⟨g5, 0, none⟩) 48 c5) := (Blk.new w5 28 #[.slice (some ⟨g5, 0, none⟩) 48 c5]).cell 0; clear hv5 hx4 hx3 HP2 hmE hbE; go_wp2_with (at_builtin; go_loud (refine wpList_append_one rfl (.tmp 52) (.tmp 59) 219 rfl 28 24 Tryz.underlying219 info_ints w.heap.size _ (q - 1) vs rfl (owns_below hvs hbw6 lr) (Nat.le_trans hbel.size hbw6.size) w5.heap.size 0 1 (.slice (some ⟨g5, 0, none⟩) 48 c5) rfl hu5 rfl (by omega) (by omega) ?_); intro v6 w6 h61 h62 h63)
    go_wp2
    go_roundw
    case rel =>
     have hq' : q + 1 - 1 = q - 1 + 1 := by omega
     have hWB : Below wB.heap.size wB (w5.alloc (.cells #[.slice (some ⟨g5, 0, none⟩) 48 c5] 28)) := (hy4.trans (hb5.mono hy4.size)).alloc (hy4.trans (hb5.mono hy4.size)).size _; refine ⟨q + 1, by omega, by omega, by go_num, ?_, ?_, ?_, ?_⟩
     ·
      rw [hq', HC1.out]; exact HalfAt.push ⟨gA, 0, cpA, rfl, hcpA, HLA.out, hAN.below hWB hltA2, Nat.lt_of_lt_of_le hltA2 hWB.size, fun h => by have := (hvlt _ h).2; omega⟩ h62 h63
     ·
      rw [hq', HD1.out]; exact HalfAt.push ⟨gB, 0, cpB, rfl, hcpB, HLB.out, hNB.below hWB hltB, Nat.lt_of_lt_of_le hltB hWB.size, fun h => by have := (hvlt _ h).2; have := hy2A.size; omega⟩ h62 h63
     ·
      rw [hq']; refine KeysAt.push (fun j hj => ?_) (by rw [HVN.out]; omega) (by simp; omega) hl48 (hN5.alloc _) (fun h => by have := (hvlt _ h).2; have := hbw.size; have := hy4.size; omega) h61 h62 h63; obtain ⟨u, hu, hr, hne⟩ := hrows j hj; exact ⟨u, hu, hr.below hbw6 lr, hne⟩
     ·
      exact (hbel.trans (hbw6.mono hbel.size)).grown h62 (Nat.le_trans hbel.size hbw6.size) (fun k hk => (hvlt k hk).1)
    case measure => simp [intOf]; omega

   ·
    have t0 : ((q : Int) == 1) = false := by rw [beq_eq_false_iff_ne]; omega
    have t1 : ((q : Int) == 2) = false := by rw [beq_eq_false_iff_ne]; omega
    have t2 : ((q : Int) == 9) = true := by rw [beq_iff_eq]; omega
    have hrot : rotN (q - 1) = 1 := by unfold rotN; rw [if_pos (by omega)]
    have hC1 := HC0.out (q - 1); have hD1 := HD0.out (q - 1); rw [hrot, hCe] at hC1; rw [hrot, hDe] at hD1; clear hc hrot; have HC1 := Hh hC1; clear hC1; have HD1 := Hh hD1; clear hD1; go_wp2_with fail
    refine wp_region_tree (.q 1 (.q 2 (.q 3 (.q 5 (.q 6 (.q 7 (.e [0] fun _ => .e [4] fun _ => .e [8] fun _ => .q 9 .done))))))) (fun _ => True) rfl (by kernel_rfl) (fun _ _ d _ _ h => by cases d <;> exact h) ?_
    iterate 2 (refine t_q rfl rfl trivial _ (fun W hW => by (go_simp; rfl)) ?_; go_simp)
    refine t_q rfl rfl trivial (.slice (some ⟨gc, oc + 1, none⟩) 27 (cc - 1)) (fun W hW => by (go_simp; try omega)) ?_; go_simp
    iterate 2 (refine t_q rfl rfl trivial _ (fun W hW => by (go_simp; rfl)) ?_; go_simp)
    refine t_q rfl rfl trivial (.slice (some ⟨gc, oc, none⟩) 1 cc) (fun W hW => by (go_simp; try omega)) ?_; go_simp
    refine t_e rfl rfl fun K hK => ?_; go_simp
    refine hK _ _ trivial ?_; clear hK K
    change wpT _ _ _ _ _ _ ((wr).drew.alloc (.cells #[] 3))
    have hmA : OwnN 3 .i64 ((wr).drew.alloc (.cells #[] 3)) (wr).heap.size (.slice (some ⟨(wr).heap.size, 0, none⟩) 0 0) [] := OwnN.made _ _ (wr).drew _ lr; have hbA : Below (wr).heap.size wr ((wr).drew.alloc (.cells #[] 3)) := (below_drewN (Below.refl _ _) 1).alloc lr _; refine t_e rfl rfl fun K hK => ?_; refine op_append_nums (.tmp 34) (.tmp 37) 28 rfl .i64 3 8 Tryz.underlying28 info_int (wr).heap.size wr _ [] rfl hmA hbA (by simp) _ 27 _ (C.drop 1) rfl (by rw [List.length_drop, lc]) ⟨_, _, rfl, (Ns.drewN (by have := Nc.sub 1 27; rwa [List.take_of_length_le (by rw [List.length_drop, lc]; decide)] at this) 1).alloc _⟩ (by simp) (by omega) fun x1A w1A hx1A hy1A hz1A => ?_; refine hK _ _ trivial ?_; clear hK K; go_simp
    refine t_e rfl rfl fun K hK => ?_; refine op_append_nums (.tmp 38) (.tmp 41) 28 rfl .i64 3 8 Tryz.underlying28 info_int (wr).heap.size wr _ ([] ++ C.drop 1) rfl hx1A hy1A hy1A.size _ 1 _ (C.take 1) rfl (by rw [List.length_take, lc]; decide) ⟨_, _, rfl, (by have := (Nc.below hy1A kc).sub 0 1; simpa using this)⟩ (by rw [List.nil_append, List.length_drop, lc]; decide) (by omega) fun x2A wA hx2A hy2A hz2A => ?_; refine hK _ _ trivial ?_; clear hK K; go_simp
    refine t_q rfl rfl trivial _ (fun W hW => by (go_simp; rfl)) ?_; go_simp
    refine t_done ?_; rw [List.nil_append] at hx2A; have hLA : (C.drop 1 ++ C.take 1).length = 28 := by rw [List.length_append, List.length_drop, List.length_take, lc]; decide
    obtain ⟨gA, cpA, rfl, hgA, hcpA, hltA, hNA⟩ := hx2A.at_ (by intro h; rw [h] at hLA; cases hLA); rw [hLA] at hcpA ⊢; clear hx1A hx2A hmA; have Nd := Nd.below hy2A kd; have kd : gd < wA.heap.size := Nat.lt_of_lt_of_le kd hy2A.size; go_wp2_with fail
    refine wp_region_tree (.q 1 (.q 2 (.q 3 (.q 5 (.q 6 (.q 7 (.e [0] fun _ => .e [4] fun _ => .e [8] fun _ => .q 9 .done))))))) (fun _ => True) rfl (by kernel_rfl) (fun _ _ d _ _ h => by cases d <;> exact h) ?_
    iterate 2 (refine t_q rfl rfl trivial _ (fun W hW => by (go_simp; rfl)) ?_; go_simp)
    refine t_q rfl rfl trivial (.slice (some ⟨gd, od + 1, none⟩) 27 (cd - 1)) (fun W hW => by (go_simp; try omega)) ?_; go_simp
    iterate 2 (refine t_q rfl rfl trivial _ (fun W hW => by (go_simp; rfl)) ?_; go_simp)
    refine t_q rfl rfl trivial (.slice (some ⟨gd, od, none⟩) 1 cd) (fun W hW => by (go_simp; try omega)) ?_; go_simp
    refine t_e rfl rfl fun K hK => ?_; go_simp
    refine hK _ _ trivial ?_; clear hK K
    change wpT _ _ _ _ _ _ ((wA).drew.alloc (.cells #[] 3))
    have hmB : OwnN 3 .i64 ((wA).drew.alloc (.cells #[] 3)) (wA).heap.size (.slice (some ⟨(wA).heap.size, 0, none⟩) 0 0) [] := OwnN.made _ _ (wA).drew _ lr; have hbB : Below (wA).heap.size wA ((wA).drew.alloc (.cells #[] 3)) := (below_drewN (Below.refl _ _) 1).alloc lr _; refine t_e rfl rfl fun K hK => ?_; refine op_append_nums (.tmp 43) (.tmp 46) 28 rfl .i64 3 8 Tryz.underlying28 info_int (wA).heap.size wA _ [] rfl hmB hbB (by simp) _ 27 _ (D.drop 1) rfl (by rw [List.length_drop, ld]) ⟨_, _, rfl, (Ns.drewN (by have := Nd.sub 1 27; rwa [List.take_of_length_le (by rw [List.length_drop, ld]; decide)] at this) 1).alloc _⟩ (by simp) (by omega) fun x1B w1B hx1B hy1B hz1B => ?_; refine hK _ _ trivial ?_; clear hK K; go_simp
    refine t_e rfl rfl fun K hK => ?_; refine op_append_nums (.tmp 47) (.tmp 50) 28 rfl .i64 3 8 Tryz.underlying28 info_int (wA).heap.size wA _ ([] ++ D.drop 1) rfl hx1B hy1B hy1B.size _ 1 _ (D.take 1) rfl (by rw [List.length_take, ld]; decide) ⟨_, _, rfl, (by have := (Nd.below hy1B kd).sub 0 1; simpa using this)⟩ (by rw [List.nil_append, List.length_drop, ld]; decide) (by omega) fun x2B wB hx2B hy2B hz2B => ?_; refine hK _ _ trivial ?_; clear hK K; go_simp
    refine t_q rfl rfl trivial _ (fun W hW => by (go_simp; rfl)) ?_; go_simp
    refine t_done ?_; rw [List.nil_append] at hx2B; have hLB : (D.drop 1 ++ D.take 1).length = 28 := by rw [List.length_append, List.length_drop, List.length_take, ld]; decide
    obtain ⟨gB, cpB, rfl, hgB, hcpB, hltB, hNB⟩ := hx2B.at_ (by intro h; rw [h] at hLB; cases hLB); rw [hLB] at hcpB ⊢; clear hx1B hx2B hmB; have hAN := hNA.below hy2B hltA; have hbw : Below wr.heap.size wr wB := hy2A.trans (hy2B.mono hy2A.size); have hmE : OwnN 3 .i64 (wB.alloc (.cells #[] 3)) wB.heap.size (.slice (some ⟨wB.heap.size, 0, none⟩) 0 0) [] := OwnN.made _ _ wB _ lr; have hbE : Below wB.heap.size wB (wB.alloc (.cells #[] 3)) := (Below.refl _ _).alloc lr _; have hltA2 : gA < wB.heap.size := Nat.lt_of_lt_of_le hltA hy2B.size; obtain ⟨CA, hCA⟩ : ∃ CA, C.drop 1 ++ C.take 1 = CA := ⟨_, rfl⟩; obtain ⟨DA, hDA⟩ : ∃ DA, D.drop 1 ++ D.take 1 = DA := ⟨_, rfl⟩; rw [hCA] at hAN hLA HC1; rw [hDA] at hNB hLB HD1; rw [HC1.out, HD1.out] at HKR1; clear hCA hDA hNA; have HLA := Hh hLA; clear hLA; have HLB := Hh hLB; clear hLB
    go_wp2_with (first
     | (at_builtin; refine wpList_append_nums rfl (.tmp 53) (.tmp 54) 28 rfl .i64 3 8 Tryz.underlying28 info_int wB.heap.size wB _ [] rfl hmE hbE (by simp) _ 28 _ CA rfl HLA.out ⟨_, _, rfl, hAN.alloc _⟩ (by simp) (by omega) ?_; intro x3 w3 hx3 hy3 hz3)
     | (at_builtin; refine wpList_append_nums rfl (.tmp 55) (.tmp 56) 28 rfl .i64 3 8 Tryz.underlying28 info_int wB.heap.size wB _ ([] ++ CA) rfl hx3 hy3 hy3.size _ 28 _ DA rfl HLB.out ⟨_, _, rfl, hNB.below hy3 hltB⟩ (by rw [List.nil_append, HLA.out]; decide) (by omega) ?_; intro x4 w4 hx4 hy4 hz4; rw [List.nil_append] at hx4; obtain ⟨A4, c4, rfl, -, hN4⟩ := hx4.form))
    have hL4 : (CA ++ DA).length = 56 := by rw [List.length_append, HLA.out, HLB.out]
    have HP2 := Hh (fun (tab : ByteArray) (ht : Tab tab 56 psPC2) W hA => perm3_any (CA ++ DA) A4 c4 tab 56 psPC2 ht (by decide) (by rw [hL4]; decide) W hA); rw [← HKR1.out, hL4] at HP2; rw [show CA.length + DA.length = 56 by rw [HLA.out, HLB.out]]; refine (HP2.out _ (tab_of (by kernel_rfl)) _ hN4).mono ?_; rintro e w5 ⟨⟨v5, rfl, hv5⟩, hb5⟩; have hl48 := keyR_len key (q - 1); obtain ⟨g5, c5, rfl, hg5, hc5, hlt5, hN5⟩ := hv5.at_ (by intro h; rw [h] at hl48; cases hl48); rw [hl48]; have hbw5 : Below wr.heap.size wr w5 := hbw.trans ((hy4.mono hbw.size).trans (hb5.mono (Nat.le_trans hbw.size hy4.size))); have hbw6 : Below wr.heap.size wr (w5.alloc (.cells #[.slice (some ⟨g5, 0, none⟩) 48 c5] 28)) := hbw5.alloc hbw5.size _; have hu5 : (w5.alloc (.cells #[.slice (some ⟨g5, 0, none⟩) 48 c5] 28)).cell? ⟨w5.heap.size, 0, none⟩ = some (.slice (some ⟨g5, 0, none⟩) 48 c5) := (Blk.new w5 28 #[.slice (some ⟨g5, 0, none⟩) 48 c5]).cell 0; clear hv5 hx4 hx3 HP2 hmE hbE; go_wp2_with (at_builtin; go_loud (refine wpList_append_one rfl (.tmp 52) (.tmp 59) 219 rfl 28 24 Tryz.underlying219 info_ints w.heap.size _ (q - 1) vs rfl (owns_below hvs hbw6 lr) (Nat.le_trans hbel.size hbw6.size) w5.heap.size 0 1 (.slice (some ⟨g5, 0, none⟩) 48 c5) rfl hu5 rfl (by omega) (by omega) ?_); intro v6 w6 h61 h62 h63)
    go_wp2
    go_roundw
    case rel =>
     have hq' : q + 1 - 1 = q - 1 + 1 := by omega
     have hWB : Below wB.heap.size wB (w5.alloc (.cells #[.slice (some ⟨g5, 0, none⟩) 48 c5] 28)) := (hy4.trans (hb5.mono hy4.size)).alloc (hy4.trans (hb5.mono hy4.size)).size _; refine ⟨q + 1, by omega, by omega, by go_num, ?_, ?_, ?_, ?_⟩
     ·
      rw [hq', HC1.out]; exact HalfAt.push ⟨gA, 0, cpA, rfl, hcpA, HLA.out, hAN.below hWB hltA2, Nat.lt_of_lt_of_le hltA2 hWB.size, fun h => by have := (hvlt _ h).2; omega⟩ h62 h63
     ·
      rw [hq', HD1.out]; exact HalfAt.push ⟨gB, 0, cpB, rfl, hcpB, HLB.out, hNB.below hWB hltB, Nat.lt_of_lt_of_le hltB hWB.size, fun h => by have := (hvlt _ h).2; have := hy2A.size; omega⟩ h62 h63
     ·
      rw [hq']; refine KeysAt.push (fun j hj => ?_) (by rw [HVN.out]; omega) (by simp; omega) hl48 (hN5.alloc _) (fun h => by have := (hvlt _ h).2; have := hbw.size; have := hy4.size; omega) h61 h62 h63; obtain ⟨u, hu, hr, hne⟩ := hrows j hj; exact ⟨u, hu, hr.below hbw6 lr, hne⟩
     ·
      exact (hbel.trans (hbw6.mono hbel.size)).grown h62 (Nat.le_trans hbel.size hbw6.size) (fun k hk => (hvlt k hk).1)
    case measure => simp [intOf]; omega

   ·
    have t0 : ((q : Int) == 1) = false := by rw [beq_eq_false_iff_ne]; omega
    have t1 : ((q : Int) == 2) = false := by rw [beq_eq_false_iff_ne]; omega
    have t2 : ((q : Int) == 9) = false := by rw [beq_eq_false_iff_ne]; omega
    have t3 : ((q : Int) == 16) = true := by rw [beq_iff_eq]; omega
    have hrot : rotN (q - 1) = 1 := by unfold rotN; rw [if_pos (by omega)]
    have hC1 := HC0.out (q - 1); have hD1 := HD0.out (q - 1); rw [hrot, hCe] at hC1; rw [hrot, hDe] at hD1; clear hc hrot; have HC1 := Hh hC1; clear hC1; have HD1 := Hh hD1; clear hD1; go_wp2_with fail
    refine wp_region_tree (.q 1 (.q 2 (.q 3 (.q 5 (.q 6 (.q 7 (.e [0] fun _ => .e [4] fun _ => .e [8] fun _ => .q 9 .done))))))) (fun _ => True) rfl (by kernel_rfl) (fun _ _ d _ _ h => by cases d <;> exact h) ?_
    iterate 2 (refine t_q rfl rfl trivial _ (fun W hW => by (go_simp; rfl)) ?_; go_simp)
    refine t_q rfl rfl trivial (.slice (some ⟨gc, oc + 1, none⟩) 27 (cc - 1)) (fun W hW => by (go_simp; try omega)) ?_; go_simp
    iterate 2 (refine t_q rfl rfl trivial _ (fun W hW => by (go_simp; rfl)) ?_; go_simp)
    refine t_q rfl rfl trivial (.slice (some ⟨gc, oc, none⟩) 1 cc) (fun W hW => by (go_simp; try omega)) ?_; go_simp
    refine t_e rfl rfl fun K hK => ?_; go_simp
    refine hK _ _ trivial ?_; clear hK K
    change wpT _ _ _ _ _ _ ((wr).drew.alloc (.cells #[] 3))
    have hmA : OwnN 3 .i64 ((wr).drew.alloc (.cells #[] 3)) (wr).heap.size (.slice (some ⟨(wr).heap.size, 0, none⟩) 0 0) [] := OwnN.made _ _ (wr).drew _ lr; have hbA : Below (wr).heap.size wr ((wr).drew.alloc (.cells #[] 3)) := (below_drewN (Below.refl _ _) 1).alloc lr _; refine t_e rfl rfl fun K hK => ?_; refine op_append_nums (.tmp 34) (.tmp 37) 28 rfl .i64 3 8 Tryz.underlying28 info_int (wr).heap.size wr _ [] rfl hmA hbA (by simp) _ 27 _ (C.drop 1) rfl (by rw [List.length_drop, lc]) ⟨_, _, rfl, (Ns.drewN (by have := Nc.sub 1 27; rwa [List.take_of_length_le (by rw [List.length_drop, lc]; decide)] at this) 1).alloc _⟩ (by simp) (by omega) fun x1A w1A hx1A hy1A hz1A => ?_; refine hK _ _ trivial ?_; clear hK K; go_simp
    refine t_e rfl rfl fun K hK => ?_; refine op_append_nums (.tmp 38) (.tmp 41) 28 rfl .i64 3 8 Tryz.underlying28 info_int (wr).heap.size wr _ ([] ++ C.drop 1) rfl hx1A hy1A hy1A.size _ 1 _ (C.take 1) rfl (by rw [List.length_take, lc]; decide) ⟨_, _, rfl, (by have := (Nc.below hy1A kc).sub 0 1; simpa using this)⟩ (by rw [List.nil_append, List.length_drop, lc]; decide) (by omega) fun x2A wA hx2A hy2A hz2A => ?_; refine hK _ _ trivial ?_; clear hK K; go_simp
    refine t_q rfl rfl trivial _ (fun W hW => by (go_simp; rfl)) ?_; go_simp
    refine t_done ?_; rw [List.nil_append] at hx2A; have hLA : (C.drop 1 ++ C.take 1).length = 28 := by rw [List.length_append, List.length_drop, List.length_take, lc]; decide
    obtain ⟨gA, cpA, rfl, hgA, hcpA, hltA, hNA⟩ := hx2A.at_ (by intro h; rw [h] at hLA; cases hLA); rw [hLA] at hcpA ⊢; clear hx1A hx2A hmA; have Nd := Nd.below hy2A kd; have kd : gd < wA.heap.size := Nat.lt_of_lt_of_le kd hy2A.size; go_wp2_with fail
    refine wp_region_tree (.q 1 (.q 2 (.q 3 (.q 5 (.q 6 (.q 7 (.e [0] fun _ => .e [4] fun _ => .e [8] fun _ => .q 9 .done))))))) (fun _ => True) rfl (by kernel_rfl) (fun _ _ d _ _ h => by cases d <;> exact h) ?_
    iterate 2 (refine t_q rfl rfl trivial _ (fun W hW => by (go_simp; rfl)) ?_; go_simp)
    refine t_q rfl rfl trivial (.slice (some ⟨gd, od + 1, none⟩) 27 (cd - 1)) (fun W hW => by (go_simp; try omega)) ?_; go_simp
    iterate 2 (refine t_q rfl rfl trivial _ (fun W hW => by (go_simp; rfl)) ?_; go_simp)
    refine t_q rfl rfl trivial (.slice (some ⟨gd, od, none⟩) 1 cd) (fun W hW => by (go_simp; try omega)) ?_; go_simp
    refine t_e rfl rfl fun K hK => ?_; go_simp
    refine hK _ _ trivial ?_; clear hK K
    change wpT _ _ _ _ _ _ ((wA).drew.alloc (.cells #[] 3))
    have hmB : OwnN 3 .i64 ((wA).drew.alloc (.cells #[] 3)) (wA).heap.size (.slice (some ⟨(wA).heap.size, 0, none⟩) 0 0) [] := OwnN.made _ _ (wA).drew _ lr; have hbB : Below (wA).heap.size wA ((wA).drew.alloc (.cells #[] 3)) := (below_drewN (Below.refl _ _) 1).alloc lr _; refine t_e rfl rfl fun K hK => ?_; refine op_append_nums (.tmp 43) (.tmp 46) 28 rfl .i64 3 8 Tryz.underlying28 info_int (wA).heap.size wA _ [] rfl hmB hbB (by simp) _ 27 _ (D.drop 1) rfl (by rw [List.length_drop, ld]) ⟨_, _, rfl, (Ns.drewN (by have := Nd.sub 1 27; rwa [List.take_of_length_le (by rw [List.length_drop, ld]; decide)] at this) 1).alloc _⟩ (by simp) (by omega) fun x1B w1B hx1B hy1B hz1B => ?_; refine hK _ _ trivial ?_; clear hK K; go_simp
    refine t_e rfl rfl fun K hK => ?_; refine op_append_nums (.tmp 47) (.tmp 50) 28 rfl .i64 3 8 Tryz.underlying28 info_int (wA).heap.size wA _ ([] ++ D.drop 1) rfl hx1B hy1B hy1B.size _ 1 _ (D.take 1) rfl (by rw [List.length_take, ld]; decide) ⟨_, _, rfl, (by have := (Nd.below hy1B kd).sub 0 1; simpa using this)⟩ (by rw [List.nil_append, List.length_drop, ld]; decide) (by omega) fun x2B wB hx2B hy2B hz2B => ?_; refine hK _ _ trivial ?_; clear hK K; go_simp
    refine t_q rfl rfl trivial _ (fun W hW => by (go_simp; rfl)) ?_; go_simp
    refine t_done ?_; rw [List.nil_append] at hx2B; have hLB : (D.drop 1 ++ D.take 1).length = 28 := by rw [List.length_append, List.length_drop, List.length_take, ld]; decide
    obtain ⟨gB, cpB, rfl, hgB, hcpB, hltB, hNB⟩ := hx2B.at_ (by intro h; rw [h] at hLB; cases hLB); rw [hLB] at hcpB ⊢; clear hx1B hx2B hmB; have hAN := hNA.below hy2B hltA; have hbw : Below wr.heap.size wr wB := hy2A.trans (hy2B.mono hy2A.size); have hmE : OwnN 3 .i64 (wB.alloc (.cells #[] 3)) wB.heap.size (.slice (some ⟨wB.heap.size, 0, none⟩) 0 0) [] := OwnN.made _ _ wB _ lr; have hbE : Below wB.heap.size wB (wB.alloc (.cells #[] 3)) := (Below.refl _ _).alloc lr _; have hltA2 : gA < wB.heap.size := Nat.lt_of_lt_of_le hltA hy2B.size; obtain ⟨CA, hCA⟩ : ∃ CA, C.drop 1 ++ C.take 1 = CA := ⟨_, rfl⟩; obtain ⟨DA, hDA⟩ : ∃ DA, D.drop 1 ++ D.take 1 = DA := ⟨_, rfl⟩; rw [hCA] at hAN hLA HC1; rw [hDA] at hNB hLB HD1; rw [HC1.out, HD1.out] at HKR1; clear hCA hDA hNA; have HLA := Hh hLA; clear hLA; have HLB := Hh hLB; clear hLB
    go_wp2_with (first
     | (at_builtin; refine wpList_append_nums rfl (.tmp 53) (.tmp 54) 28 rfl .i64 3 8 Tryz.underlying28 info_int wB.heap.size wB _ [] rfl hmE hbE (by simp) _ 28 _ CA rfl HLA.out ⟨_, _, rfl, hAN.alloc _⟩ (by simp) (by omega) ?_; intro x3 w3 hx3 hy3 hz3)
     | (at_builtin; refine wpList_append_nums rfl (.tmp 55) (.tmp 56) 28 rfl .i64 3 8 Tryz.underlying28 info_int wB.heap.size wB _ ([] ++ CA) rfl hx3 hy3 hy3.size _ 28 _ DA rfl HLB.out ⟨_, _, rfl, hNB.below hy3 hltB⟩ (by rw [List.nil_append, HLA.out]; decide) (by omega) ?_; intro x4 w4 hx4 hy4 hz4; rw [List.nil_append] at hx4; obtain ⟨A4, c4, rfl, -, hN4⟩ := hx4.form))
    have hL4 : (CA ++ DA).length = 56 := by rw [List.length_append, HLA.out, HLB.out]
    have HP2 := Hh (fun (tab : ByteArray) (ht : Tab tab 56 psPC2) W hA => perm3_any (CA ++ DA) A4 c4 tab 56 psPC2 ht (by decide) (by rw [hL4]; decide) W hA); rw [← HKR1.out, hL4] at HP2; rw [show CA.length + DA.length = 56 by rw [HLA.out, HLB.out]]; refine (HP2.out _ (tab_of (by kernel_rfl)) _ hN4).mono ?_; rintro e w5 ⟨⟨v5, rfl, hv5⟩, hb5⟩; have hl48 := keyR_len key (q - 1); obtain ⟨g5, c5, rfl, hg5, hc5, hlt5, hN5⟩ := hv5.at_ (by intro h; rw [h] at hl48; cases hl48); rw [hl48]; have hbw5 : Below wr.heap.size wr w5 := hbw.trans ((hy4.mono hbw.size).trans (hb5.mono (Nat.le_trans hbw.size hy4.size))); have hbw6 : Below wr.heap.size wr (w5.alloc (.cells #[.slice (some ⟨g5, 0, none⟩) 48 c5] 28)) := hbw5.alloc hbw5.size _; have hu5 : (w5.alloc (.cells #[.slice (some ⟨g5, 0, none⟩) 48 c5] 28)).cell? ⟨w5.heap.size, 0, none⟩ = some (.slice (some ⟨g5, 0, none⟩) 48 c5) := (Blk.new w5 28 #[.slice (some ⟨g5, 0, none⟩) 48 c5]).cell 0; clear hv5 hx4 hx3 HP2 hmE hbE; go_wp2_with (at_builtin; go_loud (refine wpList_append_one rfl (.tmp 52) (.tmp 59) 219 rfl 28 24 Tryz.underlying219 info_ints w.heap.size _ (q - 1) vs rfl (owns_below hvs hbw6 lr) (Nat.le_trans hbel.size hbw6.size) w5.heap.size 0 1 (.slice (some ⟨g5, 0, none⟩) 48 c5) rfl hu5 rfl (by omega) (by omega) ?_); intro v6 w6 h61 h62 h63)
    go_wp2
    go_roundw
    case rel =>
     have hq' : q + 1 - 1 = q - 1 + 1 := by omega
     have hWB : Below wB.heap.size wB (w5.alloc (.cells #[.slice (some ⟨g5, 0, none⟩) 48 c5] 28)) := (hy4.trans (hb5.mono hy4.size)).alloc (hy4.trans (hb5.mono hy4.size)).size _; refine ⟨q + 1, by omega, by omega, by go_num, ?_, ?_, ?_, ?_⟩
     ·
      rw [hq', HC1.out]; exact HalfAt.push ⟨gA, 0, cpA, rfl, hcpA, HLA.out, hAN.below hWB hltA2, Nat.lt_of_lt_of_le hltA2 hWB.size, fun h => by have := (hvlt _ h).2; omega⟩ h62 h63
     ·
      rw [hq', HD1.out]; exact HalfAt.push ⟨gB, 0, cpB, rfl, hcpB, HLB.out, hNB.below hWB hltB, Nat.lt_of_lt_of_le hltB hWB.size, fun h => by have := (hvlt _ h).2; have := hy2A.size; omega⟩ h62 h63
     ·
      rw [hq']; refine KeysAt.push (fun j hj => ?_) (by rw [HVN.out]; omega) (by simp; omega) hl48 (hN5.alloc _) (fun h => by have := (hvlt _ h).2; have := hbw.size; have := hy4.size; omega) h61 h62 h63; obtain ⟨u, hu, hr, hne⟩ := hrows j hj; exact ⟨u, hu, hr.below hbw6 lr, hne⟩
     ·
      exact (hbel.trans (hbw6.mono hbel.size)).grown h62 (Nat.le_trans hbel.size hbw6.size) (fun k hk => (hvlt k hk).1)
    case measure => simp [intOf]; omega

   ·
    have t0 : ((q : Int) == 1) = false := by rw [beq_eq_false_iff_ne]; omega
    have t1 : ((q : Int) == 2) = false := by rw [beq_eq_false_iff_ne]; omega
    have t2 : ((q : Int) == 9) = false := by rw [beq_eq_false_iff_ne]; omega
    have t3 : ((q : Int) == 16) = false := by rw [beq_eq_false_iff_ne]; omega
    have hrot : rotN (q - 1) = 2 := by unfold rotN; rw [if_neg (by omega)]
    have hC1 := HC0.out (q - 1); have hD1 := HD0.out (q - 1); rw [hrot, hCe] at hC1; rw [hrot, hDe] at hD1; clear hc hrot; have HC1 := Hh hC1; clear hC1; have HD1 := Hh hD1; clear hD1; go_wp2_with fail
    refine wp_region_tree (.q 1 (.q 2 (.q 3 (.q 5 (.q 6 (.q 7 (.e [0] fun _ => .e [4] fun _ => .e [8] fun _ => .q 9 .done))))))) (fun _ => True) rfl (by kernel_rfl) (fun _ _ d _ _ h => by cases d <;> exact h) ?_
    iterate 2 (refine t_q rfl rfl trivial _ (fun W hW => by (go_simp; rfl)) ?_; go_simp)
    refine t_q rfl rfl trivial (.slice (some ⟨gc, oc + 2, none⟩) 26 (cc - 2)) (fun W hW => by (go_simp; try omega)) ?_; go_simp
    iterate 2 (refine t_q rfl rfl trivial _ (fun W hW => by (go_simp; rfl)) ?_; go_simp)
    refine t_q rfl rfl trivial (.slice (some ⟨gc, oc, none⟩) 2 cc) (fun W hW => by (go_simp; try omega)) ?_; go_simp
    refine t_e rfl rfl fun K hK => ?_; go_simp
    refine hK _ _ trivial ?_; clear hK K
    change wpT _ _ _ _ _ _ ((wr).drew.alloc (.cells #[] 3))
    have hmA : OwnN 3 .i64 ((wr).drew.alloc (.cells #[] 3)) (wr).heap.size (.slice (some ⟨(wr).heap.size, 0, none⟩) 0 0) [] := OwnN.made _ _ (wr).drew _ lr; have hbA : Below (wr).heap.size wr ((wr).drew.alloc (.cells #[] 3)) := (below_drewN (Below.refl _ _) 1).alloc lr _; refine t_e rfl rfl fun K hK => ?_; refine op_append_nums (.tmp 34) (.tmp 37) 28 rfl .i64 3 8 Tryz.underlying28 info_int (wr).heap.size wr _ [] rfl hmA hbA (by simp) _ 26 _ (C.drop 2) rfl (by rw [List.length_drop, lc]) ⟨_, _, rfl, (Ns.drewN (by have := Nc.sub 2 26; rwa [List.take_of_length_le (by rw [List.length_drop, lc]; decide)] at this) 1).alloc _⟩ (by simp) (by omega) fun x1A w1A hx1A hy1A hz1A => ?_; refine hK _ _ trivial ?_; clear hK K; go_simp
    refine t_e rfl rfl fun K hK => ?_; refine op_append_nums (.tmp 38) (.tmp 41) 28 rfl .i64 3 8 Tryz.underlying28 info_int (wr).heap.size wr _ ([] ++ C.drop 2) rfl hx1A hy1A hy1A.size _ 2 _ (C.take 2) rfl (by rw [List.length_take, lc]; decide) ⟨_, _, rfl, (by have := (Nc.below hy1A kc).sub 0 2; simpa using this)⟩ (by rw [List.nil_append, List.length_drop, lc]; decide) (by omega) fun x2A wA hx2A hy2A hz2A => ?_; refine hK _ _ trivial ?_; clear hK K; go_simp
    refine t_q rfl rfl trivial _ (fun W hW => by (go_simp; rfl)) ?_; go_simp
    refine t_done ?_; rw [List.nil_append] at hx2A; have hLA : (C.drop 2 ++ C.take 2).length = 28 := by rw [List.length_append, List.length_drop, List.length_take, lc]; decide
    obtain ⟨gA, cpA, rfl, hgA, hcpA, hltA, hNA⟩ := hx2A.at_ (by intro h; rw [h] at hLA; cases hLA); rw [hLA] at hcpA ⊢; clear hx1A hx2A hmA; have Nd := Nd.below hy2A kd; have kd : gd < wA.heap.size := Nat.lt_of_lt_of_le kd hy2A.size; go_wp2_with fail
    refine wp_region_tree (.q 1 (.q 2 (.q 3 (.q 5 (.q 6 (.q 7 (.e [0] fun _ => .e [4] fun _ => .e [8] fun _ => .q 9 .done))))))) (fun _ => True) rfl (by kernel_rfl) (fun _ _ d _ _ h => by cases d <;> exact h) ?_
    iterate 2 (refine t_q rfl rfl trivial _ (fun W hW => by (go_simp; rfl)) ?_; go_simp)
    refine t_q rfl rfl trivial (.slice (some ⟨gd, od + 2, none⟩) 26 (cd - 2)) (fun W hW => by (go_simp; try omega)) ?_; go_simp
    iterate 2 (refine t_q rfl rfl trivial _ (fun W hW => by (go_simp; rfl)) ?_; go_simp)
    refine t_q rfl rfl trivial (.slice (some ⟨gd, od, none⟩) 2 cd) (fun W hW => by (go_simp; try omega)) ?_; go_simp
    refine t_e rfl rfl fun K hK => ?_; go_simp
    refine hK _ _ trivial ?_; clear hK K
    change wpT _ _ _ _ _ _ ((wA).drew.alloc (.cells #[] 3))
    have hmB : OwnN 3 .i64 ((wA).drew.alloc (.cells #[] 3)) (wA).heap.size (.slice (some ⟨(wA).heap.size, 0, none⟩) 0 0) [] := OwnN.made _ _ (wA).drew _ lr; have hbB : Below (wA).heap.size wA ((wA).drew.alloc (.cells #[] 3)) := (below_drewN (Below.refl _ _) 1).alloc lr _; refine t_e rfl rfl fun K hK => ?_; refine op_append_nums (.tmp 43) (.tmp 46) 28 rfl .i64 3 8 Tryz.underlying28 info_int (wA).heap.size wA _ [] rfl hmB hbB (by simp) _ 26 _ (D.drop 2) rfl (by rw [List.length_drop, ld]) ⟨_, _, rfl, (Ns.drewN (by have := Nd.sub 2 26; rwa [List.take_of_length_le (by rw [List.length_drop, ld]; decide)] at this) 1).alloc _⟩ (by simp) (by omega) fun x1B w1B hx1B hy1B hz1B => ?_; refine hK _ _ trivial ?_; clear hK K; go_simp
    refine t_e rfl rfl fun K hK => ?_; refine op_append_nums (.tmp 47) (.tmp 50) 28 rfl .i64 3 8 Tryz.underlying28 info_int (wA).heap.size wA _ ([] ++ D.drop 2) rfl hx1B hy1B hy1B.size _ 2 _ (D.take 2) rfl (by rw [List.length_take, ld]; decide) ⟨_, _, rfl, (by have := (Nd.below hy1B kd).sub 0 2; simpa using this)⟩ (by rw [List.nil_append, List.length_drop, ld]; decide) (by omega) fun x2B wB hx2B hy2B hz2B => ?_; refine hK _ _ trivial ?_; clear hK K; go_simp
    refine t_q rfl rfl trivial _ (fun W hW => by (go_simp; rfl)) ?_; go_simp
    refine t_done ?_; rw [List.nil_append] at hx2B; have hLB : (D.drop 2 ++ D.take 2).length = 28 := by rw [List.length_append, List.length_drop, List.length_take, ld]; decide
    obtain ⟨gB, cpB, rfl, hgB, hcpB, hltB, hNB⟩ := hx2B.at_ (by intro h; rw [h] at hLB; cases hLB); rw [hLB] at hcpB ⊢; clear hx1B hx2B hmB; have hAN := hNA.below hy2B hltA; have hbw : Below wr.heap.size wr wB := hy2A.trans (hy2B.mono hy2A.size); have hmE : OwnN 3 .i64 (wB.alloc (.cells #[] 3)) wB.heap.size (.slice (some ⟨wB.heap.size, 0, none⟩) 0 0) [] := OwnN.made _ _ wB _ lr; have hbE : Below wB.heap.size wB (wB.alloc (.cells #[] 3)) := (Below.refl _ _).alloc lr _; have hltA2 : gA < wB.heap.size := Nat.lt_of_lt_of_le hltA hy2B.size; obtain ⟨CA, hCA⟩ : ∃ CA, C.drop 2 ++ C.take 2 = CA := ⟨_, rfl⟩; obtain ⟨DA, hDA⟩ : ∃ DA, D.drop 2 ++ D.take 2 = DA := ⟨_, rfl⟩; rw [hCA] at hAN hLA HC1; rw [hDA] at hNB hLB HD1; rw [HC1.out, HD1.out] at HKR1; clear hCA hDA hNA; have HLA := Hh hLA; clear hLA; have HLB := Hh hLB; clear hLB
    go_wp2_with (first
     | (at_builtin; refine wpList_append_nums rfl (.tmp 53) (.tmp 54) 28 rfl .i64 3 8 Tryz.underlying28 info_int wB.heap.size wB _ [] rfl hmE hbE (by simp) _ 28 _ CA rfl HLA.out ⟨_, _, rfl, hAN.alloc _⟩ (by simp) (by omega) ?_; intro x3 w3 hx3 hy3 hz3)
     | (at_builtin; refine wpList_append_nums rfl (.tmp 55) (.tmp 56) 28 rfl .i64 3 8 Tryz.underlying28 info_int wB.heap.size wB _ ([] ++ CA) rfl hx3 hy3 hy3.size _ 28 _ DA rfl HLB.out ⟨_, _, rfl, hNB.below hy3 hltB⟩ (by rw [List.nil_append, HLA.out]; decide) (by omega) ?_; intro x4 w4 hx4 hy4 hz4; rw [List.nil_append] at hx4; obtain ⟨A4, c4, rfl, -, hN4⟩ := hx4.form))
    have hL4 : (CA ++ DA).length = 56 := by rw [List.length_append, HLA.out, HLB.out]
    have HP2 := Hh (fun (tab : ByteArray) (ht : Tab tab 56 psPC2) W hA => perm3_any (CA ++ DA) A4 c4 tab 56 psPC2 ht (by decide) (by rw [hL4]; decide) W hA); rw [← HKR1.out, hL4] at HP2; rw [show CA.length + DA.length = 56 by rw [HLA.out, HLB.out]]; refine (HP2.out _ (tab_of (by kernel_rfl)) _ hN4).mono ?_; rintro e w5 ⟨⟨v5, rfl, hv5⟩, hb5⟩; have hl48 := keyR_len key (q - 1); obtain ⟨g5, c5, rfl, hg5, hc5, hlt5, hN5⟩ := hv5.at_ (by intro h; rw [h] at hl48; cases hl48); rw [hl48]; have hbw5 : Below wr.heap.size wr w5 := hbw.trans ((hy4.mono hbw.size).trans (hb5.mono (Nat.le_trans hbw.size hy4.size))); have hbw6 : Below wr.heap.size wr (w5.alloc (.cells #[.slice (some ⟨g5, 0, none⟩) 48 c5] 28)) := hbw5.alloc hbw5.size _; have hu5 : (w5.alloc (.cells #[.slice (some ⟨g5, 0, none⟩) 48 c5] 28)).cell? ⟨w5.heap.size, 0, none⟩ = some (.slice (some ⟨g5, 0, none⟩) 48 c5) := (Blk.new w5 28 #[.slice (some ⟨g5, 0, none⟩) 48 c5]).cell 0; clear hv5 hx4 hx3 HP2 hmE hbE; go_wp2_with (at_builtin; go_loud (refine wpList_append_one rfl (.tmp 52) (.tmp 59) 219 rfl 28 24 Tryz.underlying219 info_ints w.heap.size _ (q - 1) vs rfl (owns_below hvs hbw6 lr) (Nat.le_trans hbel.size hbw6.size) w5.heap.size 0 1 (.slice (some ⟨g5, 0, none⟩) 48 c5) rfl hu5 rfl (by omega) (by omega) ?_); intro v6 w6 h61 h62 h63)
    go_wp2
    go_roundw
    case rel =>
     have hq' : q + 1 - 1 = q - 1 + 1 := by omega
     have hWB : Below wB.heap.size wB (w5.alloc (.cells #[.slice (some ⟨g5, 0, none⟩) 48 c5] 28)) := (hy4.trans (hb5.mono hy4.size)).alloc (hy4.trans (hb5.mono hy4.size)).size _; refine ⟨q + 1, by omega, by omega, by go_num, ?_, ?_, ?_, ?_⟩
     ·
      rw [hq', HC1.out]; exact HalfAt.push ⟨gA, 0, cpA, rfl, hcpA, HLA.out, hAN.below hWB hltA2, Nat.lt_of_lt_of_le hltA2 hWB.size, fun h => by have := (hvlt _ h).2; omega⟩ h62 h63
     ·
      rw [hq', HD1.out]; exact HalfAt.push ⟨gB, 0, cpB, rfl, hcpB, HLB.out, hNB.below hWB hltB, Nat.lt_of_lt_of_le hltB hWB.size, fun h => by have := (hvlt _ h).2; have := hy2A.size; omega⟩ h62 h63
     ·
      rw [hq']; refine KeysAt.push (fun j hj => ?_) (by rw [HVN.out]; omega) (by simp; omega) hl48 (hN5.alloc _) (fun h => by have := (hvlt _ h).2; have := hbw.size; have := hy4.size; omega) h61 h62 h63; obtain ⟨u, hu, hr, hne⟩ := hrows j hj; exact ⟨u, hu, hr.below hbw6 lr, hne⟩
     ·
      exact (hbel.trans (hbw6.mono hbel.size)).grown h62 (Nat.le_trans hbel.size hbw6.size) (fun k hk => (hvlt k hk).1)
    case measure => simp [intOf]; omega

  ·
   obtain rfl : q = 17 := by omega
   go_wp2
   go_ret
   exact ⟨⟨_, rfl, hKy⟩, hbel⟩

theorem ladderR_len (ks : Nat → List Nat) (L R : List Nat) (hL : L.length = 32) (hR : R.length = 32) : ∀ r, (ladderR ks L R r).1.length = 32 ∧ (ladderR ks L R r).2.length = 32
 | 0 => ⟨hL, hR⟩
 | r + 1 => by
  have h := ladderR_len ks L R hL hR r; exact ⟨h.2, by simp [ladderR]⟩
theorem permR_lt (l ps : List Nat) (h : ∀ b ∈ l, b < 2) : ∀ b ∈ permR l ps, b < 2 := by
 intro b hb; simp only [permR, List.mem_map] at hb
 obtain ⟨p, _, rfl⟩ := hb; exact getD_lt2 l h _
theorem mixR_lt (half key : List Nat) : ∀ b ∈ mixR half key, b < 2 := by
 refine permR_lt _ _ ?_
 have : ∀ n, ∀ b ∈ outR half key n, b < 2 := by
  intro n
  induction n with
  | zero => intro b hb; cases hb
  | succ n ih =>
   intro b hb; rw [outR] at hb
   rcases List.mem_append.1 hb with h | h
   ·
    exact ih b h
   ·
    simp only [nibR, List.mem_cons, List.not_mem_nil, or_false] at h
    rcases h with rfl | rfl | rfl | rfl <;> exact Nat.mod_lt _ (by omega)
 exact this 8
theorem mixR_len (half key : List Nat) : (mixR half key).length = 32 := permR_len _ _
theorem keyR_lt (key : List Nat) (r : Nat) : ∀ b ∈ keyR key r, b < 2 := by
 refine permR_lt _ _ ?_
 have hC : ∀ (c : List Nat), (∀ b ∈ c, b < 2) → ∀ n, ∀ b ∈ refC c n, b < 2 := by
  intro c hc n
  induction n with
  | zero => exact hc
  | succ n ih =>
   intro b hb; rw [refC] at hb
   rcases List.mem_append.1 hb with h | h
   ·
    exact ih b (List.mem_of_mem_drop h)
   ·
    exact ih b (List.mem_of_mem_take h)
 have hp := permR_lt (bitsB key) psPC1 (bitsB_lt key); intro b hb
 rcases List.mem_append.1 hb with h | h
 ·
  exact hC _ (fun b hb => hp b (List.mem_of_mem_take hb)) _ b h
 ·
  exact hC _ (fun b hb => hp b (List.mem_of_mem_drop hb)) _ b h
theorem ladderR_lt (ks : Nat → List Nat) (L R : List Nat) (hL : ∀ b ∈ L, b < 2) (hR : ∀ b ∈ R, b < 2) : ∀ r, (∀ b ∈ (ladderR ks L R r).1, b < 2) ∧ (∀ b ∈ (ladderR ks L R r).2, b < 2)
 | 0 => ⟨hL, hR⟩
 | r + 1 => by
  have h := ladderR_lt ks L R hL hR r; refine ⟨h.2, fun b hb => ?_⟩; simp only [ladderR, List.mem_map] at hb
  obtain ⟨i, _, rfl⟩ := hb; exact xor_lt2 _ _ (getD_lt2 _ h.1 i) (getD_lt2 _ (mixR_lt _ _) i)
theorem KeysAt.form {key : List Nat} {B : Nat} {w : World} {v : Value} (h : KeysAt key B w v 16) : ∃ g cap, v = .slice (some ⟨g, 0, none⟩) 16 cap ∧ g < w.heap.size ∧ ∀ j, j < 16 → ∃ gk ck, w.cell? ⟨g, j, none⟩ = some (.slice (some ⟨gk, 0, none⟩) 48 ck) ∧ gk < w.heap.size ∧ Ns .i64 w gk 0 (keyR key j) := by
 obtain ⟨vs, h1, h2⟩ := h
 obtain ⟨g, cap, rfl, hlt⟩ : ∃ g cap, v = .slice (some ⟨g, 0, none⟩) 16 cap ∧ g < w.heap.size := by
  rcases h1.2 with ⟨_, h0⟩ | ⟨g, cap, cur, hv, _⟩
  ·
   omega
  ·
   exact ⟨g, cap, hv, (World.ownsRow.lt h1 g (by rw [hv]; rfl)).2⟩
 refine ⟨g, cap, rfl, hlt, fun j hj => ?_⟩; obtain ⟨u, hu, ⟨gk, ck, rfl, hk, hN⟩, _⟩ := h2 j hj; have hc := World.ownsRow.cells h1 (g := g) rfl j _ hu; rw [Addr.add_mid, Nat.zero_add] at hc; rw [keyR_len] at hc; exact ⟨gk, ck, hc, hk, hN⟩
/-- a row of bits somewhere -/
def BitsAt (w : World) (c : Value) (l : List Nat) : Prop := ∃ g o cp, c = .slice (some ⟨g, o, none⟩) 32 cp ∧ 32 ≤ cp ∧ Ns .i64 w g o l ∧ g < w.heap.size
theorem BitsAt.below {w w' : World} {c : Value} {l : List Nat} {B : Nat} (h : BitsAt w c l) (hb : Below B w w') (hB : w.heap.size ≤ B) : BitsAt w' c l := by
 obtain ⟨g, o, cp, rfl, h1, h3, h4⟩ := h; exact ⟨g, o, cp, rfl, h1, h3.below hb (by omega), Nat.lt_of_lt_of_le h4 (Nat.le_trans (by omega) hb.size)⟩

/-- new numbers, all zero -/
theorem run_make_ints (kl kc : IntKind) (n : Nat) (hn : n ≤ 1000) (w : World) :
    (Instr.makeSlice 28 (.int kl (n : Int)) (.int kc (n : Int))).run Tryz.prog w = .ok (.slice (some ⟨w.heap.size, 0, none⟩) n n) (w.alloc (.cells (numCells .i64 (List.replicate n 0)) 3)) := by
 have h := run_make_row' 28 3 (.int .i64 0) 8 Tryz.underlying28 info_int rfl kl kc n (by omega) (by omega) w
 have e : madeCells #[Value.int .i64 0] n = numCells .i64 (List.replicate n 0) := by
  apply Array.ext
  ·
   simp [madeCells, numCells]
  ·
   intro i h1 h2
   simp [madeCells, numCells, Nat.mod_one]
 rw [← e]; exact h
theorem wpList_make_ints {ops : Array Oper} {rest : List Oper} {op : Oper} {a : Act} {w : World} {Q : Exit → Act → World → Prop} (hgd : op.guard = none) (x y : Operand) (ho : op.op = .makeSlice 28 x y) (kl kc : IntKind) (i j : Int) (n : Nat) (hi : i = n) (hj : j = n) (hx : a.eval x = .int kl i) (hy : a.eval y = .int kc j) (hn : n ≤ 1000)
    (h : ∀ w', Below w.heap.size w w' → Blk w' w.heap.size 3 (numCells .i64 (List.replicate n 0)) → w'.heap.size = w.heap.size + 1 → wpList Tryz.prog ops Q rest (a.put op.dst (.slice (some ⟨w.heap.size, 0, none⟩) n n)) w') : wpList Tryz.prog ops Q (op :: rest) a w := by
 refine wpList_run hgd (v := .slice (some ⟨w.heap.size, 0, none⟩) n n) (w' := w.alloc (.cells (numCells .i64 (List.replicate n 0)) 3)) ?_ (h _ ((Below.refl _ _).alloc lr _) (Blk.new w _ _) (by simp))
 unfold execOp
 simp only [ho, hx, hy, hi, hj, Sem.run_bind, run_make_ints kl kc n hn w, Result.andThen_ok]
 simp

theorem block3_any (key b : List Nat) (back : Bool) (hk : key.length = 8) (gk : ∀ c ∈ key, c < 256) (hb : b.length = 8) (gb : ∀ c ∈ b, c < 256) (A B : Option Addr) (ca cb : Nat) (w : World) (hA : At w A key) (hB : At w B b) :
    Calls Tryz.prog 117 #[.slice A 8 ca, .slice B 8 cb, .bool back] w fun e w' => (∃ v, e = .returned v ∧ Own w' w.heap.size v (blockN key b back)) ∧ Below w.heap.size w w' := by
 rw [← blockR_eq key b back hk gk hb gb]; have HK := Hh (fun W hA => keys3_any key hk gk A ca W hA); have HB := Hh (fun W hB => bits_any b gb (by omega) B cb W hB); rw [hk] at HK; rw [hb] at HB; have hbl := bitsL_len b; rw [hb] at hbl; have hblt := bitsL_lt b; have hdef : blockR key b back = bytesR (unR ((ladderR (pickR key back) ((permR (bitsL b) psIP).take 32) ((permR (bitsL b) psIP).drop 32) 16).2 ++ (ladderR (pickR key back) ((permR (bitsL b) psIP).take 32) ((permR (bitsL b) psIP).drop 32) 16).1) 64) := rfl; rw [hdef]; have h64 := permR_len (bitsL b) psIP; have hMlt := permR_lt (bitsL b) psIP hblt; rw [show psIP.length = 64 from rfl] at h64; have hPick : ∀ r, pickR key back r = keyR key (if back then 15 - r else r) := fun r => rfl; clear hdef hblt; generalize bitsL b = L at *; have HP := Hh (fun A' c' (tab : ByteArray) (ht : Tab tab 64 psIP) W hA => perm3_any L A' c' tab 64 psIP ht (by decide) (by rw [hbl]; decide) W hA); rw [hbl] at HP; generalize permR L psIP = M at *; have hl0 : (M.take 32).length = 32 := by rw [List.length_take, h64]; rfl
 have hl1 : (M.drop 32).length = 32 := by rw [List.length_drop, h64]
 have hLR := ladderR_len (pickR key back) (M.take 32) (M.drop 32) hl0 hl1; have hLT := ladderR_lt (pickR key back) (M.take 32) (M.drop 32) (fun b hb => hMlt b (List.mem_of_mem_take hb)) (fun b hb => hMlt b (List.mem_of_mem_drop hb)); have hKlt := fun r => keyR_lt key r; have hKln := fun r => keyR_len key r; have hstep : ∀ r, ladderR (pickR key back) (M.take 32) (M.drop 32) (r + 1) = ((ladderR (pickR key back) (M.take 32) (M.drop 32) r).2, (List.range 32).map fun i => (ladderR (pickR key back) (M.take 32) (M.drop 32) r).1.getD i 0 ^^^ (mixR (ladderR (pickR key back) (M.take 32) (M.drop 32) r).2 (pickR key back r)).getD i 0) := fun r => rfl; have h0 : ladderR (pickR key back) (M.take 32) (M.drop 32) 0 = (M.take 32, M.drop 32) := rfl; generalize ladderR (pickR key back) (M.take 32) (M.drop 32) = LD at *; generalize pickR key back = PK at *; have HLR := Hh hLR; clear hLR; have HLT := Hh hLT; clear hLT; have HKLT := Hh hKlt; clear hKlt; have HKLN := Hh hKln; clear hKln; have HST := Hh hstep; clear hstep; have H0 := Hh h0; clear h0; have HPK := Hh hPick; clear hPick; have HBL := Hh hbl; clear hbl; have H64 := Hh h64; clear h64; clear hk gk hb gb hMlt hl0 hl1
 go_enter Tryz.func117, Tryz.ntmps117
 go_wp2_with fail
 refine (HK.out _ hA).mono ?_; rintro e w1 ⟨⟨v, rfl, hv⟩, hb1⟩; obtain ⟨gK, cK, rfl, hgK, hKc⟩ := hv.form; clear hv HK; go_wp2_with fail
 refine (HB.out _ (hB.below hb1 lr)).mono ?_; rintro e w2 ⟨⟨v, rfl, hv⟩, hb2⟩; obtain ⟨A1, c1, rfl, -, hN1⟩ := hv.form; rw [HBL.out]; clear hv HB; go_wp2_with fail
 refine (HP.out _ _ _ (tab_of (by kernel_rfl)) _ hN1).mono ?_; rintro e w3 ⟨⟨v, rfl, hv⟩, hb3⟩; obtain ⟨g, cap, rfl, -, hcap, hg, hN⟩ := hv.at_ (by intro h; have := H64.out; rw [h] at this; cases this); rw [H64.out] at hcap ⊢; have hb12 : Below w1.heap.size w1 w3 := hb2.trans (hb3.mono hb2.size); have hb13 : Below w.heap.size w w3 := hb1.trans (hb12.mono hb1.size)
 have hKc3 : ∀ W, Below w3.heap.size w3 W → ∀ j, j < 16 → ∃ gk ck, W.cell? ⟨gK, j, none⟩ = some (.slice (some ⟨gk, 0, none⟩) 48 ck) ∧ gk < W.heap.size ∧ Ns .i64 W gk 0 (keyR key j) := fun W hW j hj => by
  obtain ⟨gk, ck, h1, h2, h3⟩ := hKc j hj; have hs := hb12.size; have hx := (hb12.trans (hW.mono hs)); exact ⟨gk, ck, (hx.cell (p := ⟨gK, j, none⟩) hgK).trans h1, Nat.lt_of_lt_of_le h2 (Nat.le_trans hs hW.size), h3.below hx h2⟩
 have hci : (64 : Int) ≤ (cap : Int) := by omega
 have hci2 : (32 : Int) ≤ (cap : Int) := by omega
 have hci3 : ¬ cap = 32 := by omega
 have hBL : BitsAt w3 (.slice (some ⟨g, 0, none⟩) 32 cap) (LD 0).1 := ⟨g, 0, cap, rfl, by omega, by have := hN.sub 0 32; rw [H0.out]; simpa using this, hg⟩; have hBR : BitsAt w3 (.slice (some ⟨g, 32, none⟩) 32 (cap - 32)) (LD 0).2 := ⟨g, 32, cap - 32, rfl, by omega, by have := hN.sub 32 32; rw [H0.out]; rwa [Nat.zero_add, List.take_of_length_le (by rw [List.length_drop, H64.out]; decide)] at this, hg⟩; clear hv hN hN1 hb1 hb2 hb3 HP hKc hb12; have HBLt := Hh hBL; clear hBL; have HBRt := Hh hBR; clear hBR; have HKC := Hh hKc3; clear hKc3; go_wp2
 go_loopw [9, 10, 11, 12, 13, 14, 15] (fun l r i _ _ _ _ wr => ∃ k : Nat, k ≤ 16 ∧ i = .int .i64 k ∧ BitsAt wr l (LD k).1 ∧ BitsAt wr r (LD k).2 ∧ Below w3.heap.size w3 wr) (fun _ _ i _ _ _ _ _ => 16 - (intOf i).toNat)
 case atStart => exact ⟨0, by omega, rfl, HBLt.out, HBRt.out, Below.refl _ _⟩
 case round =>
  obtain ⟨k, hk, rfl, ⟨gl, ol, cl, rfl, hcl, Nl, kl⟩, ⟨gr, or_, cr, rfl, hcr, Nr, kr⟩, hbel⟩ := hrel
  by_cases hlt : k < 16
  ·
   have hki : (k : Int) < 16 := by omega
   cases back with
   | false =>
    obtain ⟨gk, ck, hkc, hkg, hkN⟩ := HKC.out wr hbel k hlt; have hPKk : PK k = keyR key k := HPK.out k; have hl48 := HKLN.out k; have hlt48 := HKLT.out k; generalize keyR key k = KK at *; have hst := HST.out k; rw [hPKk] at hst; obtain ⟨hlL, hlR⟩ := HLR.out k; obtain ⟨htL, htR⟩ := HLT.out k; have hst1 : (LD (k + 1)).1 = (LD k).2 := by rw [hst]
    have hst2 : (LD (k + 1)).2 = (List.range 32).map fun i => (LD k).1.getD i 0 ^^^ (mixR (LD k).2 KK).getD i 0 := by rw [hst]
    have hN32 := (HLR.out (k + 1)).2; clear hst hPKk; have HS1 := Hh hst1; clear hst1; generalize hNd : (LD (k + 1)).2 = N at *; have HND := Hh hNd; clear hNd; generalize (LD k).1 = LL at *; generalize (LD k).2 = RR at *; have HMX := Hh (fun W a b => mix3_any RR KK hlR hl48 htR hlt48 (some ⟨gr, or_, none⟩) (some ⟨gk, 0, none⟩) cr ck W a b); rw [hlR, hl48] at HMX; have hF32 := mixR_len RR KK; have hFlt := mixR_lt RR KK; generalize mixR RR KK = FF at *
    have hNt : ∀ j, j < 32 → N.take (j + 1) = N.take j ++ [LL.getD j 0 ^^^ FF.getD j 0] := fun j hj => by
     rw [List.take_succ_eq_append_getElem (by rw [hN32]; exact hj)]; subst hst2
     simp
    have HNT := Hh hNt; clear hNt hst2; have HN32 := Hh hN32; clear hN32; have HF32 := Hh hF32; clear hF32; have HLL := Hh hlL; clear hlL; have HLLt := Hh (fun j => getD_lt2 LL htL j); have HFFt := Hh (fun j => getD_lt2 FF hFlt j); have HRR := Hh hlR; clear hlR; clear hl48 hlt48 htL htR hFlt; go_wp2_with fail
    refine (HMX.out _ (fun _ => ⟨_, _, rfl, Nr⟩) (fun _ => ⟨_, _, rfl, hkN⟩)).mono ?_; rintro e w4 ⟨⟨v, rfl, hv⟩, hb4⟩; obtain ⟨gF, cF, rfl, -, -, hgF, hNF⟩ := hv.at_ (by intro h; have := HF32.out; rw [h] at this; cases this); rw [HF32.out]
    have hNl4 : ∀ W, Below w4.heap.size w4 W → ∀ j, j < 32 → W.cell? ⟨gl, ol + j, none⟩ = some (.int .i64 (LL.getD j 0 : Nat)) := fun W hW j hj => by
     rw [getD_of _ _ (by rw [HLL.out]; exact hj)]; exact ((Nl.below hb4 kl).below hW (Nat.lt_of_lt_of_le kl hb4.size)).cell j (by rw [HLL.out]; exact hj)
    have hNf4 : ∀ W, Below w4.heap.size w4 W → ∀ j, j < 32 → W.cell? ⟨gF, j, none⟩ = some (.int .i64 (FF.getD j 0 : Nat)) := fun W hW j hj => by
     rw [getD_of _ _ (by rw [HF32.out]; exact hj)]; have := (hNF.below hW hgF).cell j (by rw [HF32.out]; exact hj)
     rwa [Nat.zero_add] at this
    have HNL := Hh hNl4; clear hNl4; have HNF := Hh hNf4; clear hNf4; have hbel4 : Below w3.heap.size w3 w4 := hbel.trans (hb4.mono hbel.size); have hBR4 : BitsAt w4 (.slice (some ⟨gr, or_, none⟩) 32 cr) RR := BitsAt.below ⟨gr, or_, cr, rfl, hcr, Nr, kr⟩ hb4 lr; have HBR4 := Hh hBR4; clear hBR4; clear hv hNF HMX Nl Nr hkN hb4 kl kr; go_wp2
    go_loopw [14, 15] (fun v i wr => ∃ j : Nat, j ≤ 32 ∧ i = .int .i64 j ∧ OwnN 3 .i64 wr w4.heap.size v (N.take j) ∧ Below w4.heap.size w4 wr) (fun _ i _ => 32 - (intOf i).toNat)
    case atStart => exact ⟨0, by omega, rfl, OwnN.nil _ _ _ _, Below.refl _ _⟩
    case round =>
     obtain ⟨j, hj, rfl, hown, hbl5⟩ := hrel
     by_cases hj2 : j < 32
     ·
      have hji : (j : Int) < 32 := by omega
      have hx := i64_xor_bits _ _ (HLLt.out j) (HFFt.out j); have hst := HNT.out j hj2; have hL1 := fun W hW => HNL.out W hW j hj2; have hL2 := fun W hW => HNF.out W hW j hj2; generalize LL.getD j 0 = x1 at *; generalize FF.getD j 0 = x2 at *; generalize x1 ^^^ x2 = x at *; have hl4 : (N.take j).length ≤ 32 := by rw [List.length_take]; omega
      obtain ⟨T, hT⟩ : ∃ T, N.take j = T := ⟨_, rfl⟩; rw [hT] at hst hown hl4; clear hT; have HSTj := Hh hst; clear hst; have HX := Hh hx; clear hx; have HL1 := Hh hL1; clear hL1; have HL2 := Hh hL2; clear hL2; go_wp2_with fail
      refine wp_region_tree (.q 0 (.q 1 (.q 2 (.q 3 (.q 4 (.q 5 (.q 6 (.q 7 (.q 8 (.q 9 (.e [10] fun _ => .e [11] fun _ => .q 12 .done))))))))))) (fun W => Below w4.heap.size w4 W) rfl (by kernel_rfl) (fun _ _ d _ _ h => by cases d <;> exact h) ?_; have hw3 : Below w4.heap.size w4 wr.drew := below_drewN hbl5 1; have hszr : w4.heap.size ≤ wr.heap.size := hbl5.size
      iterate 3 (refine t_q rfl rfl hw3 _ (fun W hW => by (go_simp; rfl)) ?_; go_simp)
      refine t_q rfl rfl hw3 (.pointer (some ⟨gl, ol + j, none⟩)) (fun W hW => by go_simp) ?_; go_simp
      refine t_q rfl rfl hw3 (.int .i64 (x1 : Nat)) (fun W hW => by (have hc := HL1.out W hW; go_simp)) ?_; go_simp
      iterate 2 (refine t_q rfl rfl hw3 _ (fun W hW => by (go_simp; rfl)) ?_; go_simp)
      refine t_q rfl rfl hw3 (.pointer (some ⟨gF, j, none⟩)) (fun W hW => by go_simp) ?_; go_simp
      refine t_q rfl rfl hw3 (.int .i64 (x2 : Nat)) (fun W hW => by (have hc := HL2.out W hW; go_simp)) ?_; go_simp
      refine t_q rfl rfl hw3 (.int .i64 (x : Nat)) (fun W hW => by (go_simp; exact HX.out)) ?_; go_simp
      refine t_e rfl rfl fun K hK => ?_; go_simp
      refine hK _ _ (hw3.alloc (by simpa using hszr) _) ?_; clear hK K
      change wpT _ _ _ _ _ _ (wr.drew.alloc (.cells #[.int .i64 (x : Int)] 3))
      have hown4 : OwnN 3 .i64 (wr.drew.alloc (.cells #[.int .i64 (x : Int)] 3)) w4.heap.size _ T := OwnN.below hown ((below_drewN (Below.refl wr.heap.size wr) 1).alloc lr _) lr; refine t_e rfl rfl fun K hK => ?_; refine op_append_nums (.tmp 49) (.tmp 59) 28 rfl .i64 3 8 Tryz.underlying28 info_int w4.heap.size w4 _ T rfl hown4 (hw3.alloc (by simpa using hszr) _) (by simp; omega) _ 1 1 [x] rfl rfl ⟨_, _, rfl, Ns.new .i64 wr.drew 3 x⟩ (by omega) (by omega) fun v5 w5 hown5 hbel5 hsz5 => ?_; rw [← HSTj.out] at hown5; refine hK _ _ hbel5 ?_; clear hK K; go_simp
      refine t_q rfl rfl hbel5 _ (fun W hW => by (go_simp; rfl)) ?_; go_simp
      refine t_done ?_; go_wp2
      go_roundw
      case rel => exact ⟨j + 1, by omega, by go_num, hown5, hbel5⟩
      case measure => simp [intOf]; omega
     ·
      obtain rfl : j = 32 := by omega
      have hN : N.take 32 = N := List.take_of_length_le (by rw [HN32.out]; exact Nat.le_refl _); rw [hN] at hown; clear hN; obtain ⟨gN, cN, rfl, -, hcN, hgN, hNN⟩ := hown.at_ (by intro h; have := HN32.out; rw [h] at this; cases this); rw [HN32.out] at hcN ⊢; have hBR5 := HBR4.out.below hbl5 lr; rw [← HS1.out] at hBR5; have HBR5 := Hh hBR5; clear hBR5; clear hown; go_wp2
      go_roundw
      case rel => exact ⟨k + 1, by omega, by go_num, HBR5.out, ⟨gN, 0, cN, rfl, hcN, by rw [HND.out]; exact hNN, hgN⟩, hbel4.trans (hbl5.mono hbel4.size)⟩
      case measure => simp [intOf]; omega
   | true =>
    obtain ⟨gz, cz, hkz, -, -⟩ := HKC.out wr hbel k hlt; obtain ⟨gk, ck, hkc, hkg, hkN⟩ := HKC.out wr hbel (15 - k) (by omega); have hPKk : PK k = keyR key (15 - k) := HPK.out k; have e15 : (15 - (k : Int)).toNat = 15 - k := by omega
    have e15a : (0 : Int) ≤ 15 - (k : Int) := by omega
    have e15b : 15 - (k : Int) < 16 := by omega
    have hl48 := HKLN.out (15 - k); have hlt48 := HKLT.out (15 - k); generalize keyR key (15 - k) = KK at *; have hst := HST.out k; rw [hPKk] at hst; obtain ⟨hlL, hlR⟩ := HLR.out k; obtain ⟨htL, htR⟩ := HLT.out k; have hst1 : (LD (k + 1)).1 = (LD k).2 := by rw [hst]
    have hst2 : (LD (k + 1)).2 = (List.range 32).map fun i => (LD k).1.getD i 0 ^^^ (mixR (LD k).2 KK).getD i 0 := by rw [hst]
    have hN32 := (HLR.out (k + 1)).2; clear hst hPKk; have HS1 := Hh hst1; clear hst1; generalize hNd : (LD (k + 1)).2 = N at *; have HND := Hh hNd; clear hNd; generalize (LD k).1 = LL at *; generalize (LD k).2 = RR at *; have HMX := Hh (fun W a b => mix3_any RR KK hlR hl48 htR hlt48 (some ⟨gr, or_, none⟩) (some ⟨gk, 0, none⟩) cr ck W a b); rw [hlR, hl48] at HMX; have hF32 := mixR_len RR KK; have hFlt := mixR_lt RR KK; generalize mixR RR KK = FF at *
    have hNt : ∀ j, j < 32 → N.take (j + 1) = N.take j ++ [LL.getD j 0 ^^^ FF.getD j 0] := fun j hj => by
     rw [List.take_succ_eq_append_getElem (by rw [hN32]; exact hj)]; subst hst2
     simp
    have HNT := Hh hNt; clear hNt hst2; have HN32 := Hh hN32; clear hN32; have HF32 := Hh hF32; clear hF32; have HLL := Hh hlL; clear hlL; have HLLt := Hh (fun j => getD_lt2 LL htL j); have HFFt := Hh (fun j => getD_lt2 FF hFlt j); have HRR := Hh hlR; clear hlR; clear hl48 hlt48 htL htR hFlt; go_wp2_with fail
    refine (HMX.out _ (fun _ => ⟨_, _, rfl, Nr⟩) (fun _ => ⟨_, _, rfl, hkN⟩)).mono ?_; rintro e w4 ⟨⟨v, rfl, hv⟩, hb4⟩; obtain ⟨gF, cF, rfl, -, -, hgF, hNF⟩ := hv.at_ (by intro h; have := HF32.out; rw [h] at this; cases this); rw [HF32.out]
    have hNl4 : ∀ W, Below w4.heap.size w4 W → ∀ j, j < 32 → W.cell? ⟨gl, ol + j, none⟩ = some (.int .i64 (LL.getD j 0 : Nat)) := fun W hW j hj => by
     rw [getD_of _ _ (by rw [HLL.out]; exact hj)]; exact ((Nl.below hb4 kl).below hW (Nat.lt_of_lt_of_le kl hb4.size)).cell j (by rw [HLL.out]; exact hj)
    have hNf4 : ∀ W, Below w4.heap.size w4 W → ∀ j, j < 32 → W.cell? ⟨gF, j, none⟩ = some (.int .i64 (FF.getD j 0 : Nat)) := fun W hW j hj => by
     rw [getD_of _ _ (by rw [HF32.out]; exact hj)]; have := (hNF.below hW hgF).cell j (by rw [HF32.out]; exact hj)
     rwa [Nat.zero_add] at this
    have HNL := Hh hNl4; clear hNl4; have HNF := Hh hNf4; clear hNf4; have hbel4 : Below w3.heap.size w3 w4 := hbel.trans (hb4.mono hbel.size); have hBR4 : BitsAt w4 (.slice (some ⟨gr, or_, none⟩) 32 cr) RR := BitsAt.below ⟨gr, or_, cr, rfl, hcr, Nr, kr⟩ hb4 lr; have HBR4 := Hh hBR4; clear hBR4; clear hv hNF HMX Nl Nr hkN hb4 kl kr; go_wp2
    go_loopw [14, 15] (fun v i wr => ∃ j : Nat, j ≤ 32 ∧ i = .int .i64 j ∧ OwnN 3 .i64 wr w4.heap.size v (N.take j) ∧ Below w4.heap.size w4 wr) (fun _ i _ => 32 - (intOf i).toNat)
    case atStart => exact ⟨0, by omega, rfl, OwnN.nil _ _ _ _, Below.refl _ _⟩
    case round =>
     obtain ⟨j, hj, rfl, hown, hbl5⟩ := hrel
     by_cases hj2 : j < 32
     ·
      have hji : (j : Int) < 32 := by omega
      have hx := i64_xor_bits _ _ (HLLt.out j) (HFFt.out j); have hst := HNT.out j hj2; have hL1 := fun W hW => HNL.out W hW j hj2; have hL2 := fun W hW => HNF.out W hW j hj2; generalize LL.getD j 0 = x1 at *; generalize FF.getD j 0 = x2 at *; generalize x1 ^^^ x2 = x at *; have hl4 : (N.take j).length ≤ 32 := by rw [List.length_take]; omega
      obtain ⟨T, hT⟩ : ∃ T, N.take j = T := ⟨_, rfl⟩; rw [hT] at hst hown hl4; clear hT; have HSTj := Hh hst; clear hst; have HX := Hh hx; clear hx; have HL1 := Hh hL1; clear hL1; have HL2 := Hh hL2; clear hL2; go_wp2_with fail
      refine wp_region_tree (.q 0 (.q 1 (.q 2 (.q 3 (.q 4 (.q 5 (.q 6 (.q 7 (.q 8 (.q 9 (.e [10] fun _ => .e [11] fun _ => .q 12 .done))))))))))) (fun W => Below w4.heap.size w4 W) rfl (by kernel_rfl) (fun _ _ d _ _ h => by cases d <;> exact h) ?_; have hw3 : Below w4.heap.size w4 wr.drew := below_drewN hbl5 1; have hszr : w4.heap.size ≤ wr.heap.size := hbl5.size
      iterate 3 (refine t_q rfl rfl hw3 _ (fun W hW => by (go_simp; rfl)) ?_; go_simp)
      refine t_q rfl rfl hw3 (.pointer (some ⟨gl, ol + j, none⟩)) (fun W hW => by go_simp) ?_; go_simp
      refine t_q rfl rfl hw3 (.int .i64 (x1 : Nat)) (fun W hW => by (have hc := HL1.out W hW; go_simp)) ?_; go_simp
      iterate 2 (refine t_q rfl rfl hw3 _ (fun W hW => by (go_simp; rfl)) ?_; go_simp)
      refine t_q rfl rfl hw3 (.pointer (some ⟨gF, j, none⟩)) (fun W hW => by go_simp) ?_; go_simp
      refine t_q rfl rfl hw3 (.int .i64 (x2 : Nat)) (fun W hW => by (have hc := HL2.out W hW; go_simp)) ?_; go_simp
      refine t_q rfl rfl hw3 (.int .i64 (x : Nat)) (fun W hW => by (go_simp; exact HX.out)) ?_; go_simp
      refine t_e rfl rfl fun K hK => ?_; go_simp
      refine hK _ _ (hw3.alloc (by simpa using hszr) _) ?_; clear hK K
      change wpT _ _ _ _ _ _ (wr.drew.alloc (.cells #[.int .i64 (x : Int)] 3))
      have hown4 : OwnN 3 .i64 (wr.drew.alloc (.cells #[.int .i64 (x : Int)] 3)) w4.heap.size _ T := OwnN.below hown ((below_drewN (Below.refl wr.heap.size wr) 1).alloc lr _) lr; refine t_e rfl rfl fun K hK => ?_; refine op_append_nums (.tmp 49) (.tmp 59) 28 rfl .i64 3 8 Tryz.underlying28 info_int w4.heap.size w4 _ T rfl hown4 (hw3.alloc (by simpa using hszr) _) (by simp; omega) _ 1 1 [x] rfl rfl ⟨_, _, rfl, Ns.new .i64 wr.drew 3 x⟩ (by omega) (by omega) fun v5 w5 hown5 hbel5 hsz5 => ?_; rw [← HSTj.out] at hown5; refine hK _ _ hbel5 ?_; clear hK K; go_simp
      refine t_q rfl rfl hbel5 _ (fun W hW => by (go_simp; rfl)) ?_; go_simp
      refine t_done ?_; go_wp2
      go_roundw
      case rel => exact ⟨j + 1, by omega, by go_num, hown5, hbel5⟩
      case measure => simp [intOf]; omega
     ·
      obtain rfl : j = 32 := by omega
      have hN : N.take 32 = N := List.take_of_length_le (by rw [HN32.out]; exact Nat.le_refl _); rw [hN] at hown; clear hN; obtain ⟨gN, cN, rfl, -, hcN, hgN, hNN⟩ := hown.at_ (by intro h; have := HN32.out; rw [h] at this; cases this); rw [HN32.out] at hcN ⊢; have hBR5 := HBR4.out.below hbl5 lr; rw [← HS1.out] at hBR5; have HBR5 := Hh hBR5; clear hBR5; clear hown; go_wp2
      go_roundw
      case rel => exact ⟨k + 1, by omega, by go_num, HBR5.out, ⟨gN, 0, cN, rfl, hcN, by rw [HND.out]; exact hNN, hgN⟩, hbel4.trans (hbl5.mono hbel4.size)⟩
      case measure => simp [intOf]; omega
  ·
   obtain rfl : k = 16 := by omega
   obtain ⟨wo, rfl⟩ : ∃ wo, wo = wr := ⟨_, rfl⟩; obtain ⟨hlL, hlR⟩ := HLR.out 16; obtain ⟨htL, htR⟩ := HLT.out 16; generalize hLe : (LD 16).1 = LL at *; generalize hRe : (LD 16).2 = RR at *; have HLE := Hh hLe; clear hLe; have HRE := Hh hRe; clear hRe; have hmE : OwnN 3 .i64 (wo.alloc (.cells #[] 3)) wo.heap.size (.slice (some ⟨wo.heap.size, 0, none⟩) 0 0) [] := OwnN.made _ _ wo _ lr; have hbE : Below wo.heap.size wo (wo.alloc (.cells #[] 3)) := (Below.refl _ _).alloc lr _
   have hXt : ∀ b ∈ RR ++ LL, b < 2 := fun b hb => by
    rcases List.mem_append.1 hb with h | h
    ·
     exact htR b h
    ·
     exact htL b h
   have hX64 : (RR ++ LL).length = 64 := by rw [List.length_append, hlR, hlL]
   have HLL := Hh hlL; clear hlL; have HRR := Hh hlR; clear hlR; clear htL htR
   go_wp2_with (first
    | (at_builtin; refine wpList_append_nums rfl (.tmp 63) (.tmp 64) 28 rfl .i64 3 8 Tryz.underlying28 info_int wo.heap.size wo _ [] rfl hmE hbE (by simp) _ 32 _ RR rfl HRR.out ⟨_, _, rfl, Nr.alloc _⟩ (by simp) (by omega) ?_; intro x4 w4 hx4 hy4 hz4)
    | (at_builtin; refine wpList_append_nums rfl (.tmp 65) (.tmp 66) 28 rfl .i64 3 8 Tryz.underlying28 info_int wo.heap.size wo _ ([] ++ RR) rfl hx4 hy4 hy4.size _ 32 _ LL rfl HLL.out ⟨_, _, rfl, Nl.below hy4 kl⟩ (by rw [List.nil_append, HRR.out]; decide) (by omega) ?_; intro x5 w5 hx5 hy5 hz5; rw [List.nil_append] at hx5)
    | (refine wpList_make_ints rfl _ _ rfl .i64 .i64 64 64 64 rfl rfl rfl rfl (by omega) ?_; intro w6 hb6 hB6 hs6))
   obtain ⟨gX, cX, rfl, -, -, hgX, hNX⟩ := hx5.at_ (by intro h; rw [h] at hX64; cases hX64); rw [hX64]
   have hXc : ∀ W, Below w5.heap.size w5 W → ∀ j, j < 64 → W.cell? ⟨gX, j, none⟩ = some (.int .i64 ((RR ++ LL).getD j 0 : Nat)) := fun W hW j hj => by
    rw [getD_of _ _ (by rw [hX64]; exact hj)]; have := (hNX.below hW hgX).cell j (by rw [hX64]; exact hj)
    rwa [Nat.zero_add] at this
   have hU0 : List.replicate 64 0 = unR (RR ++ LL) 0 := rfl; rw [hU0] at hB6; clear hU0; have hUl := fun k => unR_len (RR ++ LL) k; have hUt := fun k => unR_lt (RR ++ LL) hXt k; have hUs : ∀ k, unR (RR ++ LL) (k + 1) = (unR (RR ++ LL) k).set (psIP.getD k 0 - 1) ((RR ++ LL).getD k 0) := fun k => rfl; have HXC := Hh hXc; clear hXc; have HUL := Hh hUl; clear hUl; have HUT := Hh hUt; clear hUt; have HUS := Hh hUs; clear hUs; generalize hXX : (RR ++ LL) = XX at *; have HXX := Hh hXX; clear hXX; have hPl := Hh (fun (tab : ByteArray) (ht : Tab tab 64 psIP) (j : Nat) (hj : j < 64) W => place3_any tab 64 psIP ht (by decide) j hj W); have hpok := Hh psIP_ok; have hpget : ∀ j (hj : j < 64), psIP[j]'hj = psIP.getD j 0 := fun j hj => (getD_of psIP j hj).symm; have HPG := Hh hpget; clear hpget; clear hx5 hx4 hNX hX64 hXt Nl Nr hmE hbE; obtain ⟨go, hgo⟩ : ∃ go, w5.heap.size = go := ⟨_, rfl⟩; rw [hgo] at hB6 hb6 HXC ⊢; have HB6 := Hh hB6; clear hB6; go_wp2
   go_loopw [18] (fun i wx => ∃ k : Nat, k ≤ 64 ∧ i = .int .i64 k ∧ Blk wx go 3 (numCells .i64 (unR XX k)) ∧ Below go w5 wx) (fun i _ => 64 - (intOf i).toNat)
   case atStart => exact ⟨0, by omega, rfl, HB6.out, hb6⟩
   case round =>
    obtain ⟨k, hk, rfl, hBk, hbk⟩ := hrel
    by_cases hlt : k < 64
    ·
     have hki : (k : Int) < 64 := by omega
     have hX1 := fun W hW => HXC.out W hW k hlt; have hus := HUS.out k; have hul := HUL.out k; obtain ⟨p1, p2⟩ := hpok.out k hlt; have hpg := HPG.out k hlt; have hPl1 := fun tab ht W => hPl.out tab ht k hlt W; simp only [hpg] at hPl1
     clear hpg; generalize psIP.getD k 0 = p at *; generalize XX.getD k 0 = x at *; generalize unR XX k = U at *; have HUSk := Hh hus; clear hus; have HX1 := Hh hX1; clear hX1; have HPL1 := Hh hPl1; clear hPl1; have e1 : IntKind.i64.wrap ((p : Int) - 1) = ((p - 1 : Nat) : Int) := by rw [IntWalk.i64_in _ (by omega)]; omega
     have e2 : ((p : Int) - 1).toNat = p - 1 := by omega
     go_wp2_with fail
     refine wp_region_tree (.q 0 (.q 1 (.q 4 (.q 5 (.q 6 (.q 7 (.e [2] fun _ => .q 3 (.q 8 (.e [9] fun _ => .done))))))))) (fun W => Below go w5 W) rfl (by kernel_rfl) (fun _ _ d _ _ h => by cases d <;> exact h) ?_; have hw3 : Below go w5 wr.drew := below_drewN hbk 1
     iterate 4 (refine t_q rfl rfl hw3 _ (fun W hW => by (go_simp; rfl)) ?_; go_simp)
     refine t_q rfl rfl hw3 (.pointer (some ⟨gX, k, none⟩)) (fun W hW => by go_simp) ?_; go_simp
     refine t_q rfl rfl hw3 (.int .i64 (x : Nat)) (fun W hW => by (have hc := HX1.out W hW; go_simp)) ?_; go_simp
     refine t_e rfl rfl fun K hK => ?_; go_simp
     refine (HPL1.out _ (tab_of (by kernel_rfl)) _).mono ?_; rintro e wy ⟨rfl, ny, rfl⟩; refine hK _ _ (below_drewN hw3 _) ?_; clear hK K; go_simp
     have hw4 : Below go w5 (wr.drewN (1 + ny)) := below_drewN hbk _; have hB4 : Blk (wr.drewN (1 + ny)) go 3 (numCells .i64 U) := hBk.drewN _; generalize wr.drewN (1 + ny) = wz at *; refine t_q rfl rfl hw4 (.int .i64 ((p - 1 : Nat) : Int)) (fun W hW => by go_simp) ?_; go_simp
     have hpi : ((p - 1 : Nat) : Int) < 64 := by omega
     refine t_q rfl rfl hw4 (.pointer (some ⟨go, p - 1, none⟩)) (fun W hW => by go_simp) ?_; go_simp
     have hcl : wz.cell? ⟨go, p - 1, none⟩ = some (.int .i64 (U[p - 1]'(by omega) : Nat)) := by rw [hB4.cell]; exact get_numCells _ _ _ (by omega)
     have hfr := hB4.frozen (p - 1); have hB5 := hB4.set_ (p - 1) (.int .i64 (x : Nat)); rw [set_numCells, ← HUSk.out] at hB5; have hw5 : Below go w5 (wz.setCell ⟨go, p - 1, none⟩ (.int .i64 (x : Nat))) := hw4.setCell lr _; refine t_e rfl rfl fun K hK => ?_; go_simp
     refine hK _ _ hw5 ?_; clear hK K; go_simp
     refine t_done ?_; go_wp2
     go_roundw
     case rel => exact ⟨k + 1, by omega, by go_num, hB5, hw5⟩
     case measure => simp [intOf]; omega
    ·
     obtain rfl : k = 64 := by omega
     have hU := HUL.out 64; have hUt := HUT.out 64; have hfin : bytesR (unR XX 64) = bytesR (unR ((LD 16).2 ++ (LD 16).1) 64) := by rw [HRE.out, HLE.out, HXX.out]
     have HFIN := Hh hfin; clear hfin; generalize unR XX 64 = U at *; have HBY := Hh (fun W hA => bytes3_any U hUt 8 (by rw [hU]) (by omega) (some ⟨go, 0, none⟩) 64 W hA); rw [hU] at HBY; have hNU : Ns .i64 wr go 0 U := Blk.range hBk 0 _ (fun j v hv => by rw [Nat.zero_add]; simpa using hv); go_wp2_with fail
     refine (HBY.out _ (fun _ => ⟨_, _, rfl, hNU⟩)).mono ?_; rintro e w9 ⟨⟨v, rfl, hv⟩, hb9⟩; go_wp2
     go_ret
     have s1 := hb13.size; have s2 := hbel.size; have s3 := hy5.size; have s4 := hbk.size; have hbA : Below w.heap.size w w5 := hb13.trans ((hbel.trans (hy5.mono s2)).mono s1); have hbB : Below w.heap.size w w9 := hbA.trans ((hbk.trans (hb9.mono (by omega))).mono (by omega)); exact ⟨⟨_, rfl, by rw [← HFIN.out]; exact hv.more (by omega)⟩, hbB⟩

end Go.Proofs.YtfkjkkjimdilcaaGreatDoor

