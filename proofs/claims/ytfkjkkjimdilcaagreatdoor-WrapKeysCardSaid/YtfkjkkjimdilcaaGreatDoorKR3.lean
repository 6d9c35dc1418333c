/- The contract of lockboxref03.Bits. Pure: the reference's block on lists of bits is the program's. The contracts of lockboxref03.place, permute, digit, Bytes. The contract of lockboxref03.Bytes; an append alone. The contract of lockboxref03.Keys. The contract of lockboxref03.mix. -/
import Derived.Test.YtfkjkkjimdilcaaGreatDoorKNums
import Derived.Test.YtfkjkkjimdilcaaGreatDoorKEqual
import Derived.Test.YtfkjkkjimdilcaaGreatDoorKPureF
import Derived.Test.YtfkjkkjimdilcaaGreatDoorKKit
/- The contract of lockboxref03.Bits. -/
namespace Go.Proofs.YtfkjkkjimdilcaaGreatDoor
open Go Go.RowKit Pr

/-- a byte's bits, the highest first -/
def bits8 (c : Nat) : List Nat := (List.range 8).map fun k => c / 2 ^ (7 - k) % 2
def bitsL (l : List Nat) : List Nat := l.flatMap bits8
theorem bits8_len (c : Nat) : (bits8 c).length = 8 := by simp [bits8]
theorem bitsL_len (l : List Nat) : (bitsL l).length = 8 * l.length := by
  induction l with
  | nil => rfl
  | cons c l ih => rw [bitsL, List.flatMap_cons, List.length_append, bits8_len]; show 8 + (bitsL l).length = _; rw [ih, List.length_cons]; omega
theorem bitsL_snoc (l : List Nat) (c : Nat) : bitsL (l ++ [c]) = bitsL l ++ bits8 c := by simp [bitsL]
theorem bits8_take (c j : Nat) (hj : j < 8) : (bits8 c).take (j + 1) = (bits8 c).take j ++ [c / 2 ^ (7 - j) % 2] := by
  rw [List.take_succ_eq_append_getElem (by rw [bits8_len]; exact hj)]
  simp [bits8]
theorem bits8_lt (c : Nat) : ∀ b ∈ bits8 c, b < 2 := by
  intro b hb
  simp only [bits8, List.mem_map] at hb
  obtain ⟨k, _, rfl⟩ := hb
  exact Nat.mod_lt _ (by omega)
theorem bitsL_lt (l : List Nat) : ∀ b ∈ bitsL l, b < 2 := by
  intro b hb
  simp only [bitsL, List.mem_flatMap] at hb
  obtain ⟨c, _, hb⟩ := hb
  exact bits8_lt c b hb

theorem and_one (c m : Nat) (hc : c < 256) : bits .and .i64 ((c : Int) / 2 ^ m) 1 = ((c / 2 ^ m % 2 : Nat) : Int) := by
  have h : ∀ x : Nat, x < 256 → bits .and .i64 (x : Int) 1 = ((x % 2 : Nat) : Int) := by decide +kernel
  have e : (c : Int) / 2 ^ m = ((c / 2 ^ m : Nat) : Int) := by simp
  rw [e]
  exact h _ (Nat.lt_of_le_of_lt (Nat.div_le_self _ _) hc)

set_option maxHeartbeats 2000000 in
set_option maxRecDepth 100000 in
theorem bits_any (l : List Nat) (hl : ∀ c ∈ l, c < 256) (hlen : l.length ≤ 1000) (A : Option Addr) (cp : Nat) (w : World) (hA : At w A l) :
    Calls Tryz.prog 100 #[.slice A l.length cp] w fun e w' => (∃ v, e = .returned v ∧ OwnN 3 .i64 w' w.heap.size v (bitsL l)) ∧ Below w.heap.size w w' := by
  obtain ⟨n, hn⟩ : ∃ n, l.length = n := ⟨_, rfl⟩
  rw [hn] at hlen ⊢
  have HN := Lib.hid hn; clear hn
  have HLT := Lib.hid hl; clear hl
  have HA := Lib.hid hA; clear hA
  go_enter Tryz.func100, Tryz.ntmps100
  go_wp2
  go_loopw [3, 4] (fun v i wr => ∃ k : Nat, k ≤ n ∧ i = .int .i64 k ∧ OwnN 3 .i64 wr w.heap.size v (bitsL (l.take k)) ∧ Below w.heap.size w wr ∧ w.heap.size ≤ wr.heap.size) (fun _ i _ => n - (intOf i).toNat)
  case atStart => exact ⟨0, by omega, rfl, OwnN.nil _ _ _ _, Below.refl _ _, Nat.le_refl _⟩
  case round =>
    obtain ⟨k, hk, rfl, hown, hbel, hsz⟩ := hrel
    rename_i v3
    by_cases hlt : k < n
    · have hkl : k < l.length := by rw [HN.out]; exact hlt
      obtain ⟨b, o, rfl, hBs⟩ := HA.out (by intro h; rw [h] at hkl; cases hkl)
      have hblt := hBs.lt (by intro h; rw [h] at hkl; cases hkl)
      have hcell : ∀ W, Below w.heap.size w W → W.cell? ⟨b, o + k, none⟩ = some (.int .u8 (l[k] : Nat)) := fun W hW => (hBs.below hW hblt).cell k hkl
      have hc := HLT.out l[k] (List.getElem_mem _)
      have hstep : bitsL (l.take (k + 1)) = bitsL (l.take k) ++ bits8 l[k] := by rw [List.take_succ_eq_append_getElem hkl, bitsL_snoc]
      have hll : (bitsL (l.take k)).length ≤ 8 * n := by rw [bitsL_len, List.length_take]; omega
      generalize l[k] = c at *
      have HST := Lib.hid hstep; clear hstep
      have HCELL := Lib.hid hcell; clear hcell
      go_wp2
      go_loopw [3, 5] (fun v i wr2 => ∃ j : Nat, j ≤ 8 ∧ i = .int .i64 (7 - (j : Int)) ∧ OwnN 3 .i64 wr2 w.heap.size v (bitsL (l.take k) ++ (bits8 c).take j) ∧ Below w.heap.size w wr2 ∧ w.heap.size ≤ wr2.heap.size) (fun _ i _ => (intOf i + 1).toNat)
      case atStart => exact ⟨0, by omega, rfl, by simpa using hown, hbel, hsz⟩
      case round =>
        obtain ⟨j, hj, rfl, hown2, hbel2, hsz2⟩ := hrel
        rename_i v4
        by_cases hj8 : j < 8
        · have hc1 := HCELL.out _ hbel2
          have hst := bits8_take c j hj8
          have h0 : (0 : Int) ≤ 7 - (j : Int) := by omega
          have hv := and_one c (7 - j) hc
          generalize hd : c / 2 ^ (7 - j) % 2 = d at *
          have HD := Lib.hid hd; clear hd
          have HST2 := Lib.hid hst; clear hst
          have hl3 : (bitsL (l.take k) ++ (bits8 c).take j).length ≤ 8 * n + 8 := by rw [List.length_append, List.length_take, bits8_len]; omega
          obtain ⟨L, hL⟩ : ∃ L, bitsL (l.take k) ++ (bits8 c).take j = L := ⟨_, rfl⟩
          rw [hL] at hown2 hl3
          have HL := Lib.hid hL; clear hL
          go_wp2_with (at_builtin; refine wpList_append_nums rfl (.tmp 16) (.tmp 26) 28 rfl .i64 3 8 Tryz.underlying28 info_int w.heap.size w _ L rfl (OwnN.below hown2 ((Below.refl wr.heap.size wr).alloc (Nat.le_refl _) _) (Nat.le_refl _)) (hbel2.alloc hsz2 _) (by simp; omega) _ 1 1 [d] rfl rfl ⟨_, _, rfl, Ns.new .i64 wr 3 d⟩ (by omega) (by omega) ?_; intro v5 w5 hown5 hbel5 hsz5)

          have hown6 : OwnN 3 .i64 w5 w.heap.size v5 (bitsL (l.take k) ++ (bits8 c).take (j + 1)) := by
            rw [HST2.out, ← List.append_assoc, HL.out]
            exact hown5
          have hsz6 : w.heap.size ≤ w5.heap.size := hbel5.size
          clear hown5
          go_wp2
          go_roundw
          case rel => exact ⟨j + 1, by omega, by go_num, hown6, hbel5, hsz6⟩
          case measure => simp [intOf]; omega
        · obtain rfl : j = 8 := by omega
          rw [show (bits8 c).take 8 = bits8 c from List.take_of_length_le (by rw [bits8_len]; exact Nat.le_refl _), ← HST.out] at hown2
          go_wp2
          go_roundw
          case rel => exact ⟨k + 1, by omega, by go_num, hown2, hbel2, hsz2⟩
          case measure => simp [intOf]; omega
    · have hfin : l.take k = l := List.take_of_length_le (by rw [HN.out]; omega)
      rw [hfin] at hown
      clear hfin
      go_wp2
      go_ret
      exact ⟨⟨_, rfl, hown⟩, hbel⟩
end Go.Proofs.YtfkjkkjimdilcaaGreatDoor

/- Pure: the reference's block on lists of bits is the program's. -/
namespace Go.Proofs.YtfkjkkjimdilcaaGreatDoor
open Go
namespace Pr

theorem bitsL_eq (l : List Nat) : bitsL l = bitsB l := rfl

def bytesR (l : List Nat) : List Nat := (List.range (l.length / 8)).map fun i => ((l.drop (8 * i)).take 8).foldl (fun a b => 2 * a + b) 0
theorem fold8 : ∀ y < 256, (bitsW 8 y).foldl (fun a b => 2 * a + b) 0 = y := by decide +kernel
theorem sub8 (x i : Nat) (hi : i < 8) : ((bitsW 64 x).drop (8 * i)).take 8 = bitsW 8 (x / 2 ^ (56 - 8 * i) % 256) := by
  apply List.ext_getElem
  · simp [bitsW_len]; omega
  · intro j h1 h2
    rw [bitsW_len] at h2
    rw [List.getElem_take, List.getElem_drop, bitsW_get _ _ _ (by omega), bitsW_get _ _ _ h2]
    rw [show 64 - 1 - (8 * i + j) = (56 - 8 * i) + (7 - j) by omega, Nat.pow_add, ← Nat.div_div_eq_div_mul]
    generalize x / 2 ^ (56 - 8 * i) = y
    rcases (by omega : j = 0 ∨ j = 1 ∨ j = 2 ∨ j = 3 ∨ j = 4 ∨ j = 5 ∨ j = 6 ∨ j = 7) with rfl | rfl | rfl | rfl | rfl | rfl | rfl | rfl <;> simp <;> omega
theorem bytesR_bits (x : Nat) : bytesR (bitsW 64 x) = bytes8 x := by
  unfold bytesR bytes8
  rw [bitsW_len]
  apply List.map_congr_left
  intro i hi
  rw [List.mem_range] at hi
  rw [sub8 x i (by omega), fold8 _ (Nat.mod_lt _ (by omega))]

def unR (both : List Nat) : Nat → List Nat
  | 0 => List.replicate 64 0
  | n + 1 => (unR both n).set (psIP.getD n 0 - 1) (both.getD n 0)
theorem unR_len (both : List Nat) : ∀ n, (unR both n).length = 64
  | 0 => by simp [unR]
  | n + 1 => by rw [unR, List.length_set, unR_len both n]
theorem unR_lt (both : List Nat) (h : ∀ b ∈ both, b < 2) : ∀ n, ∀ b ∈ unR both n, b < 2
  | 0 => by intro b hb; simp [unR] at hb; omega
  | n + 1 => by
    intro b hb
    rw [unR] at hb
    rcases List.mem_or_eq_of_mem_set hb with hb | rfl
    · exact unR_lt both h n b hb
    · rw [List.getD_eq_getElem?_getD]
      rcases hq : both[n]? with _ | c
      · simp
      · exact h c (List.mem_of_getElem? hq)
theorem psIP_inj : ∀ j < 64, ∀ n < 64, psIP.getD j 0 - 1 = psIP.getD n 0 - 1 → j = n := by decide +kernel
theorem unR_at (both : List Nat) : ∀ n, n ≤ 64 → ∀ j, j < n → (unR both n).getD (psIP.getD j 0 - 1) 0 = both.getD j 0
  | 0, _, j, h => by omega
  | n + 1, hn, j, h => by
    rw [unR, List.getD_eq_getElem?_getD, List.getElem?_set]
    by_cases e : j = n
    · subst e
      rw [if_pos rfl, if_pos (by rw [unR_len]; have := psIP_ok j (by omega); omega)]; rfl
    · rw [if_neg (fun h' => e (psIP_inj j (by omega) n (by omega) h'.symm)), ← List.getD_eq_getElem?_getD]
      exact unR_at both n (by omega) j (by omega)
theorem bit_tb {x k : Nat} {y m : Nat} (h : x.testBit k = y.testBit m) : x / 2 ^ k % 2 = y / 2 ^ m % 2 := by
  rw [Nat.testBit_eq_decide_div_mod_eq, Nat.testBit_eq_decide_div_mod_eq] at h
  have h1 : x / 2 ^ k % 2 < 2 := Nat.mod_lt _ (by omega)
  have h2 : y / 2 ^ m % 2 < 2 := Nat.mod_lt _ (by omega)
  have h3 : (x / 2 ^ k % 2 = 1) ↔ (y / 2 ^ m % 2 = 1) := by
    rw [← decide_eq_true_eq (p := x / 2 ^ k % 2 = 1), h, decide_eq_true_eq]
  generalize x / 2 ^ k % 2 = a at *
  generalize y / 2 ^ m % 2 = b at *
  omega
theorem unR_bits (X : Nat) : unR (bitsW 64 X) 64 = bitsW 64 (unpN X psIP 64) := by
  apply List.ext_getElem
  · rw [unR_len, bitsW_len]
  · intro i h1 h2
    rw [bitsW_len] at h2
    obtain ⟨j1, j2⟩ := invIP_ok (63 - i) (by omega)
    have j3 := of_decide_eq_true ((j2 _ j1).2 rfl)
    obtain ⟨p1, p2⟩ := psIP_ok _ j1
    have hp : psIP.getD (invIP (63 - i)) 0 - 1 = i := by omega
    have h3 := unR_at (bitsW 64 X) 64 (Nat.le_refl _) _ j1
    rw [hp, getD_of _ _ h1, bitsW_getD _ _ _ j1] at h3
    rw [h3, bitsW_get _ _ _ h2]
    exact (bit_tb (by rw [show 64 - 1 - i = 63 - i by omega, unp_bit X (63 - i) (by omega)])).symm

/-- a round's key, counted as the reference takes them -/
def pickR (key : List Nat) (back : Bool) (r : Nat) : List Nat := keyR key (if back then 15 - r else r)
def blockR (key b : List Nat) (back : Bool) : List Nat :=
  let p := ladderR (pickR key back) ((permR (bitsB b) psIP).take 32) ((permR (bitsB b) psIP).drop 32) 16
  bytesR (unR (p.2 ++ p.1) 64)
theorem range_getD (f : Nat → Nat) (n i : Nat) (h : i < n) : ((List.range n).map f).getD i 0 = f i := by
  rw [List.getD_eq_getElem?_getD, List.getElem?_map, List.getElem?_range h, Option.map_some, Option.getD_some]
theorem roundsN_get (k : List Nat) (i : Nat) (hi : i < 16) : (roundsN k).getD i 0 = keyN k i := range_getD (keyN k) 16 i hi
theorem blockR_eq (k b : List Nat) (back : Bool) (hk : k.length = 8) (gk : ∀ c ∈ k, c < 256) (hb : b.length = 8) (gb : ∀ c ∈ b, c < 256) : blockR k b back = blockN k b back := by
  have hx := permN_lt (be8 b) 64 psIP
  have h1 : permR (bitsB b) psIP = bitsW 64 (permN (be8 b) 64 psIP) := by
    rw [bitsB_be8 b gb, hb]
    exact permR_bits (be8 b) 64 psIP (by decide)
  simp only [blockR, blockN]
  rw [h1]
  generalize permN (be8 b) 64 psIP = x at *
  have hx' : x < 18446744073709551616 := hx
  have h2 : bitsW 64 x = bitsW 32 (x / 4294967296) ++ bitsW 32 (x % 4294967296) := by
    have := bitsW_cat 32 32 (x / 4294967296) (x % 4294967296) (Nat.mod_lt _ (by decide))
    rw [show x / 4294967296 * 2 ^ 32 + x % 4294967296 = x by omega] at this
    exact this
  rw [h2, List.take_left' (bitsW_len _ _), List.drop_left' (bitsW_len _ _)]
  have h3 := ladderR_bits (roundsN k) back x hx' (pickR k back) (fun r hr => by
    unfold pickR
    rw [keyR_bits k hk gk, roundsN_get k _ (by cases back <;> simp <;> omega)]) 16 (Nat.le_refl _)
  rw [h3]
  have hl := ladderN_lt (roundsN k) back x hx' 16
  have h4 := bitsW_cat 32 32 (ladderN (roundsN k) back x 16).2 (ladderN (roundsN k) back x 16).1 hl.1
  generalize ladderN (roundsN k) back x 16 = q at *
  simp only
  rw [← h4]
  simp only [Nat.reduceAdd, Nat.reducePow]
  rw [unR_bits, bytesR_bits]
end Pr
end Go.Proofs.YtfkjkkjimdilcaaGreatDoor

/- The contracts of lockboxref03.place, permute, digit, Bytes. The contract of lockboxref03.Bytes; an append alone. The contract of lockboxref03.Keys. -/
/- The contracts of lockboxref03.place, permute, digit, Bytes. -/
namespace Go.Proofs.YtfkjkkjimdilcaaGreatDoor
open Go Go.RowKit Pr

set_option maxHeartbeats 1000000 in
theorem place3_any (tab : ByteArray) (size : Nat) (ps : List Nat) (ht : Tab tab size ps) (hsize : size ≤ 64) (j : Nat) (hj : j < ps.length) (w : World) :
    Calls Tryz.prog 148 #[.string tab, .int .i64 j] w fun e w' => e = .returned (.int .i64 (ps[j] : Nat)) ∧ ∃ n, w' = w.drewN n := by
  have hlen := ht.len
  have hsh := ht.short
  have hlt : 2 * j < tab.size := by omega
  obtain ⟨hj', hlt2, h1, h2, h3, h4⟩ := ht.at_ (k := 2 * j) rfl hlt
  have i1 := index_str (P := Tryz.prog) 9 Tryz.underlying9 tab (2 * j) hlt (2 * (j : Int)) (by omega) _ h1
  have i2 := index_str (P := Tryz.prog) 9 Tryz.underlying9 tab (2 * j + 1) hlt2 (2 * (j : Int) + 1) (by omega) _ h2
  generalize hp : ps[j] = p at *
  have Hp := Lib.hid hp; clear hp
  obtain ⟨a, ha⟩ : ∃ a, 48 + p / 10 = a := ⟨_, rfl⟩
  obtain ⟨b, hb⟩ : ∃ b, 48 + p % 10 = b := ⟨_, rfl⟩
  rw [ha] at i1; rw [hb] at i2
  have : 48 ≤ a := by omega
  have : a ≤ 54 := by omega
  have : 48 ≤ b := by omega
  have : b ≤ 57 := by omega
  have hpp : (a - 48 : Int) * 10 + (b - 48) = p := by omega
  have hjb : j ≤ 64 := by omega
  clear h1 h2 hlen hsh hlt hlt2 ht
  have Ha := Lib.hid ha; clear ha
  have Hb := Lib.hid hb; clear hb
  have Hpp := Lib.hid hpp; clear hpp
  go_enter Tryz.func148, Tryz.ntmps148
  go_wp2
  go_quiet (fail)
  rw [Hpp.out]
  go_wp2
  go_ret
  exact ⟨rfl, _, rfl⟩

theorem permR_snoc (l ps : List Nat) (p : Nat) : permR l (ps ++ [p]) = permR l ps ++ [l.getD (p - 1) 0] := by simp [permR]
theorem permR_len (l ps : List Nat) : (permR l ps).length = ps.length := by simp [permR]

set_option maxHeartbeats 1000000 in
set_option maxRecDepth 100000 in
theorem perm3_any (l : List Nat) (A : Option Addr) (cp : Nat) (tab : ByteArray) (size : Nat) (ps : List Nat) (ht : Tab tab size ps) (hsize : size ≤ 64) (hl : size ≤ l.length) (w : World) (hA : AtN .i64 w A l) :
    Calls Tryz.prog 146 #[.slice A l.length cp, .string tab] w fun e w' => (∃ v, e = .returned v ∧ OwnN 3 .i64 w' w.heap.size v (permR l ps)) ∧ Below w.heap.size w w' := by
  have hlen := ht.len
  have hsh := ht.short
  obtain ⟨m, hm⟩ : ∃ m, ps.length = m := ⟨_, rfl⟩
  have hP := Lib.hid (fun (j : Nat) (hj : j < ps.length) W => place3_any tab size ps ht hsize j hj W)
  have hrange := Lib.hid (fun (j : Nat) (hj : j < ps.length) => (ht.dig j hj).2.2)
  rw [hm] at hlen hsh
  have hdv : (tab.size : Int) / 2 = (m : Int) := by omega
  have HDV := Lib.hid hdv; clear hdv
  have HM := Lib.hid hm; clear hm
  have hts : tab.size ≤ 128 := by omega
  clear hlen ht
  obtain ⟨n, hn⟩ : ∃ n, l.length = n := ⟨_, rfl⟩
  rw [hn] at hl ⊢
  have HN := Lib.hid hn; clear hn
  have HA := Lib.hid hA; clear hA
  go_enter Tryz.func146, Tryz.ntmps146
  go_wp2
  go_loopw [5, 6] (fun v i wr => ∃ k : Nat, k ≤ m ∧ i = .int .i64 k ∧ OwnN 3 .i64 wr w.heap.size v (permR l (ps.take k)) ∧ Below w.heap.size w wr ∧ w.heap.size ≤ wr.heap.size) (fun _ i _ => m - (intOf i).toNat)
  case atStart => exact ⟨0, by omega, rfl, OwnN.nil _ _ _ _, Below.refl _ _, Nat.le_refl _⟩
  case round =>
    obtain ⟨k, hk, rfl, hown, hbel, hsz⟩ := hrel
    rename_i v3
    have hd := HDV.out
    by_cases hlt : k < m
    · have hkl : k < ps.length := by rw [HM.out]; exact hlt
      obtain ⟨q1, q2⟩ := hrange.out k hkl
      have hP1 := Lib.hid (hP.out k hkl wr)
      have hstep : permR l (ps.take (k + 1)) = permR l (ps.take k) ++ [l.getD (ps[k] - 1) 0] := by rw [List.take_succ_eq_append_getElem hkl, permR_snoc]
      have hll : (permR l (ps.take k)).length ≤ 64 := by rw [permR_len, List.length_take]; omega
      generalize ps[k] = p at *
      have hpl : p - 1 < l.length := by rw [HN.out]; omega
      obtain ⟨b, o, rfl, hNs⟩ := HA.out (by intro h; rw [h] at hpl; cases hpl)
      have hblt := hNs.lt (by intro h; rw [h] at hpl; cases hpl)
      have hcell : ∀ W, Below w.heap.size w W → W.cell? ⟨b, o + (p - 1), none⟩ = some (.int .i64 (l.getD (p - 1) 0 : Nat)) := fun W hW => by
        rw [getD_of _ _ hpl]; exact (hNs.below hW hblt).cell (p - 1) hpl
      generalize l.getD (p - 1) 0 = d at *
      have HST := Lib.hid hstep; clear hstep
      have HCELL := Lib.hid hcell; clear hcell
      have e1 : ((p : Int) - 1).toNat = p - 1 := by omega
      have t1 : (k : Int) < (tab.size : Int) / 2 := by omega
      clear hd
      obtain ⟨L, hL⟩ : ∃ L, permR l (ps.take k) = L := ⟨_, rfl⟩
      rw [hL] at hown hll
      have HL := Lib.hid hL; clear hL
      clear hNs hpl hkl
      go_wp2_with fail
      refine hP1.out.mono ?_
      rintro e w1 ⟨rfl, n1, rfl⟩
      have hc1 := HCELL.out _ (below_drewN hbel n1)
      go_wp2_with (at_builtin; go_loud (refine wpList_append_nums rfl (.tmp 14) (.tmp 22) 28 rfl .i64 3 8 Tryz.underlying28 info_int w.heap.size w _ L rfl (OwnN.below hown ((below_drewN (Below.refl wr.heap.size wr) n1).alloc (Nat.le_refl _) _) (Nat.le_refl _)) ((below_drewN hbel n1).alloc (by simpa using hsz) _) (by simp; omega) _ 1 1 [d] rfl rfl ⟨_, _, rfl, Ns.new .i64 (wr.drewN n1) 3 d⟩ (by omega) (by omega) ?_); intro v5 w5 hown5 hbel5 hsz5)
      have hown6 : OwnN 3 .i64 w5 w.heap.size v5 (permR l (ps.take (k + 1))) := by
        rw [HST.out, HL.out]
        exact hown5
      have hsz6 : w.heap.size ≤ w5.heap.size := hbel5.size
      clear hown5
      go_wp2
      go_roundw
      case rel => exact ⟨k + 1, by omega, by go_num, hown6, hbel5, hsz6⟩
      case measure => simp [intOf]; omega
    · have hfin : ps.take k = ps := List.take_of_length_le (by rw [HM.out]; omega)
      rw [hfin] at hown
      have t1 : (tab.size : Int) / 2 ≤ (k : Int) := by omega
      clear hfin hd
      go_wp2
      go_ret
      exact ⟨⟨_, rfl, hown⟩, hbel⟩

theorem digit3_any (c : Nat) (hc : 48 ≤ c) (hc2 : c < 256) (w : World) :
    Calls Tryz.prog 162 #[.int .u8 c] w fun e w' => e = .returned (.int .i64 (hexN c : Nat)) ∧ w' = w := by
  by_cases h : 97 ≤ c
  · have hv : (c : Int) - 87 = (hexN c : Nat) := by unfold hexN; rw [if_pos h]; omega
    have HV := Lib.hid hv; clear hv
    go_enter Tryz.func162, Tryz.ntmps162
    go_wp2
    go_ret
    exact ⟨retI HV.out, rfl⟩
  · have hv : (c : Int) - 48 = (hexN c : Nat) := by unfold hexN; rw [if_neg (by omega)]; omega
    have HV := Lib.hid hv; clear hv
    go_enter Tryz.func162, Tryz.ntmps162
    go_wp2
    go_ret
    exact ⟨retI HV.out, rfl⟩
end Go.Proofs.YtfkjkkjimdilcaaGreatDoor

/- The contract of lockboxref03.Bytes; an append alone. -/
namespace Go.Proofs.YtfkjkkjimdilcaaGreatDoor
open Go Go.RowKit Pr

theorem fold_snoc (L : List Nat) (j : Nat) (h : j < L.length) : (L.take (j + 1)).foldl (fun a b => 2 * a + b) 0 = 2 * (L.take j).foldl (fun a b => 2 * a + b) 0 + L[j] := by
  rw [List.take_succ_eq_append_getElem h, List.foldl_append]; rfl
theorem fold_lt (L : List Nat) (h : ∀ b ∈ L, b < 2) : ∀ j, j ≤ L.length → (L.take j).foldl (fun a b => 2 * a + b) 0 < 2 ^ j
  | 0, _ => by simp
  | j + 1, hj => by
    have ih := fold_lt L h j (by omega)
    have hb := h L[j] (List.getElem_mem _)
    rw [fold_snoc L j (by omega), Nat.pow_succ]; omega

set_option maxHeartbeats 2000000 in
set_option maxRecDepth 100000 in
theorem bytes3_any (l : List Nat) (hl : ∀ b ∈ l, b < 2) (m : Nat) (hlen : l.length = 8 * m) (hm : m ≤ 1000) (A : Option Addr) (cp : Nat) (w : World) (hA : AtN .i64 w A l) :
    Calls Tryz.prog 101 #[.slice A l.length cp] w fun e w' => (∃ v, e = .returned v ∧ Own w' w.heap.size v (bytesR l)) ∧ Below w.heap.size w w' := by
  obtain ⟨n, hn⟩ : ∃ n, l.length = n := ⟨_, rfl⟩
  have hrl : (bytesR l).length = m := by unfold bytesR; rw [List.length_map, List.length_range, hlen]; omega
  have hget : ∀ k (hk : k < m), (bytesR l)[k]'(by rw [hrl]; exact hk) = ((l.drop (8 * k)).take 8).foldl (fun a b => 2 * a + b) 0 := fun k hk => by simp [bytesR]
  rw [hn] at hlen ⊢
  have HLN := Lib.hid hlen; clear hlen
  have HRL := Lib.hid hrl
  have HN := Lib.hid hn; clear hn
  have HLT := Lib.hid hl; clear hl
  have HA := Lib.hid hA; clear hA
  have hstep : ∀ k, k < m → (bytesR l).take (k + 1) = (bytesR l).take k ++ [((l.drop (8 * k)).take 8).foldl (fun a b => 2 * a + b) 0] := fun k hk => by
    rw [List.take_succ_eq_append_getElem (by rw [hrl]; exact hk), hget k hk]
  have HSTEP := Lib.hid hstep; clear hstep hget hrl
  obtain ⟨R, hR⟩ : ∃ R, bytesR l = R := ⟨_, rfl⟩
  rw [hR] at HSTEP HRL ⊢
  clear hR
  have hnb : n ≤ 8000 := by have := HLN.out; omega
  go_enter Tryz.func101, Tryz.ntmps101
  go_wp2
  go_loopw [3, 4] (fun v i wr => ∃ k q : Nat, Hid (q = 8 * k) ∧ q ≤ n ∧ k ≤ m ∧ i = .int .i64 q ∧ OwnN 5 .u8 wr w.heap.size v (R.take k) ∧ Below w.heap.size w wr ∧ w.heap.size ≤ wr.heap.size) (fun _ i _ => n - (intOf i).toNat)
  case atStart => exact ⟨0, 0, rfl, by omega, by omega, rfl, OwnN.nil _ _ _ _, Below.refl _ _, Nat.le_refl _⟩
  case round =>
    obtain ⟨k, q, hq, hqn, hk, rfl, hown, hbel, hsz⟩ := hrel
    rename_i v3
    by_cases hlt : q + 8 ≤ n
    · have hkm : k < m := by have := hq.out; have := HLN.out; omega
      have hdl : (l.drop (8 * k)).length = n - q := by rw [List.length_drop, HN.out, hq.out]
      have hcell : ∀ j, j < 8 → ∃ (h : j < (l.drop (8 * k)).length) (b o : Nat), A = some ⟨b, o, none⟩ ∧ ∀ W, Below w.heap.size w W → W.cell? ⟨b, o + (q + j), none⟩ = some (.int .i64 ((l.drop (8 * k))[j] : Nat)) := fun j hj => by
        have hql : q + j < l.length := by rw [HN.out]; omega
        obtain ⟨b, o, rfl, hNs⟩ := HA.out (by intro h; rw [h] at hql; cases hql)
        have hblt := hNs.lt (by intro h; rw [h] at hql; cases hql)
        refine ⟨by omega, b, o, rfl, fun W hW => ?_⟩
        rw [(hNs.below hW hblt).cell (q + j) hql]
        simp [hq.out]
      have hbits : ∀ b ∈ l.drop (8 * k), b < 2 := fun b hb => HLT.out b (List.mem_of_mem_drop hb)
      have hst := HSTEP.out k hkm
      have hRl : (R.take k).length ≤ 1000 := by rw [List.length_take]; omega
      generalize l.drop (8 * k) = D at *
      have HST := Lib.hid hst; clear hst
      have HCELL := Lib.hid hcell; clear hcell
      have HBITS := Lib.hid hbits; clear hbits
      have HDL := Lib.hid hdl; clear hdl
      go_wp2
      go_loop [5, 6] (fun x i => ∃ j : Nat, j ≤ 8 ∧ i = .int .i64 j ∧ x = .int .i64 ((D.take j).foldl (fun a b => 2 * a + b) 0 : Nat)) (fun _ i => 8 - (intOf i).toNat)
      case atStart => exact ⟨0, by omega, rfl, rfl⟩
      case round =>
        obtain ⟨j, hj, rfl, rfl⟩ := hrel
        have hFl := fold_lt D HBITS.out j (by have := HDL.out; omega)
        have h2 : 2 ^ j ≤ 2 ^ 8 := Nat.pow_le_pow_right (by omega) hj
        have hF : (D.take j).foldl (fun a b => 2 * a + b) 0 < 256 := Nat.lt_of_lt_of_le hFl h2
        clear hFl h2
        by_cases hj8 : j < 8
        · obtain ⟨hjD, b, o, rfl, hc⟩ := HCELL.out j hj8
          have hc1 := hc _ hbel
          have hb2 := HBITS.out D[j] (List.getElem_mem _)
          have hsn := fold_snoc D j hjD
          generalize D[j] = d at *
          generalize (D.take j).foldl (fun a b => 2 * a + b) 0 = F at *
          have HSN := Lib.hid hsn; clear hsn hc
          have e1 : ((q : Int) + (j : Int)).toNat = q + j := by omega
          go_wp2
          go_round
          case rel => exact ⟨j + 1, by omega, by go_num, by rw [HSN.out]; go_num⟩
          case measure => simp [intOf]; omega
        · obtain rfl : j = 8 := by omega
          generalize (D.take 8).foldl (fun a b => 2 * a + b) 0 = F at *
          have e1 : IntKind.u8.wrap (F : Int) = F := by simp [IntKind.wrap, IntKind.bits, IntKind.signed]; omega
          go_wp2_with (at_builtin; refine wpList_append_nums rfl (.tmp 27) (.tmp 30) 22 rfl .u8 5 1 Tryz.underlying22 info_byte w.heap.size w _ (R.take k) rfl (OwnN.below hown ((Below.refl wr.heap.size wr).alloc (Nat.le_refl _) _) (Nat.le_refl _)) (hbel.alloc hsz _) (by simp; omega) _ 1 1 [F] rfl rfl ⟨_, _, rfl, Ns.new .u8 wr 5 F⟩ (by omega) (by omega) ?_; intro v5 w5 hown5 hbel5 hsz5)
          rw [← HST.out] at hown5
          have hsz6 : w.heap.size ≤ w5.heap.size := hbel5.size
          go_wp2
          go_roundw
          case rel => exact ⟨k + 1, q + 8, (by have := hq.out; exact (by omega : q + 8 = 8 * (k + 1))), by omega, by omega, by go_num, hown5, hbel5, hsz6⟩
          case measure => simp [intOf]; omega
    · have hfin : R.take k = R := List.take_of_length_le (by have := hq.out; have := HLN.out; have := HRL.out; omega)
      rw [hfin] at hown
      clear hfin
      go_wp2
      go_ret
      exact ⟨⟨_, rfl, hown⟩, hbel⟩
end Go.Proofs.YtfkjkkjimdilcaaGreatDoor

/- The contract of lockboxref03.Keys. -/
namespace Go.Proofs.YtfkjkkjimdilcaaGreatDoor
open Go Go.RowKit Pr

theorem OwnN.made (e : TypeId) (kd : IntKind) (w : World) (B : Nat) (hB : B ≤ w.heap.size) : OwnN e kd (w.alloc (.cells #[] e)) B (.slice (some ⟨w.heap.size, 0, none⟩) 0 0) [] :=
  World.ownsRow_made w #[] 0 hB (by unfold maxLen; omega) rfl
theorem OwnN.at_ {e : TypeId} {kd : IntKind} {w : World} {B : Nat} {v : Value} {l : List Nat} (h : OwnN e kd w B v l) (hl : l ≠ []) : ∃ g cap, v = .slice (some ⟨g, 0, none⟩) l.length cap ∧ B ≤ g ∧ l.length ≤ cap ∧ g < w.heap.size ∧ Ns kd w g 0 l := by
  obtain ⟨A, cap, rfl, hc, hA⟩ := h.form
  obtain ⟨b, o, rfl, hN⟩ := hA hl
  have hlt := World.ownsRow.lt h b rfl
  rcases h.2 with ⟨hv, h0⟩ | ⟨g, cap', cur, hv, _⟩
  · exact absurd (List.length_eq_zero_iff.1 h0) hl
  · have : o = 0 := by
      have := hv
      simp only [Value.slice.injEq, Option.some.injEq, Addr.mk.injEq] at this
      exact this.1.2.1
    subst this
    exact ⟨b, cap, rfl, hlt.1, hc, hlt.2, hN⟩

/-- a row of rows: one of slices, each of numbers -/
def RowOf (w : World) (v : Value) (l : List Nat) : Prop := ∃ g cap, v = .slice (some ⟨g, 0, none⟩) l.length cap ∧ g < w.heap.size ∧ Ns .i64 w g 0 l
theorem RowOf.keep {w w' : World} {v : Value} {l : List Nat} {row : Option Nat} (h : RowOf w v l) (hg : w.grownBy w' row) (hne : v.ownBlock ≠ row) : RowOf w' v l := by
  obtain ⟨g, cap, rfl, hlt, hN⟩ := h
  refine ⟨g, cap, rfl, Nat.lt_of_lt_of_le hlt hg.size, fun j u hj => ?_⟩
  exact (World.cell?_of_block (hg.block g hlt hne)).trans (hN j u hj)
theorem RowOf.below {w w' : World} {v : Value} {l : List Nat} {B : Nat} (h : RowOf w v l) (hb : Below B w w') (hB : w.heap.size ≤ B) : RowOf w' v l := by
  obtain ⟨g, cap, rfl, hlt, hN⟩ := h
  exact ⟨g, cap, rfl, Nat.lt_of_lt_of_le hlt (Nat.le_trans (by omega) hb.size), hN.below hb (by omega)⟩

theorem info_ints : (Tryz.prog.info? 28).map (fun i => (i.zero, i.size, i.bytes)) = some (some (.slice none 0 0), 1, 24) := by kernel_rfl

section
variable {P : Program} {ops : Array Oper} {rest : List Oper} {op : Oper} {a : Act} {w : World} {Q : Exit → Act → World → Prop}
/-- append of one slice to a row of slices of one's own -/
theorem wpList_append_one (hgd : op.guard = none) (s x : Operand) (t : TypeId) (ho : op.op = .call { callee := .builtin .append, args := #[s, x], argTypes := #[t, t] })
    (e : TypeId) (bytes : Nat) (ht : P.underlying t = some (.slice e)) (hinfo : (P.info? e).map (fun i => (i.zero, i.size, i.bytes)) = some (some (.slice none 0 0), 1, bytes))
    (B : Nat) (v : Value) (n : Nat) (l : List Value) (hs : a.eval s = v) (hown : w.ownsRow B e 1 v n l) (hB : B ≤ w.heap.size)
    (b o c : Nat) (u : Value) (hx : a.eval x = .slice (some ⟨b, o, none⟩) 1 c) (hu : w.cell? ⟨b, o, none⟩ = some u) (hu1 : u.oneCell' = true)
    (h63 : n + 1 ≤ 1000000000) (hby : bytes ≤ 1000)
    (h : ∀ v' w', w'.ownsRow B e 1 v' (n + 1) (l ++ [u]) → w.grownBy w' v.ownBlock → (v'.ownBlock = v.ownBlock ∨ v'.ownBlock = some w.heap.size) → wpList P ops Q rest (a.put op.dst v') w') : wpList P ops Q (op :: rest) a w := by
  obtain ⟨i0, hi, hz0, hz1, hz2⟩ := info_parts hinfo
  refine wpList_append_own_at w hgd s x t ho B e i0 (.slice none 0 0) 1 bytes ht hi hz0 hz1 hz2 rfl (by decide) v n l hs hown ⟨b, o, none⟩ 1 c [u] hx rfl ?_ ?_ ?_ ?_ hB ?_
  · intro j z hj
    match j, hj with
    | 0, hj =>
      simp at hj
      subst hj
      simpa [Addr.add] using hu
  · intro z hz
    simp at hz
    subst hz
    exact hu1
  · unfold maxLen; omega
  · have := Nat.mul_le_mul h63 hby; omega
  · intro v' w' h1 h2 _ h4
    exact h v' w' h1 h2 h4
end
end Go.Proofs.YtfkjkkjimdilcaaGreatDoor

/- The contract of lockboxref03.mix. -/
namespace Go.Proofs.YtfkjkkjimdilcaaGreatDoor
open Go Go.RowKit Pr

/-- the eight boxes' texts, as the reference lays them -/
def boxCells : Array Value := #[.string (boxS 0), .string (boxS 1), .string (boxS 2), .string (boxS 3), .string (boxS 4), .string (boxS 5), .string (boxS 6), .string (boxS 7)]
theorem boxCells_get : ∀ i, i < 8 → boxCells[i]? = some (.string (boxS i)) := fun i hi => by
  rcases (by omega : i = 0 ∨ i = 1 ∨ i = 2 ∨ i = 3 ∨ i = 4 ∨ i = 5 ∨ i = 6 ∨ i = 7) with rfl | rfl | rfl | rfl | rfl | rfl | rfl | rfl <;> rfl
theorem i64_xor_bits (a b : Nat) (ha : a < 2) (hb : b < 2) : bits .xor .i64 (a : Int) (b : Int) = ((a ^^^ b : Nat) : Int) := by
  rcases (by omega : a = 0 ∨ a = 1) with rfl | rfl <;> rcases (by omega : b = 0 ∨ b = 1) with rfl | rfl <;> rfl
theorem sixR_len (h k : List Nat) (i : Nat) : (sixR h k i).length = 6 := by simp [sixR]
theorem sixR_take (h k : List Nat) (i j : Nat) (hj : j < 6) : (sixR h k i).take (j + 1) = (sixR h k i).take j ++ [h.getD ((4 * i + j + 31) % 32) 0 ^^^ k.getD (6 * i + j) 0] := by
  rw [List.take_succ_eq_append_getElem (by rw [sixR_len]; exact hj)]
  simp [sixR]
theorem xor_lt2 (a b : Nat) (ha : a < 2) (hb : b < 2) : a ^^^ b < 2 := Nat.xor_lt_two_pow (n := 1) ha hb
theorem getD_lt2 (l : List Nat) (h : ∀ b ∈ l, b < 2) (i : Nat) : l.getD i 0 < 2 := by
  rw [List.getD_eq_getElem?_getD]
  rcases hq : l[i]? with _ | c
  · simp
  · exact h c (List.mem_of_getElem? hq)
theorem outR_len (h k : List Nat) : ∀ i, (outR h k i).length = 4 * i
  | 0 => rfl
  | i + 1 => by rw [outR, List.length_append, outR_len h k i]; simp [nibR]; omega
/-- where a box's digit stands, of six bits -/
def six0 (a b c d e f : Nat) : Nat := 16 * (2 * a + f) + (8 * b + 4 * c + 2 * d + e)
def nib4 (x : Nat) : List Nat := [x / 8 % 2, x / 4 % 2, x / 2 % 2, x % 2]
theorem Ns.new4 (W : World) (t : TypeId) (x : Nat) : Ns .i64 (W.alloc (.cells #[.int .i64 ((x : Int) / 8 % 2), .int .i64 ((x : Int) / 4 % 2), .int .i64 ((x : Int) / 2 % 2), .int .i64 ((x : Int) % 2)] t)) W.heap.size 0 (nib4 x) :=
  Blk.range (Blk.new W t _) 0 _ (fun j v hv => by
    rw [Nat.zero_add]
    simp only [numCells, nib4, List.map_cons, List.map_nil] at hv
    match j, hv with
    | 0, hv => simpa using hv
    | 1, hv => simpa using hv
    | 2, hv => simpa using hv
    | 3, hv => simpa using hv)
theorem six0_lt (a b c d e f : Nat) (ha : a < 2) (hb : b < 2) (hc : c < 2) (hd : d < 2) (he : e < 2) (hf : f < 2) : six0 a b c d e f < 64 := by unfold six0; omega
theorem hexN_box (i : Nat) (hi : i < 8) (j : Nat) (hj : j < 64) : hexN (tb (boxS i) j) = (boxes.getD i []).getD j 0 ∧ 48 ≤ tb (boxS i) j ∧ tb (boxS i) j < 256 ∧ (boxes.getD i []).getD j 0 < 16 := by
  obtain ⟨h1, h2⟩ := boxS_dig i hi j hj
  rw [h1]
  generalize (boxes.getD i []).getD j 0 = d at *
  unfold hexN
  split <;> split <;> omega

set_option maxHeartbeats 4000000 in
set_option maxRecDepth 100000 in
theorem mix3_any (half key : List Nat) (hh : half.length = 32) (hk : key.length = 48) (gh : ∀ b ∈ half, b < 2) (gk : ∀ b ∈ key, b < 2) (A B : Option Addr) (ca cb : Nat) (w : World) (hA : AtN .i64 w A half) (hB : AtN .i64 w B key) :
    Calls Tryz.prog 147 #[.slice A half.length ca, .slice B key.length cb] w fun e w' => (∃ v, e = .returned v ∧ OwnN 3 .i64 w' w.heap.size v (mixR half key)) ∧ Below w.heap.size w w' := by
  rw [hh, hk]
  obtain ⟨b1, o1, rfl, hN1⟩ := hA (by intro h; rw [h] at hh; cases hh)
  obtain ⟨b2, o2, rfl, hN2⟩ := hB (by intro h; rw [h] at hk; cases hk)
  have hl1 := hN1.lt (by intro h; rw [h] at hh; cases hh)
  have hl2 := hN2.lt (by intro h; rw [h] at hk; cases hk)
  have hc1 : ∀ i, i < 32 → ∀ W, Below w.heap.size w W → W.cell? ⟨b1, o1 + i, none⟩ = some (.int .i64 (half.getD i 0 : Nat)) := fun i hi W hW => by
    rw [getD_of _ _ (by omega)]; exact (hN1.below hW hl1).cell i (by omega)
  have hc2 : ∀ i, i < 48 → ∀ W, Below w.heap.size w W → W.cell? ⟨b2, o2 + i, none⟩ = some (.int .i64 (key.getD i 0 : Nat)) := fun i hi W hW => by
    rw [getD_of _ _ (by omega)]; exact (hN2.below hW hl2).cell i (by omega)
  have HC1 := Lib.hid hc1; clear hc1
  have HC2 := Lib.hid hc2; clear hc2
  have g1 := fun i => getD_lt2 half gh i
  have g2 := fun i => getD_lt2 key gk i
  clear hN1 hN2 hA hB hh hk gh gk
  have HG1 := Lib.hid g1; clear g1
  have HG2 := Lib.hid g2; clear g2
  have hBX : Blk (w.alloc (.cells boxCells 9)) w.heap.size 9 boxCells := Blk.new _ _ _
  have hbel0 : Below w.heap.size w (w.alloc (.cells boxCells 9)) := (Below.refl _ _).alloc (Nat.le_refl _) _
  have HBX := Lib.hid hBX; clear hBX
  go_enter Tryz.func147, Tryz.ntmps147
  go_wp2
  go_loopw [6, 7] (fun v i wr => ∃ k : Nat, k ≤ 8 ∧ i = .int .i64 k ∧ OwnN 3 .i64 wr (w.heap.size + 1) v (outR half key k) ∧ Below (w.heap.size + 1) (w.alloc (.cells boxCells 9)) wr) (fun _ i _ => 8 - (intOf i).toNat)
  case atStart => exact ⟨0, by omega, rfl, OwnN.nil _ _ _ _, Below.refl _ _⟩
  case round =>
    obtain ⟨k, hk, rfl, hown, hbel1⟩ := hrel
    have hbx := HBX.out.below hbel1 (by omega)
    have hsz : w.heap.size < wr.heap.size := by have := hbel1.size; simp at this; omega
    have hbel : Below w.heap.size w wr := hbel0.trans (hbel1.mono (by simp))
    by_cases hlt : k < 8
    · have hki : (k : Int) < 8 := by omega
      obtain ⟨wo, rfl⟩ : ∃ wo, wo = wr := ⟨_, rfl⟩
      have hstep : outR half key (k + 1) = outR half key k ++ nibR half key k := rfl
      have hS6 : ∀ j, j < 6 → (sixR half key k).take (j + 1) = (sixR half key k).take j ++ [half.getD ((4 * k + j + 31) % 32) 0 ^^^ key.getD (6 * k + j) 0] := fun j hj => sixR_take half key k j hj
      have HS6 := Lib.hid hS6; clear hS6
      have HSTEP := Lib.hid hstep; clear hstep
      have hol := outR_len half key k
      obtain ⟨O, hO⟩ : ∃ O, outR half key k = O := ⟨_, rfl⟩
      rw [hO] at hown hol HSTEP
      have HO := Lib.hid hO; clear hO
      obtain ⟨X6, hX6⟩ : ∃ X, sixR half key k = X := ⟨_, rfl⟩
      rw [hX6] at HS6
      have hnib : nibR half key k = nib4 ((boxes.getD k []).getD (six0 (X6.getD 0 0) (X6.getD 1 0) (X6.getD 2 0) (X6.getD 3 0) (X6.getD 4 0) (X6.getD 5 0)) 0) := by unfold nibR; rw [hX6]; rfl
      rw [hnib] at HSTEP
      clear hnib
      have hX6l : X6.length = 6 := by rw [← hX6]; exact sixR_len _ _ _
      have hX6b : ∀ b ∈ X6, b < 2 := by
        rw [← hX6]
        intro b hb
        simp only [sixR, List.mem_map] at hb
        obtain ⟨j, _, rfl⟩ := hb
        exact xor_lt2 _ _ (HG1.out _) (HG2.out _)
      have HX6 := Lib.hid hX6; clear hX6
      have HX6L := Lib.hid hX6l; clear hX6l
      have HX6B := Lib.hid hX6b; clear hX6b
      go_wp2
      go_loopw [8, 9] (fun v i wr2 => ∃ q : Nat, 1 ≤ q ∧ q ≤ 7 ∧ i = .int .i64 q ∧ OwnN 3 .i64 wr2 wo.heap.size v (X6.take (q - 1)) ∧ Below wo.heap.size wo wr2 ∧ wo.heap.size ≤ wr2.heap.size) (fun _ i _ => 7 - (intOf i).toNat)
      case atStart => exact ⟨1, by omega, by omega, rfl, OwnN.nil _ _ _ _, Below.refl _ _, Nat.le_refl _⟩
      case round =>
        obtain ⟨q, hq1, hq7, rfl, hown2, hbel2, hsz2⟩ := hrel
        by_cases hq : q ≤ 6
        · have hst := HS6.out (q - 1) (by omega)
          rw [show q - 1 + 1 = q by omega] at hst
          have hm1 : (4 * k + (q - 1) + 31) % 32 < 32 := Nat.mod_lt _ (by decide)
          have hm2 : 6 * k + (q - 1) < 48 := by omega
          have hE1 : (IntKind.i64.wrap (IntKind.i64.wrap (IntKind.i64.wrap (IntKind.i64.wrap (4 * (k : Int)) + (q : Int)) - 2) + 32)).tmod 32 = (((4 * k + (q - 1) + 31) % 32 : Nat) : Int) := by
            rw [IntWalk.i64_in (4 * (k : Int)) (by omega), IntWalk.i64_in (4 * (k : Int) + (q : Int)) (by omega), IntWalk.i64_in (4 * (k : Int) + (q : Int) - 2) (by omega), IntWalk.i64_in (4 * (k : Int) + (q : Int) - 2 + 32) (by omega), Int.tmod_eq_emod_of_nonneg (by omega)]
            omega
          have hE2 : IntKind.i64.wrap (IntKind.i64.wrap (IntKind.i64.wrap (6 * (k : Int)) + (q : Int)) - 1) = ((6 * k + (q - 1) : Nat) : Int) := by
            rw [IntWalk.i64_in (6 * (k : Int)) (by omega), IntWalk.i64_in (6 * (k : Int) + (q : Int)) (by omega), IntWalk.i64_in (6 * (k : Int) + (q : Int) - 1) (by omega)]
            omega
          obtain ⟨m1, hm1d⟩ : ∃ m, (4 * k + (q - 1) + 31) % 32 = m := ⟨_, rfl⟩
          obtain ⟨m2, hm2d⟩ : ∃ m, 6 * k + (q - 1) = m := ⟨_, rfl⟩
          rw [hm1d] at hm1 hE1 hst
          rw [hm2d] at hm2 hE2 hst
          clear hm1d hm2d
          have hw2 : Below w.heap.size w wr := hbel.trans (hbel2.mono hbel.size)
          have hx := i64_xor_bits _ _ (HG1.out m1) (HG2.out m2)
          have hx2 := xor_lt2 _ _ (HG1.out m1) (HG2.out m2)
          have hL1 := fun W hW => HC1.out m1 hm1 W hW
          have hL2 := fun W hW => HC2.out m2 hm2 W hW
          generalize half.getD m1 0 = x1 at *
          generalize key.getD m2 0 = x2 at *
          generalize x1 ^^^ x2 = x at *
          have hl4 : (X6.take (q - 1)).length ≤ 6 := by rw [List.length_take]; omega
          obtain ⟨L, hL⟩ : ∃ L, X6.take (q - 1) = L := ⟨_, rfl⟩
          rw [hL] at hst hown2 hl4
          clear hL
          have HST := Lib.hid hst; clear hst
          have HE1 := Lib.hid hE1; clear hE1
          have HE2 := Lib.hid hE2; clear hE2
          have HX := Lib.hid hx; clear hx
          have HL1 := Lib.hid hL1; clear hL1
          have HL2 := Lib.hid hL2; clear hL2
          go_wp2_with fail
          refine wp_region_tree (.q 0 (.q 1 (.q 2 (.q 3 (.q 4 (.q 5 (.q 6 (.q 7 (.q 8 (.q 9 (.q 10 (.q 11 (.q 12 (.q 13 (.q 14 (.q 15 (.q 16 (.q 17 (.q 18 (.q 19 (.e [20] fun _ => .e [21] fun _ => .q 22 .done))))))))))))))))))))) (fun W => Below w.heap.size w W) rfl (by kernel_rfl) (fun _ _ d _ _ h => by cases d <;> exact h) ?_
          have hw3 : Below w.heap.size w wr.drew := below_drewN hw2 1
          iterate 8 (refine t_q rfl rfl hw3 _ (fun W hW => by (go_simp; rfl)) ?_; go_simp)
          refine t_q rfl rfl hw3 (.int .i64 (m1 : Nat)) (fun W hW => by (go_simp; exact HE1.out)) ?_
          go_simp
          have hm1i : (m1 : Int) < 32 := by omega
          have hm2i : (m2 : Int) < 48 := by omega
          refine t_q rfl rfl hw3 (.pointer (some ⟨b1, o1 + m1, none⟩)) (fun W hW => by go_simp) ?_
          go_simp
          refine t_q rfl rfl hw3 (.int .i64 (x1 : Nat)) (fun W hW => by (have hc := HL1.out W hW; go_simp)) ?_
          go_simp
          iterate 5 (refine t_q rfl rfl hw3 _ (fun W hW => by (go_simp; rfl)) ?_; go_simp)
          refine t_q rfl rfl hw3 (.int .i64 (m2 : Nat)) (fun W hW => by (go_simp; exact HE2.out)) ?_
          go_simp
          refine t_q rfl rfl hw3 (.pointer (some ⟨b2, o2 + m2, none⟩)) (fun W hW => by go_simp) ?_
          go_simp
          refine t_q rfl rfl hw3 (.int .i64 (x2 : Nat)) (fun W hW => by (have hc := HL2.out W hW; go_simp)) ?_
          go_simp
          refine t_q rfl rfl hw3 (.int .i64 (x : Nat)) (fun W hW => by (go_simp; exact HX.out)) ?_
          go_simp
          refine t_e rfl rfl fun K hK => ?_
          go_simp
          refine hK _ _ (hw3.alloc (by simp; omega) _) ?_
          clear hK K
          change wpT _ _ _ _ _ _ (wr.drew.alloc (.cells #[.int .i64 (x : Int)] 3))
          have hown4 : OwnN 3 .i64 (wr.drew.alloc (.cells #[.int .i64 (x : Int)] 3)) wo.heap.size _ L := OwnN.below hown2 ((below_drewN (Below.refl wr.heap.size wr) 1).alloc (Nat.le_refl _) _) (Nat.le_refl _)
          have hbel4 : Below wo.heap.size wo (wr.drew.alloc (.cells #[.int .i64 (x : Int)] 3)) := (below_drewN hbel2 1).alloc (by simpa using hsz2) _
          refine t_e rfl rfl fun K hK => ?_
          refine op_append_nums (.tmp 22) (.tmp 42) 28 rfl .i64 3 8 Tryz.underlying28 info_int wo.heap.size wo _ L rfl hown4 hbel4 (by simp; omega) _ 1 1 [x] rfl rfl ⟨_, _, rfl, Ns.new .i64 wr.drew 3 x⟩ (by omega) (by omega) fun v5 w5 hown5 hbel5 hsz5 => ?_
          rw [← HST.out] at hown5
          refine hK _ _ (hbel.trans (hbel5.mono hbel.size)) ?_
          clear hK K
          go_simp
          refine t_q rfl rfl (hbel.trans (hbel5.mono hbel.size)) _ (fun W hW => by (go_simp; rfl)) ?_
          go_simp
          refine t_done ?_
          have hsz6 : wo.heap.size ≤ w5.heap.size := hbel5.size
          go_wp2
          go_roundw
          case rel => exact ⟨q + 1, by omega, by omega, by go_num, hown5, hbel5, hsz6⟩
          case measure => simp [intOf]; omega
        · obtain rfl : q = 7 := by omega
          have hq7 : List.take (7 - 1) X6 = X6 := List.take_of_length_le (by rw [HX6L.out]; decide)
          rw [hq7] at hown2
          clear hq7
          obtain ⟨g6, c6, rfl, -, -, hg6, hN6⟩ := hown2.at_ (by intro h; have := HX6L.out; rw [h] at this; cases this)
          rw [HX6L.out]
          have hc6 : ∀ j, j < 6 → wr.cell? ⟨g6, j, none⟩ = some (.int .i64 (X6.getD j 0 : Nat)) := fun j hj => by
            have := hN6.cell j (by rw [HX6L.out]; exact hj)
            rw [Nat.zero_add] at this
            rw [this, getD_of]
          have hb6 : ∀ j, X6.getD j 0 < 2 := fun j => getD_lt2 _ HX6B.out j
          have z0 := hc6 0 (by omega)
          have z1 := hc6 1 (by omega)
          have z2 := hc6 2 (by omega)
          have z3 := hc6 3 (by omega)
          have z4 := hc6 4 (by omega)
          have z5 := hc6 5 (by omega)
          have y0 := hb6 0
          have y1 := hb6 1
          have y2 := hb6 2
          have y3 := hb6 3
          have y4 := hb6 4
          have y5 := hb6 5
          clear hc6 hb6 hown2 hN6
          generalize X6.getD 0 0 = s0 at *
          generalize X6.getD 1 0 = s1 at *
          generalize X6.getD 2 0 = s2 at *
          generalize X6.getD 3 0 = s3 at *
          generalize X6.getD 4 0 = s4 at *
          generalize X6.getD 5 0 = s5 at *
          have hJ := six0_lt s0 s1 s2 s3 s4 s5 y0 y1 y2 y3 y4 y5
          have hJd : 16 * (2 * (s0 : Int) + (s5 : Int)) + (8 * (s1 : Int) + 4 * (s2 : Int) + 2 * (s3 : Int) + (s4 : Int)) = (six0 s0 s1 s2 s3 s4 s5 : Nat) := by unfold six0; omega
          obtain ⟨p1, p2, p3, p4⟩ := hexN_box k hlt _ hJ
          have hbs := boxS_size k hlt
          generalize six0 s0 s1 s2 s3 s4 s5 = J at *
          generalize (boxes.getD k []).getD J 0 = x at *
          have hbx2 : wr.cell? ⟨w.heap.size, k, none⟩ = some (.string (boxS k)) := by
            have := (hbx.below hbel2 hsz).cell k
            rw [this, boxCells_get k hlt]
          generalize boxS k = bs at *
          have hix := index_str (P := Tryz.prog) 9 Tryz.underlying9 bs J (by omega) (16 * (2 * (s0 : Int) + (s5 : Int)) + (8 * (s1 : Int) + 4 * (s2 : Int) + 2 * (s3 : Int) + (s4 : Int))) hJd (tb bs J) (tb_of (by omega)).symm
          generalize tb bs J = c at *
          have hdg := fun W => digit3_any c p2 p3 W
          rw [p1] at hdg
          have HDG := Lib.hid hdg
          clear hdg p1 hJd hJ hbs
          go_wp2
          go_quiet (fail)
          go_wp2
          go_quiet (fail)
          go_wp2_with fail
          refine (HDG.out _).mono ?_
          rintro e wz ⟨rfl, rfl⟩
          go_wp2_with (at_builtin; go_loud (refine wpList_append_nums rfl (.tmp 80) (.tmp 92) 28 rfl .i64 3 8 Tryz.underlying28 info_int (w.heap.size + 1) (w.alloc (.cells boxCells 9)) _ O rfl (OwnN.below hown ((below_drewN hbel2 _).alloc (by simpa using hsz2) _) (Nat.le_refl _)) ((hbel1.trans ((below_drewN hbel2 _).mono (by omega))).alloc (by simp; omega) _) (by simp; omega) _ 4 4 (nib4 x) rfl rfl ⟨_, _, rfl, Ns.new4 _ _ _⟩ (by omega) (by omega) ?_); intro v5 w5 hown5 hbel5 hsz5)
          rw [← HSTEP.out] at hown5
          go_wp2
          go_roundw
          case rel => exact ⟨k + 1, by omega, by go_num, hown5, hbel5⟩
          case measure => simp [intOf]; omega
    · obtain rfl : k = 8 := by omega
      have hol := outR_len half key 8
      have hfin : permR (outR half key 8) psP = mixR half key := rfl
      have HFIN := Lib.hid hfin; clear hfin
      obtain ⟨O, hO⟩ : ∃ O, outR half key 8 = O := ⟨_, rfl⟩
      rw [hO] at hown hol HFIN
      clear hO
      obtain ⟨gO, cO, rfl, -, -, hgO, hNO⟩ := hown.at_ (by intro h; rw [h] at hol; cases hol)
      have HP := Lib.hid (fun (tab : ByteArray) (ht : Tab tab 32 psP) W hA => perm3_any O (some ⟨gO, 0, none⟩) cO tab 32 psP ht (by decide) (by rw [hol]; decide) W hA)
      rw [HFIN.out] at HP
      rw [show O.length = 32 from hol] at HP ⊢
      clear hown hol
      go_wp2_with fail
      refine (HP.out _ (tab_of (by kernel_rfl)) _ (fun _ => ⟨_, _, rfl, hNO⟩)).mono ?_
      rintro e w5 ⟨⟨v, rfl, hv⟩, hb5⟩
      go_wp2
      go_ret
      exact ⟨⟨_, rfl, hv.more (by omega)⟩, hbel.trans (hb5.mono (by omega))⟩
end Go.Proofs.YtfkjkkjimdilcaaGreatDoor
