/- The contract of lockboxref03.Bits. -/
import Derived.Test.YtnkgglmfoimbhaaGreatDoorNums
import Derived.Test.YtnkgglmfoimbhaaGreatDoorEqual
namespace Go.Proofs.YtnkgglmfoimbhaaGreatDoor
open Go Go.RowKit Pr

/-- a byte's bits, the highest first -/
def bits8 (c : Nat) : List Nat := (List.range 8).map fun k => c / 2 ^ (7 - k) % 2
def bitsL (l : List Nat) : List Nat := l.flatMap bits8
theorem bits8_len (c : Nat) : (bits8 c).length = 8 := by simp [bits8]
theorem bitsL_len (l : List Nat) : (bitsL l).length = 8 * l.length := by
  induction l with
  | nil => rfl
  | cons c l ih => rw [bitsL, List.flatMap_cons, List.length_append, bits8_len]; show 8 + (bitsL l).length = _; rw [ih, List.length_cons]; omega
theorem bitsL_snoc (l : List Nat) (c : Nat) : bitsL (l ++ [c]) = bitsL l ++ bits8 c := by simp [bitsL]
theorem bits8_take (c j : Nat) (hj : j < 8) : (bits8 c).take (j + 1) = (bits8 c).take j ++ [c / 2 ^ (7 - j) % 2] := by
  rw [List.take_succ_eq_append_getElem (by rw [bits8_len]; exact hj)]
  simp [bits8]
theorem bits8_lt (c : Nat) : ∀ b ∈ bits8 c, b < 2 := by
  intro b hb
  simp only [bits8, List.mem_map] at hb
  obtain ⟨k, _, rfl⟩ := hb
  exact Nat.mod_lt _ (by omega)
theorem bitsL_lt (l : List Nat) : ∀ b ∈ bitsL l, b < 2 := by
  intro b hb
  simp only [bitsL, List.mem_flatMap] at hb
  obtain ⟨c, _, hb⟩ := hb
  exact bits8_lt c b hb

theorem and_one (c m : Nat) (hc : c < 256) : bits .and .i64 ((c : Int) / 2 ^ m) 1 = ((c / 2 ^ m % 2 : Nat) : Int) := by
  have h : ∀ x : Nat, x < 256 → bits .and .i64 (x : Int) 1 = ((x % 2 : Nat) : Int) := by decide +kernel
  have e : (c : Int) / 2 ^ m = ((c / 2 ^ m : Nat) : Int) := by simp
  rw [e]
  exact h _ (Nat.lt_of_le_of_lt (Nat.div_le_self _ _) hc)

set_option maxHeartbeats 2000000 in
set_option maxRecDepth 100000 in
theorem bits_any (l : List Nat) (hl : ∀ c ∈ l, c < 256) (hlen : l.length ≤ 1000) (A : Option Addr) (cp : Nat) (w : World) (hA : At w A l) :
    Calls Tryz.prog 104 #[.slice A l.length cp] w fun e w' => (∃ v, e = .returned v ∧ OwnN 3 .i64 w' w.heap.size v (bitsL l)) ∧ Below w.heap.size w w' := by
  obtain ⟨n, hn⟩ : ∃ n, l.length = n := ⟨_, rfl⟩
  rw [hn] at hlen ⊢
  have HN := Lib.hid hn; clear hn
  have HLT := Lib.hid hl; clear hl
  have HA := Lib.hid hA; clear hA
  go_enter Tryz.func104, Tryz.ntmps104
  go_wp2
  go_loopw [3, 4] (fun v i wr => ∃ k : Nat, k ≤ n ∧ i = .int .i64 k ∧ OwnN 3 .i64 wr w.heap.size v (bitsL (l.take k)) ∧ Below w.heap.size w wr ∧ w.heap.size ≤ wr.heap.size) (fun _ i _ => n - (intOf i).toNat)
  case atStart => exact ⟨0, by omega, rfl, OwnN.nil _ _ _ _, Below.refl _ _, Nat.le_refl _⟩
  case round =>
    obtain ⟨k, hk, rfl, hown, hbel, hsz⟩ := hrel
    rename_i v3
    by_cases hlt : k < n
    · have hkl : k < l.length := by rw [HN.out]; exact hlt
      obtain ⟨b, o, rfl, hBs⟩ := HA.out (by intro h; rw [h] at hkl; cases hkl)
      have hblt := hBs.lt (by intro h; rw [h] at hkl; cases hkl)
      have hcell : ∀ W, Below w.heap.size w W → W.cell? ⟨b, o + k, none⟩ = some (.int .u8 (l[k] : Nat)) := fun W hW => (hBs.below hW hblt).cell k hkl
      have hc := HLT.out l[k] (List.getElem_mem _)
      have hstep : bitsL (l.take (k + 1)) = bitsL (l.take k) ++ bits8 l[k] := by rw [List.take_succ_eq_append_getElem hkl, bitsL_snoc]
      have hll : (bitsL (l.take k)).length ≤ 8 * n := by rw [bitsL_len, List.length_take]; omega
      generalize l[k] = c at *
      have HST := Lib.hid hstep; clear hstep
      have HCELL := Lib.hid hcell; clear hcell
      go_wp2
      go_loopw [3, 5] (fun v i wr2 => ∃ j : Nat, j ≤ 8 ∧ i = .int .i64 (7 - (j : Int)) ∧ OwnN 3 .i64 wr2 w.heap.size v (bitsL (l.take k) ++ (bits8 c).take j) ∧ Below w.heap.size w wr2 ∧ w.heap.size ≤ wr2.heap.size) (fun _ i _ => (intOf i + 1).toNat)
      case atStart => exact ⟨0, by omega, rfl, by simpa using hown, hbel, hsz⟩
      case round =>
        obtain ⟨j, hj, rfl, hown2, hbel2, hsz2⟩ := hrel
        rename_i v4
        by_cases hj8 : j < 8
        · have hc1 := HCELL.out _ hbel2
          have hst := bits8_take c j hj8
          have h0 : (0 : Int) ≤ 7 - (j : Int) := by omega
          have hv := and_one c (7 - j) hc
          generalize hd : c / 2 ^ (7 - j) % 2 = d at *
          have HD := Lib.hid hd; clear hd
          have HST2 := Lib.hid hst; clear hst
          have hl3 : (bitsL (l.take k) ++ (bits8 c).take j).length ≤ 8 * n + 8 := by rw [List.length_append, List.length_take, bits8_len]; omega
          obtain ⟨L, hL⟩ : ∃ L, bitsL (l.take k) ++ (bits8 c).take j = L := ⟨_, rfl⟩
          rw [hL] at hown2 hl3
          have HL := Lib.hid hL; clear hL
          go_wp2_with (at_builtin; refine wpList_append_nums rfl (.tmp 16) (.tmp 26) 42 rfl .i64 3 8 Tryz.underlying42 info_int w.heap.size w _ L rfl (OwnN.below hown2 ((Below.refl wr.heap.size wr).alloc (Nat.le_refl _) _) (Nat.le_refl _)) (hbel2.alloc hsz2 _) (by simp; omega) _ 1 1 [d] rfl rfl ⟨_, _, rfl, Ns.new .i64 wr 3 d⟩ (by omega) (by omega) ?_; intro v5 w5 hown5 hbel5 hsz5)

          have hown6 : OwnN 3 .i64 w5 w.heap.size v5 (bitsL (l.take k) ++ (bits8 c).take (j + 1)) := by
            rw [HST2.out, ← List.append_assoc, HL.out]
            exact hown5
          have hsz6 : w.heap.size ≤ w5.heap.size := hbel5.size
          clear hown5
          go_wp2
          go_roundw
          case rel => exact ⟨j + 1, by omega, by go_num, hown6, hbel5, hsz6⟩
          case measure => simp [intOf]; omega
        · obtain rfl : j = 8 := by omega
          rw [show (bits8 c).take 8 = bits8 c from List.take_of_length_le (by rw [bits8_len]; exact Nat.le_refl _), ← HST.out] at hown2
          go_wp2
          go_roundw
          case rel => exact ⟨k + 1, by omega, by go_num, hown2, hbel2, hsz2⟩
          case measure => simp [intOf]; omega
    · have hfin : l.take k = l := List.take_of_length_le (by rw [HN.out]; omega)
      rw [hfin] at hown
      clear hfin
      go_wp2
      go_ret
      exact ⟨⟨_, rfl, hown⟩, hbel⟩
end Go.Proofs.YtnkgglmfoimbhaaGreatDoor
