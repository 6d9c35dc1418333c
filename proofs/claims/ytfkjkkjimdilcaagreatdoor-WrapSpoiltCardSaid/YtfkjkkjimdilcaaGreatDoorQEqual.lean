/- The contract of digit.Equal. -/
import Derived.Test.YtfkjkkjimdilcaaGreatDoorQKit
namespace Go.Proofs.YtfkjkkjimdilcaaGreatDoor
open Go Go.RowKit Pr

/-- where a text of bytes lies -/
def At (w : World) (A : Option Addr) (l : List Nat) : Prop := l ≠ [] → ∃ b o, A = some ⟨b, o, none⟩ ∧ Bs w b o l
theorem At.below {w w' : World} {A : Option Addr} {l : List Nat} {C : Nat} (h : At w A l) (hb : Below C w w') (hC : w.heap.size ≤ C) : At w' A l := fun hl => by
 obtain ⟨b, o, rfl, hB⟩ := h hl; exact ⟨b, o, rfl, hB.below hb (Nat.lt_of_lt_of_le (hB.lt hl) hC)⟩
theorem or_zero (a b : Nat) : a ||| b = 0 ↔ a = 0 ∧ b = 0 := Nat.or_eq_zero_iff
theorem xor_zero (a b : Nat) : a ^^^ b = 0 ↔ a = b := by
 constructor
 ·
  intro h; have : a ^^^ b ^^^ b = a := by rw [Nat.xor_assoc, Nat.xor_self, Nat.xor_zero]
  rw [← this, h, Nat.zero_xor]
 ·
  rintro rfl; exact Nat.xor_self _

set_option maxHeartbeats 1000000 in
theorem equal_any (la lb : List Nat) (A B : Option Addr) (ca cb : Nat) (ha : ∀ c ∈ la, c < 256) (hb : ∀ c ∈ lb, c < 256) (hla : la.length ≤ 140737488351232) (_hlb : lb.length ≤ 140737488351232) (w : World) (hA : At w A la) (hB : At w B lb) :
    Calls Tryz.prog 74 #[.slice A la.length ca, .slice B lb.length cb] w fun e w' => e = .returned (.bool (decide (la = lb))) ∧ ∃ n, w' = w.drewN n := by
 by_cases hne : la.length = lb.length
 ·
  obtain ⟨n, hn⟩ : ∃ n, la.length = n := ⟨_, rfl⟩; have hn2 : lb.length = n := by rw [← hne, hn]
  rw [hn] at hla ⊢; rw [hn2]; have t1 : ((n : Int) != (n : Int)) = false := by simp
  have HN := Hh hn; clear hn; have HN2 := Hh hn2; clear hn2 hne; have HLA := Hh ha; clear ha; have HLB := Hh hb; clear hb; have HA := Hh hA; clear hA; have HB := Hh hB; clear hB
  go_enter Tryz.func74, Tryz.ntmps74
  go_wp2
  go_loopw [5, 14] (fun d i wr => ∃ k D : Nat, k ≤ n ∧ i = .int .i64 k ∧ d = .int .u8 D ∧ D < 256 ∧ Hid (D = 0 ↔ la.take k = lb.take k) ∧ ∃ m, wr = w.drewN m) (fun _ i _ => n - (intOf i).toNat)
  case atStart => exact ⟨0, 0, by omega, rfl, rfl, by omega, by show (0 = 0 ↔ _); simp, 0, rfl⟩
  case round =>
   obtain ⟨k, D, hk, rfl, rfl, hD, hrel, m, rfl⟩ := hrel
   by_cases hlt : k < n
   ·
    have hka : k < la.length := by rw [HN.out]; exact hlt
    have hkb : k < lb.length := by rw [HN2.out]; exact hlt
    obtain ⟨b1, o1, rfl, hB1⟩ := HA.out (by intro h; rw [h] at hka; cases hka); obtain ⟨b2, o2, rfl, hB2⟩ := HB.out (by intro h; rw [h] at hkb; cases hkb); have c1 : w.cell? ⟨b1, o1 + k, none⟩ = some (.int .u8 (la[k] : Nat)) := hB1.cell k hka; have c2 : w.cell? ⟨b2, o2 + k, none⟩ = some (.int .u8 (lb[k] : Nat)) := hB2.cell k hkb; have v1 := HLA.out la[k] (List.getElem_mem _); have v2 := HLB.out lb[k] (List.getElem_mem _)
    have hst : la.take (k + 1) = lb.take (k + 1) ↔ la.take k = lb.take k ∧ la[k] = lb[k] := by
     rw [List.take_succ_eq_append_getElem hka, List.take_succ_eq_append_getElem hkb]
     constructor
     ·
      intro h; have := List.append_inj' h rfl; exact ⟨this.1, by simpa using this.2⟩
     ·
      rintro ⟨h1, h2⟩; rw [h1, h2]
    generalize la[k] = x at *; generalize lb[k] = y at *; have HST := Hh hst; clear hst; have e1 := u8_xor_nat x y v1 v2; have e2 := u8_or_nat D (x ^^^ y) hD (Nat.xor_lt_two_pow (n := 8) v1 v2); have hlt' : D ||| (x ^^^ y) < 256 := Nat.or_lt_two_pow (n := 8) hD (Nat.xor_lt_two_pow (n := 8) v1 v2)
    have hz : (D ||| (x ^^^ y)) = 0 ↔ la.take (k + 1) = lb.take (k + 1) := by rw [or_zero, xor_zero, HST.out, hrel.out]
    generalize D ||| (x ^^^ y) = D' at *
    generalize x ^^^ y = X at *; have HZ := Hh hz; clear hz; go_wp2
    go_quiet (fail)
    go_wp2
    go_roundw
    case rel => exact ⟨k + 1, D', by omega, by go_num, rfl, hlt', HZ.out, _, rfl⟩
    case measure => simp [intOf]; omega
   ·
    have hfin : decide (la = lb) = ((D : Int) == 0) := by
     have h1 : la.take k = la := List.take_of_length_le (by rw [HN.out]; omega); have h2 : lb.take k = lb := List.take_of_length_le (by rw [HN2.out]; omega); have := hrel.out; rw [h1, h2] at this
     by_cases h : la = lb
     ·
      rw [decide_eq_true h, this.2 h]; rfl
     ·
      rw [decide_eq_false h]; symm; rw [beq_eq_false_iff_ne]; intro h'; exact h (this.1 (by omega))
    have HF := Hh hfin; clear hfin; go_wp2
    go_ret
    exact ⟨by rw [HF.out]; rfl, _, rfl⟩
 ·
  have t1 : ((la.length : Int) != (lb.length : Int)) = true := by rw [bne_iff_ne]; omega
  have hd : decide (la = lb) = false := decide_eq_false (fun h => hne (by rw [h])); have HD := Hh hd; clear hd
  go_enter Tryz.func74, Tryz.ntmps74
  go_wp2
  go_ret
  exact ⟨by rw [HD.out]; rfl, 0, rfl⟩
end Go.Proofs.YtfkjkkjimdilcaaGreatDoor
