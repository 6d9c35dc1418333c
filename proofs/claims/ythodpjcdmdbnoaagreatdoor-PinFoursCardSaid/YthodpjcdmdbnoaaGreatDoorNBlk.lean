/- The contracts of block.fits, slices.Clone, block.New, Cipher.Size, Cipher.Do of TDES with a key of two keys. -/
import Derived.Test.YthodpjcdmdbnoaaGreatDoorNEC
import Derived.Test.YthodpjcdmdbnoaaGreatDoorNDesGH
import Derived.WalkSpells
namespace Go.Proofs.YthodpjcdmdbnoaaGreatDoor
open Go Go.RowKit Pr

/-- whether a key of n bytes may be -/
def fitsB (kind n : Nat) : Bool := if kind = 1 then (n == 16 || n == 24) || n == 32 else (n == 8 || n == 16) || n == 24

set_option maxHeartbeats 1000000 in
theorem fits_any (kind n : Nat) (hk : kind = 1 ∨ kind = 2) (w : World) :
    Calls Tryz.prog 23 #[.int .i64 kind, .int .i64 n] w fun e w' => e = .returned (.bool (fitsB kind n)) ∧ w = w' := by
 rcases hk with rfl | rfl
 ·
  have hf : fitsB 1 n = ((n == 16 || n == 24) || n == 32) := rfl
  rw [hf]
  have e1 : (n == 16) = ((n : Int) == 16) := by rw [Bool.eq_iff_iff, beq_iff_eq, beq_iff_eq]; omega
  have e2 : (n == 24) = ((n : Int) == 24) := by rw [Bool.eq_iff_iff, beq_iff_eq, beq_iff_eq]; omega
  have e3 : (n == 32) = ((n : Int) == 32) := by rw [Bool.eq_iff_iff, beq_iff_eq, beq_iff_eq]; omega
  rw [e1, e2, e3]
  clear hf e1 e2 e3
  cases h1 : ((n : Int) == 16) <;> cases h2 : ((n : Int) == 24) <;> cases h3 : ((n : Int) == 32)
  all_goals
   go_enter Tryz.func23, Tryz.ntmps23
   go_wp2
   go_ret
   exact ⟨rfl, rfl⟩
 ·
  have hf : fitsB 2 n = ((n == 8 || n == 16) || n == 24) := rfl
  rw [hf]
  have e1 : (n == 8) = ((n : Int) == 8) := by rw [Bool.eq_iff_iff, beq_iff_eq, beq_iff_eq]; omega
  have e2 : (n == 16) = ((n : Int) == 16) := by rw [Bool.eq_iff_iff, beq_iff_eq, beq_iff_eq]; omega
  have e3 : (n == 24) = ((n : Int) == 24) := by rw [Bool.eq_iff_iff, beq_iff_eq, beq_iff_eq]; omega
  rw [e1, e2, e3]
  clear hf e1 e2 e3
  cases h1 : ((n : Int) == 8) <;> cases h2 : ((n : Int) == 16) <;> cases h3 : ((n : Int) == 24)
  all_goals
   go_enter Tryz.func23, Tryz.ntmps23
   go_wp2
   go_ret
   exact ⟨rfl, rfl⟩

theorem OwnN.start (e : TypeId) (kd : IntKind) (w : World) (B : Nat) (hB : B ≤ w.heap.size) : OwnN e kd (w.alloc (.cells #[] e)) B (.slice (some ⟨w.heap.size, 0, none⟩) 0 0) [] :=
 ⟨rfl, .inr ⟨w.heap.size, 0, #[], rfl, hB, Blk.new w e #[], Nat.le_refl _, by unfold maxLen; omega, rfl, rfl⟩⟩
set_option maxHeartbeats 1000000 in
set_option maxRecDepth 100000 in
theorem clone_any (l : List Nat) (n : Nat) (hn : l.length = n) (hn0 : 0 < n) (hn2 : n ≤ 1000) (A : Option Addr) (cp : Nat) (w : World) (hA : At w A l) :
    Calls Tryz.prog 22 #[.slice A n cp] w fun e w' => (∃ v, e = .returned v ∧ Own w' w.heap.size v l) ∧ Below w.heap.size w w' := by
 obtain ⟨b, o, rfl, hB⟩ := hA (by intro h; rw [h] at hn; simp at hn; omega)
 have HN := Lib.hid hn; clear hn
 have hB1 : Bs (w.alloc (.cells #[] 5)) b o l := hB.alloc _
 clear hA
 have hnil : ∀ W, (binOp .eql 22 (.slice (some ⟨b, o, none⟩) n cp) (.slice none 0 0)).run Tryz.prog W = .ok (.bool false) W := fun W => Lib.run_eql_slice_nil W _ _ (some ⟨b, o, none⟩) n cp 0 0 Tryz.underlying22
 go_enter Tryz.func22, Tryz.ntmps22
 go_wp2_with (at_builtin; go_loud (refine wpList_append_nums rfl (.tmp 5) (.tmp 6) 22 rfl .u8 5 1 Tryz.underlying22 info_byte w.heap.size w _ [] rfl (OwnN.start 5 .u8 w w.heap.size (Nat.le_refl _)) ((Below.refl _ _).alloc (Nat.le_refl _) _) (by simp) _ n cp l rfl HN.out ⟨_, _, rfl, hB1⟩ (by simp; omega) (by omega) ?_); intro v5 w5 hown5 hbel5 hsz5)
 go_ret
 exact ⟨⟨_, rfl, hown5⟩, hbel5⟩

/-- block g is a cipher of that kind, with a key of its own -/
def CipherAt (w : World) (g : Nat) (kind : Nat) (key : List Nat) (bk : Value) : Prop :=
 ∃ gk cp, Blk w g 62 #[.int .i64 kind, .slice (some ⟨gk, 0, none⟩) key.length cp, bk] ∧ key.length ≤ cp ∧ Bs w gk 0 key ∧ gk < w.heap.size
theorem CipherAt.lt {w : World} {g kind : Nat} {key : List Nat} {bk : Value} (h : CipherAt w g kind key bk) : g < w.heap.size := by
 obtain ⟨gk, cp, hB, _⟩ := h
 exact hB.lt
theorem CipherAt.below {w w' : World} {g kind : Nat} {key : List Nat} {bk : Value} {C : Nat} (h : CipherAt w g kind key bk) (hb : Below C w w') (hC : w.heap.size ≤ C) : CipherAt w' g kind key bk := by
 obtain ⟨gk, cp, hB, hc, hk, hl⟩ := h
 exact ⟨gk, cp, hB.below hb (Nat.lt_of_lt_of_le hB.lt hC), hc, hk.below hb (Nat.lt_of_lt_of_le hl hC), Nat.lt_of_lt_of_le hl hb.size⟩

set_option maxHeartbeats 1000000 in
theorem new_yes (kind n : Nat) (hk : kind = 1 ∨ kind = 2) (key : List Nat) (hn : key.length = n) (hfit : fitsB kind n = true) (hn2 : n ≤ 1000) (A : Option Addr) (cp : Nat) (bk : Option Addr) (w : World) (hA : At w A key) :
    Calls Tryz.prog 7 #[.int .i64 kind, .slice A n cp, .pointer bk] w fun e w' => (∃ g, e = .returned (.tuple #[.pointer (some ⟨g, 0, none⟩), .nilIface]) ∧ w.heap.size ≤ g ∧ CipherAt w' g kind key (.pointer bk)) ∧ Below w.heap.size w w' := by
 have hn0 : 0 < n := by
  rcases Nat.eq_zero_or_pos n with h | h
  ·
   subst h; rcases hk with rfl | rfl <;> exact absurd hfit (by decide)
  ·
   exact h
 have HF := Lib.hid (fun W => fits_any kind n hk W)
 rw [hfit] at HF
 have HC := Lib.hid (fun W hA => clone_any key n hn hn0 (by omega) A cp W hA)
 have HA := Lib.hid hA; clear hA
 have HN := Lib.hid hn; clear hn hfit
 have main : ∀ k : Nat, kind = k → k = 1 ∨ k = 2 → Calls Tryz.prog 7 #[.int .i64 k, .slice A n cp, .pointer bk] w fun e w' => (∃ g, e = .returned (.tuple #[.pointer (some ⟨g, 0, none⟩), .nilIface]) ∧ w.heap.size ≤ g ∧ CipherAt w' g kind key (.pointer bk)) ∧ Below w.heap.size w w' := by
  clear hk
  intro k hkk hk
  rcases hk with rfl | rfl
  all_goals
   subst hkk
   go_enter Tryz.func7, Tryz.ntmps7
   go_wp2_with fail
   refine (HF.out _).mono ?_
   rintro e w1 ⟨rfl, rfl⟩
   go_wp2_with fail
   refine (HC.out _ HA.out).mono ?_
   rintro e w2 ⟨⟨v, rfl, hv⟩, hb2⟩
   obtain ⟨g, cap, rfl, hg, hcap, hgl, hB⟩ := hv.form (by intro h; have := HN.out; rw [h] at this; simp at this; omega)
   clear hv
   go_wp2
   go_ret2
   exact ⟨⟨w2.heap.size, rfl, hb2.size, g, cap, Blk.new w2 _ _, hcap, hB.alloc _, by simp; omega⟩, hb2.alloc hb2.size _⟩
 exact main kind rfl hk

def sizeN (kind : Nat) : Nat := if kind = 2 then 8 else 16
theorem size_any (kind g : Nat) (hk : kind = 1 ∨ kind = 2 ∨ kind = 3) (key : List Nat) (bk : Value) (w : World) (hC : CipherAt w g kind key bk) :
    Calls Tryz.prog 24 #[.pointer (some ⟨g, 0, none⟩)] w fun e w' => e = .returned (.int .i64 (sizeN kind : Nat)) ∧ w = w' := by
 obtain ⟨gk, cp, hB, _⟩ := hC
 have hc := hB.cell 0
 have hc0 : w.cell? ⟨g, 0, none⟩ = some (.int .i64 (kind : Int)) := hc
 clear hc hB
 rcases hk with rfl | rfl | rfl
 all_goals
  go_enter Tryz.func24, Tryz.ntmps24
  go_wp2
  go_ret
  exact ⟨rfl, rfl⟩

end Go.Proofs.YthodpjcdmdbnoaaGreatDoor
