/- The contracts of block.fits, slices.Clone, block.New, Cipher.Size, Cipher.Do of TDES with a key of two keys. -/
import Derived.Test.YtfkjkkjimdilcaaGreatDoorEqual
import Derived.Test.YtfkjkkjimdilcaaGreatDoorConv
import Derived.Test.YtfkjkkjimdilcaaGreatDoorDesGH
import Derived.WalkSpells
import Derived.Test.YtfkjkkjimdilcaaGreatDoorNums
namespace Go.Proofs.YtfkjkkjimdilcaaGreatDoor
open Go Go.RowKit Pr

theorem triple16_len (k0 k1 b : List Nat) (back : Bool) : (triple16 k0 k1 b back).length = 8 := blockN_len _ _ _
theorem triple16_lt (k0 k1 b : List Nat) (back : Bool) : ∀ c ∈ triple16 k0 k1 b back, c < 256 := blockN_lt _ _ _
/-- whether a key of n bytes may be -/
def fitsB (kind n : Nat) : Bool := if kind = 1 then (n == 16 || n == 24) || n == 32 else (n == 8 || n == 16) || n == 24

set_option maxHeartbeats 1000000 in
theorem fits_any (kind n : Nat) (hk : kind = 1 ∨ kind = 2) (w : World) :
    Calls Tryz.prog 75 #[.int .i64 kind, .int .i64 n] w fun e w' => e = .returned (.bool (fitsB kind n)) ∧ w = w' := by
  rcases hk with rfl | rfl
  · have hf : fitsB 1 n = ((n == 16 || n == 24) || n == 32) := rfl
    rw [hf]
    have e1 : (n == 16) = ((n : Int) == 16) := by rw [Bool.eq_iff_iff, beq_iff_eq, beq_iff_eq]; omega
    have e2 : (n == 24) = ((n : Int) == 24) := by rw [Bool.eq_iff_iff, beq_iff_eq, beq_iff_eq]; omega
    have e3 : (n == 32) = ((n : Int) == 32) := by rw [Bool.eq_iff_iff, beq_iff_eq, beq_iff_eq]; omega
    rw [e1, e2, e3]
    clear hf e1 e2 e3
    cases h1 : ((n : Int) == 16) <;> cases h2 : ((n : Int) == 24) <;> cases h3 : ((n : Int) == 32)
    all_goals
      go_enter Tryz.func75, Tryz.ntmps75
      go_wp2
      go_ret
      exact ⟨rfl, rfl⟩
  · have hf : fitsB 2 n = ((n == 8 || n == 16) || n == 24) := rfl
    rw [hf]
    have e1 : (n == 8) = ((n : Int) == 8) := by rw [Bool.eq_iff_iff, beq_iff_eq, beq_iff_eq]; omega
    have e2 : (n == 16) = ((n : Int) == 16) := by rw [Bool.eq_iff_iff, beq_iff_eq, beq_iff_eq]; omega
    have e3 : (n == 24) = ((n : Int) == 24) := by rw [Bool.eq_iff_iff, beq_iff_eq, beq_iff_eq]; omega
    rw [e1, e2, e3]
    clear hf e1 e2 e3
    cases h1 : ((n : Int) == 8) <;> cases h2 : ((n : Int) == 16) <;> cases h3 : ((n : Int) == 24)
    all_goals
      go_enter Tryz.func75, Tryz.ntmps75
      go_wp2
      go_ret
      exact ⟨rfl, rfl⟩

theorem OwnN.start (e : TypeId) (kd : IntKind) (w : World) (B : Nat) (hB : B ≤ w.heap.size) : OwnN e kd (w.alloc (.cells #[] e)) B (.slice (some ⟨w.heap.size, 0, none⟩) 0 0) [] :=
  ⟨rfl, .inr ⟨w.heap.size, 0, #[], rfl, hB, Blk.new w e #[], Nat.le_refl _, by unfold maxLen; omega, rfl, rfl⟩⟩
set_option maxHeartbeats 1000000 in
set_option maxRecDepth 100000 in
theorem clone_any (l : List Nat) (n : Nat) (hn : l.length = n) (hn0 : 0 < n) (hn2 : n ≤ 1000) (A : Option Addr) (cp : Nat) (w : World) (hA : At w A l) :
    Calls Tryz.prog 61 #[.slice A n cp] w fun e w' => (∃ v, e = .returned v ∧ Own w' w.heap.size v l) ∧ Below w.heap.size w w' := by
  obtain ⟨b, o, rfl, hB⟩ := hA (by intro h; rw [h] at hn; simp at hn; omega)
  have HN := Lib.hid hn; clear hn
  have hB1 : Bs (w.alloc (.cells #[] 5)) b o l := hB.alloc _
  clear hA
  have hnil : ∀ W, (binOp .eql 22 (.slice (some ⟨b, o, none⟩) n cp) (.slice none 0 0)).run Tryz.prog W = .ok (.bool false) W := fun W => Lib.run_eql_slice_nil W _ _ (some ⟨b, o, none⟩) n cp 0 0 Tryz.underlying22
  go_enter Tryz.func61, Tryz.ntmps61
  go_wp2_with (at_builtin; go_loud (refine wpList_append_nums rfl (.tmp 5) (.tmp 6) 22 rfl .u8 5 1 Tryz.underlying22 info_byte w.heap.size w _ [] rfl (OwnN.start 5 .u8 w w.heap.size (Nat.le_refl _)) ((Below.refl _ _).alloc (Nat.le_refl _) _) (by simp) _ n cp l rfl HN.out ⟨_, _, rfl, hB1⟩ (by simp; omega) (by omega) ?_); intro v5 w5 hown5 hbel5 hsz5)
  go_ret
  exact ⟨⟨_, rfl, hown5⟩, hbel5⟩

/-- block g is a cipher of that kind, with a key of its own -/
def CipherAt (w : World) (g : Nat) (kind : Nat) (key : List Nat) (bk : Value) : Prop :=
  ∃ gk cp, Blk w g 120 #[.int .i64 kind, .slice (some ⟨gk, 0, none⟩) key.length cp, bk] ∧ key.length ≤ cp ∧ Bs w gk 0 key ∧ gk < w.heap.size
theorem CipherAt.lt {w : World} {g kind : Nat} {key : List Nat} {bk : Value} (h : CipherAt w g kind key bk) : g < w.heap.size := by
  obtain ⟨gk, cp, hB, _⟩ := h
  exact hB.lt
theorem CipherAt.below {w w' : World} {g kind : Nat} {key : List Nat} {bk : Value} {C : Nat} (h : CipherAt w g kind key bk) (hb : Below C w w') (hC : w.heap.size ≤ C) : CipherAt w' g kind key bk := by
  obtain ⟨gk, cp, hB, hc, hk, hl⟩ := h
  exact ⟨gk, cp, hB.below hb (Nat.lt_of_lt_of_le hB.lt hC), hc, hk.below hb (Nat.lt_of_lt_of_le hl hC), Nat.lt_of_lt_of_le hl hb.size⟩

set_option maxHeartbeats 1000000 in
theorem new_yes (kind n : Nat) (hk : kind = 1 ∨ kind = 2) (key : List Nat) (hn : key.length = n) (hfit : fitsB kind n = true) (hn2 : n ≤ 1000) (A : Option Addr) (cp : Nat) (bk : Option Addr) (w : World) (hA : At w A key) :
    Calls Tryz.prog 42 #[.int .i64 kind, .slice A n cp, .pointer bk] w fun e w' => (∃ g, e = .returned (.tuple #[.pointer (some ⟨g, 0, none⟩), .nilIface]) ∧ w.heap.size ≤ g ∧ CipherAt w' g kind key (.pointer bk)) ∧ Below w.heap.size w w' := by
  have hn0 : 0 < n := by
    rcases Nat.eq_zero_or_pos n with h | h
    · subst h; rcases hk with rfl | rfl <;> exact absurd hfit (by decide)
    · exact h
  have HF := Lib.hid (fun W => fits_any kind n hk W)
  rw [hfit] at HF
  have HC := Lib.hid (fun W hA => clone_any key n hn hn0 (by omega) A cp W hA)
  have HA := Lib.hid hA; clear hA
  have HN := Lib.hid hn; clear hn hfit
  have main : ∀ k : Nat, kind = k → k = 1 ∨ k = 2 → Calls Tryz.prog 42 #[.int .i64 k, .slice A n cp, .pointer bk] w fun e w' => (∃ g, e = .returned (.tuple #[.pointer (some ⟨g, 0, none⟩), .nilIface]) ∧ w.heap.size ≤ g ∧ CipherAt w' g kind key (.pointer bk)) ∧ Below w.heap.size w w' := by
    clear hk
    intro k hkk hk
    rcases hk with rfl | rfl
    all_goals
      subst hkk
      go_enter Tryz.func42, Tryz.ntmps42
      go_wp2_with fail
      refine (HF.out _).mono ?_
      rintro e w1 ⟨rfl, rfl⟩
      go_wp2_with fail
      refine (HC.out _ HA.out).mono ?_
      rintro e w2 ⟨⟨v, rfl, hv⟩, hb2⟩
      obtain ⟨g, cap, rfl, hg, hcap, hgl, hB⟩ := hv.form (by intro h; have := HN.out; rw [h] at this; simp at this; omega)
      clear hv
      go_wp2
      go_ret2
      exact ⟨⟨w2.heap.size, rfl, hb2.size, g, cap, Blk.new w2 _ _, hcap, hB.alloc _, by simp; omega⟩, hb2.alloc hb2.size _⟩
  exact main kind rfl hk

set_option maxHeartbeats 1000000 in
theorem new_no (kind n : Nat) (hk : kind = 1 ∨ kind = 2) (hfit : fitsB kind n = false) (A : Option Addr) (cp : Nat) (bk : Option Addr) (w : World) :
    Calls Tryz.prog 42 #[.int .i64 kind, .slice A n cp, .pointer bk] w fun e w' => e = .returned (.tuple #[.pointer none, .iface 64 (.int .i64 2)]) ∧ w = w' := by
  have HF := Lib.hid (fun W => fits_any kind n hk W)
  rw [hfit] at HF
  clear hfit
  rcases hk with rfl | rfl
  all_goals
    go_enter Tryz.func42, Tryz.ntmps42
    go_wp2_with fail
    refine (HF.out _).mono ?_
    rintro e w1 ⟨rfl, rfl⟩
    go_wp2
    go_ret2
    exact ⟨rfl, rfl⟩

def sizeN (kind : Nat) : Nat := if kind = 2 then 8 else 16
theorem size_any (kind g : Nat) (hk : kind = 1 ∨ kind = 2 ∨ kind = 3) (key : List Nat) (bk : Value) (w : World) (hC : CipherAt w g kind key bk) :
    Calls Tryz.prog 58 #[.pointer (some ⟨g, 0, none⟩)] w fun e w' => e = .returned (.int .i64 (sizeN kind : Nat)) ∧ w = w' := by
  obtain ⟨gk, cp, hB, _⟩ := hC
  have hc := hB.cell 0
  have hc0 : w.cell? ⟨g, 0, none⟩ = some (.int .i64 (kind : Int)) := hc
  clear hc hB
  rcases hk with rfl | rfl | rfl
  all_goals
    go_enter Tryz.func58, Tryz.ntmps58
    go_wp2
    go_ret
    exact ⟨rfl, rfl⟩

set_option maxHeartbeats 4000000 in
set_option maxRecDepth 100000 in
/-- one block of TDES, enciphered with a key of two keys -/
theorem doT_any (g : Nat) (key : List Nat) (hkl : key.length = 16) (hkb : ∀ c ∈ key, c < 256) (bk : Value) (x : List Nat) (hx : x.length = 8) (gx : ∀ c ∈ x, c < 256) (A : Option Addr) (cx : Nat) (w : World) (hC : CipherAt w g 2 key bk) (hA : At w A x) :
    Calls Tryz.prog 59 #[.pointer (some ⟨g, 0, none⟩), .slice A 8 cx, .bool false] w fun e w' => (∃ gv, e = .returned (.tuple #[.slice (some ⟨gv, 0, none⟩) 8 8, .nilIface]) ∧ w.heap.size ≤ gv ∧ Blk w' gv 141 (byteCells (triple16 (key.take 8) (key.drop 8) x false))) ∧ Below w.heap.size w w' := by
  have HSZ := Lib.hid (fun W hC => size_any 2 g (by omega) key bk W hC)
  have hC0 := hC
  obtain ⟨gk, cp, hB, hcp, hK, hgk⟩ := hC
  obtain ⟨bx, ox, rfl, hBx⟩ := hA (by intro h; rw [h] at hx; cases hx)
  have hbx := hBx.lt (by intro h; rw [h] at hx; cases hx)
  have hgl := hB.lt
  have c0 : w.cell? ⟨g, 0, none⟩ = some (.int .i64 2) := hB.cell 0
  have c1 : ∀ W, Below w.heap.size w W → W.cell? ⟨g, 1, none⟩ = some (.slice (some ⟨gk, 0, none⟩) 16 cp) := fun W hW => by
    have := (hB.below hW hgl).cell 1
    rw [hkl] at this
    exact this
  have HC1 := Lib.hid c1; clear c1
  have h0l : (key.take 8).length = 8 := by rw [List.length_take, hkl]; rfl
  have h1l : (key.drop 8).length = 8 := by rw [List.length_drop, hkl]
  have HT := Lib.hid (fun W hB0 hB1 => triple16_fwd (key.take 8) (key.drop 8) x h0l h1l hx (fun c h => hkb c (List.mem_of_mem_take h)) (fun c h => hkb c (List.mem_of_mem_drop h)) gx gk 0 cp (by omega) W hB0 hB1)
  have hk0 : ∀ W, Below w.heap.size w W → Bs W gk 0 (key.take 8) ∧ Bs W gk (0 + 8) (key.drop 8) := fun W hW => by
    have hKW := hK.below hW hgk
    refine ⟨?_, ?_⟩
    · have := hKW.sub 0 8; simpa using this
    · have := hKW.sub 8 8; rw [List.take_of_length_le (by rw [h1l]; exact Nat.le_refl _)] at this; exact this
  have HK0 := Lib.hid hk0; clear hk0
  have hvl := triple16_len (key.take 8) (key.drop 8) x false
  generalize triple16 (key.take 8) (key.drop 8) x false = V at *
  have HVL := Lib.hid hvl; clear hvl
  have HX := Lib.hid hx; clear hx
  have hfx : ∀ W, Below w.heap.size w W → Bs W bx ox x := fun W hW => hBx.below hW hbx
  have HFX := Lib.hid hfx; clear hfx
  have HC0 := Lib.hid hC0; clear hC0
  clear hkl hkb hB hcp hK hA hBx h0l h1l gx
  have harr : ∀ a c W, (Instr.arrayAt 141 (.slice a 8 c)).run Tryz.prog W = .ok (.pointer a) W := fun a c W => run_arrayAt _ 5 8 Tryz.underlying141 a 8 c (Nat.le_refl _) W
  go_enter Tryz.func59, Tryz.ntmps59
  go_wp2_with fail
  refine (HSZ.out _ HC0.out).mono ?_
  rintro e w1 ⟨rfl, rfl⟩
  have f8 : sizeN 2 = 8 := rfl
  rw [f8]
  go_wp2_with fail
  refine wp_region_tree (.q 0 (.q 1 (.q 2 (.q 3 (.q 4 (.q 5 (.q 6 (.q 7 (.e [8, 12] fun i => bif i == 8 then .q 9 (.q 10 (.q 11 (.e [12] fun _ => .e [13] fun _ => .q 14 .done))) else .e [8] fun _ => .q 9 (.q 10 (.q 11 (.e [13] fun _ => .q 14 .done)))))))))))) (fun W => Below w.heap.size w W) rfl (by kernel_rfl) (fun _ _ d _ _ h => by cases d <;> exact h) ?_
  have hw : Below w.heap.size w w.drew := below_drewN (Below.refl _ _) 1
  iterate 3 (refine t_q rfl rfl hw _ (fun W hW => by (go_simp; rfl)) ?_; go_simp)
  refine t_q rfl rfl hw (.slice (some ⟨gk, 0, none⟩) 16 cp) (fun W hW => by (have hc := HC1.out W hW; go_simp)) ?_
  go_simp
  iterate 2 (refine t_q rfl rfl hw _ (fun W hW => by (go_simp; rfl)) ?_; go_simp)
  refine t_load_bs rfl rfl 141 (.tmp 29) rfl bx ox rfl x hw (fun W hW => HFX.out W hW) _ Tryz.underlying141 rfl (by rw [info_8u8, HX.out]) ?_
  go_simp
  refine t_q rfl rfl hw _ (fun W hW => by (go_simp; rfl)) ?_
  go_simp
  refine t_two ?_ ?_
  · refine t_op rfl rfl fun K hK => ?_
    go_simp
    refine (HT.out _ (HK0.out _ hw).1 (HK0.out _ hw).2).mono ?_
    rintro e w3 ⟨rfl, hb3⟩
    have hw3 := hw.trans (hb3.mono hw.size)
    refine hK _ _ hw3 ?_
    clear hK K hb3
    go_simp
    iterate 3 (refine t_q rfl rfl hw3 _ (fun W hW => by (go_simp; rfl)) ?_; go_simp)
    refine t_e rfl rfl fun K hK => ?_
    go_simp
    have hw4 := hw3.alloc hw3.size (.cells #[Value.int .u8 0, Value.int .u8 0, Value.int .u8 0, Value.int .u8 0, Value.int .u8 0, Value.int .u8 0, Value.int .u8 0, Value.int .u8 0] 141)
    refine hK _ _ hw4 ?_
    clear hK K
    refine t_e rfl rfl fun K hK => ?_
    refine op_store_row 141 (.tmp 8) (.tmp 33) rfl w3.heap.size (byteCells V) rfl rfl 141 _ (Blk.new w3 _ _) (by rw [info_8u8, size_byteCells, HVL.out]) (by rw [size_byteCells, HVL.out]; rfl) (bytes_one _) fun w5 hB5 hO5 => ?_
    have hw5 := hO5.below hw4 hw3.size
    refine hK _ _ hw5 ?_
    clear hK K hO5 hw4
    go_simp
    refine t_q rfl rfl hw5 _ (fun W hW => by (go_simp; rfl)) ?_
    go_simp
    refine t_done ?_
    go_wp2
    go_ret2
    exact ⟨⟨_, rfl, hw3.size, hB5⟩, hw5⟩
  · refine t_op rfl rfl fun K hK => ?_
    go_simp
    have hw4 := hw.alloc hw.size (.cells #[Value.int .u8 0, Value.int .u8 0, Value.int .u8 0, Value.int .u8 0, Value.int .u8 0, Value.int .u8 0, Value.int .u8 0, Value.int .u8 0] 141)
    refine hK _ _ hw4 ?_
    clear hK K
    have hB4 := Blk.new w.drew 141 #[Value.int .u8 0, Value.int .u8 0, Value.int .u8 0, Value.int .u8 0, Value.int .u8 0, Value.int .u8 0, Value.int .u8 0, Value.int .u8 0]
    refine t_e rfl rfl fun K hK => ?_
    go_simp
    refine (HT.out _ (HK0.out _ hw4).1 (HK0.out _ hw4).2).mono ?_
    rintro e w3 ⟨rfl, hb3⟩
    have hw3 := hw4.trans (hb3.mono hw4.size)
    have hB3 := hB4.below hb3 (by simp)
    refine hK _ _ hw3 ?_
    clear hK K hb3 hB4
    go_simp
    iterate 3 (refine t_q rfl rfl hw3 _ (fun W hW => by (go_simp; rfl)) ?_; go_simp)
    refine t_e rfl rfl fun K hK => ?_
    refine op_store_row 141 (.tmp 8) (.tmp 33) rfl w.heap.size (byteCells V) rfl rfl 141 _ hB3 (by rw [info_8u8, size_byteCells, HVL.out]) (by rw [size_byteCells, HVL.out]; rfl) (bytes_one _) fun w5 hB5 hO5 => ?_
    have hw5 := hO5.below hw3 (Nat.le_refl _)
    refine hK _ _ hw5 ?_
    clear hK K hO5 hw4
    go_simp
    refine t_q rfl rfl hw5 _ (fun W hW => by (go_simp; rfl)) ?_
    go_simp
    refine t_done ?_
    go_wp2
    go_ret2
    exact ⟨⟨_, rfl, Nat.le_refl _, hB5⟩, hw5⟩
end Go.Proofs.YtfkjkkjimdilcaaGreatDoor
