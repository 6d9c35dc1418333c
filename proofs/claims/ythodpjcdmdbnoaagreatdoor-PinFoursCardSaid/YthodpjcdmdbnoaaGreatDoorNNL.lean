/- tape.New, block.NewBook, block.New of an oracle; lockboxlaw14.key. lockboxlaw14.awake, bad. lockboxlaw14.PinMakes: the walk. lockboxlaw14.PinOpens: the walk. -/
import Derived.Test.YthodpjcdmdbnoaaGreatDoorNTA
import Derived.Test.YthodpjcdmdbnoaaGreatDoorNPE
import Derived.Test.YthodpjcdmdbnoaaGreatDoorNPB
import Derived.Test.YthodpjcdmdbnoaaGreatDoorNMH
import Derived.Test.YthodpjcdmdbnoaaGreatDoorNArr
import Derived.Test.YthodpjcdmdbnoaaGreatDoorNAs
/- tape.New, block.NewBook, block.New of an oracle; lockboxlaw14.key. -/
namespace Go.Proofs.YthodpjcdmdbnoaaGreatDoor
open Go Go.RowKit Pr

set_option maxHeartbeats 1000000 in
set_option maxRecDepth 100000 in
theorem clone_big (l : List Nat) (n : Nat) (hn : l.length = n) (hn0 : 0 < n) (hn2 : n ≤ 100000) (A : Option Addr) (cp : Nat) (w : World) (hA : At w A l) :
    Calls Tryz.prog 22 #[.slice A n cp] w fun e w' => (∃ v, e = .returned v ∧ Own w' w.heap.size v l) ∧ Below w.heap.size w w' := by
 obtain ⟨b, o, rfl, hB⟩ := hA (by intro h; rw [h] at hn; simp at hn; omega)
 have HN := Lib.hid hn; clear hn
 have hB1 : Bs (w.alloc (.cells #[] 5)) b o l := hB.alloc _
 clear hA
 have hnil : ∀ W, (binOp .eql 22 (.slice (some ⟨b, o, none⟩) n cp) (.slice none 0 0)).run Tryz.prog W = .ok (.bool false) W := fun W => Lib.run_eql_slice_nil W _ _ (some ⟨b, o, none⟩) n cp 0 0 Tryz.underlying22
 go_enter Tryz.func22, Tryz.ntmps22
 go_wp2_with (at_builtin; go_loud (refine wpList_append_nums rfl (.tmp 5) (.tmp 6) 22 rfl .u8 5 1 Tryz.underlying22 info_byte w.heap.size w _ [] rfl (OwnN.start 5 .u8 w w.heap.size (Nat.le_refl _)) ((Below.refl _ _).alloc (Nat.le_refl _) _) (by simp) _ n cp l rfl HN.out ⟨_, _, rfl, hB1⟩ (by simp; omega) (by omega) ?_); intro v5 w5 hown5 hbel5 hsz5)
 go_ret
 exact ⟨⟨_, rfl, hown5⟩, hbel5⟩

set_option maxHeartbeats 1000000 in
set_option maxRecDepth 100000 in
/-- of no bytes: a slice of none -/
theorem clone_zero (A : Option Addr) (cp : Nat) (w : World) :
    Calls Tryz.prog 22 #[.slice A 0 cp] w fun e w' => (∃ A' c', e = .returned (.slice A' 0 c')) ∧ Below w.heap.size w w' := by
 have hb := (Below.refl w.heap.size w).alloc (Nat.le_refl _) (.cells #[] 5)
 cases A with
 | none =>
  have hnil : ∀ W, (binOp .eql 22 (.slice none 0 cp) (.slice none 0 0)).run Tryz.prog W = .ok (.bool true) W := fun W => Lib.run_eql_slice_nil W _ _ none 0 cp 0 0 Tryz.underlying22
  go_enter Tryz.func22, Tryz.ntmps22
  go_wp2
  go_ret
  exact ⟨⟨_, _, rfl⟩, Below.refl _ _⟩
 | some p =>
  have hnil : ∀ W, (binOp .eql 22 (.slice (some p) 0 cp) (.slice none 0 0)).run Tryz.prog W = .ok (.bool false) W := fun W => Lib.run_eql_slice_nil W _ _ (some p) 0 cp 0 0 Tryz.underlying22
  go_enter Tryz.func22, Tryz.ntmps22
  go_wp2
  all_goals
   go_ret
   exact ⟨⟨_, _, rfl⟩, hb⟩

set_option maxHeartbeats 1000000 in
theorem tapeNew_any (l : List Nat) (n : Nat) (hn : l.length = n) (hn2 : n ≤ 60000) (A : Option Addr) (cp : Nat) (w : World) (hA : At w A l) :
    Calls Tryz.prog 6 #[.slice A n cp] w fun e w' => (∃ tp tb, e = .returned (.tuple #[.pointer (some ⟨tp, 0, none⟩), .nilIface]) ∧ w.heap.size ≤ tp ∧ TapeAt w' tp tb l ∧ w.heap.size ≤ tb ∧ tb < w'.heap.size) ∧ Below w.heap.size w w' := by
 rcases Nat.eq_zero_or_pos n with h0 | h0
 ·
  subst h0
  obtain rfl := List.length_eq_zero_iff.1 hn
  have HC := Lib.hid (clone_zero A cp w)
  clear hA
  go_enter Tryz.func6, Tryz.ntmps6
  go_wp2_with fail
  refine (HC.out).mono ?_
  rintro e w1 ⟨⟨A', c', rfl⟩, hb⟩
  have hT : TapeAt (w1.alloc (.cells #[.slice A' 0 c'] 59)) w1.heap.size w1.heap.size [] := ⟨A', c', Nat.zero_le _, Blk.new w1 _ _, fun h => absurd rfl h⟩
  have hs := hb.size
  have hb2 := hb.alloc hs (.cells #[.slice A' 0 c'] 59)
  go_wp2
  go_ret2
  exact ⟨⟨_, _, rfl, hs, hT, hs, by simp⟩, hb2⟩
 ·
  have HC := Lib.hid (clone_big l n hn h0 (by omega) A cp w hA)
  have hne := ne_nil hn h0
  have hni : ¬ (65536 : Int) < (n : Int) := by omega
  clear hA
  go_enter Tryz.func6, Tryz.ntmps6
  go_wp2_with fail
  refine (HC.out).mono ?_
  rintro e w1 ⟨⟨v, rfl, hv⟩, hb⟩
  obtain ⟨g, c, rfl, hg, hc, hgl, hB⟩ := hv.form hne
  have hT : TapeAt (w1.alloc (.cells #[.slice (some ⟨g, 0, none⟩) l.length c] 59)) w1.heap.size g l := ⟨_, c, hc, Blk.new w1 _ _, fun _ => ⟨0, rfl, hB.alloc _⟩⟩
  have hs := hb.size
  have hb2 := hb.alloc hs (.cells #[.slice (some ⟨g, 0, none⟩) l.length c] 59)
  clear hv hn hc
  go_wp2
  go_ret2
  exact ⟨⟨_, _, rfl, hs, hT, hg, by simp; omega⟩, hb2⟩

set_option maxHeartbeats 1000000 in
theorem newBook_any (tp : Nat) (w : World) :
    Calls Tryz.prog 8 #[.pointer (some ⟨tp, 0, none⟩)] w fun e w' => (∃ bp, e = .returned (.pointer (some ⟨bp, 0, none⟩)) ∧ w.heap.size ≤ bp ∧ Book0 w' bp tp) ∧ Below w.heap.size w w' := by
 have hB : Book0 (w.alloc (.cells #[.slice none 0 0, .pointer (some ⟨tp, 0, none⟩)] 65)) w.heap.size tp := Blk.new w _ _
 have hb := (Below.refl w.heap.size w).alloc (Nat.le_refl _) (.cells #[.slice none 0 0, .pointer (some ⟨tp, 0, none⟩)] 65)
 go_enter Tryz.func8, Tryz.ntmps8
 go_wp2
 go_ret
 exact ⟨⟨_, rfl, Nat.le_refl _, hB⟩, hb⟩

set_option maxHeartbeats 1000000 in
theorem new3_any (key : List Nat) (hkl : key.length = 16) (A : Option Addr) (cp : Nat) (bp : Nat) (w : World) (hA : At w A key) :
    Calls Tryz.prog 7 #[.int .i64 3, .slice A 16 cp, .pointer (some ⟨bp, 0, none⟩)] w fun e w' => (∃ g gk ck, e = .returned (.tuple #[.pointer (some ⟨g, 0, none⟩), .nilIface]) ∧ w.heap.size ≤ g ∧ w.heap.size ≤ gk ∧ gk < w'.heap.size ∧ 16 ≤ ck
     ∧ Blk w' g 62 #[.int .i64 3, .slice (some ⟨gk, 0, none⟩) 16 ck, .pointer (some ⟨bp, 0, none⟩)] ∧ Bs w' gk 0 key) ∧ Below w.heap.size w w' := by
 have HC := Lib.hid (fun W hA => clone_any key 16 hkl (by omega) (by omega) A cp W hA)
 have HA := Lib.hid hA; clear hA
 have HKL := Lib.hid hkl; clear hkl
 have HF := Lib.hid (show ∀ W, Calls Tryz.prog 23 #[.int .i64 3, .int .i64 16] W fun e w' => e = .returned (.bool true) ∧ W = w' from fun W => by
  go_enter Tryz.func23, Tryz.ntmps23
  go_wp2
  go_ret
  exact ⟨rfl, rfl⟩)
 go_enter Tryz.func7, Tryz.ntmps7
 go_wp2_with fail
 refine (HF.out _).mono ?_
 rintro e w1 ⟨rfl, rfl⟩
 go_wp2_with fail
 refine (HC.out _ HA.out).mono ?_
 rintro e w2 ⟨⟨v, rfl, hv⟩, hb2⟩
 have hkl := HKL.out
 obtain ⟨g, cap, rfl, hg, hcap, hgl, hB⟩ := hv.form (ne_nil hkl (by omega))
 rw [hkl] at hcap ⊢
 clear hv hkl
 go_wp2
 go_ret2
 exact ⟨⟨w2.heap.size, g, cap, rfl, hb2.size, hg, by simp; omega, hcap, Blk.new w2 _ _, hB.alloc _⟩, hb2.alloc hb2.size _⟩

/-- sixteen bytes of others -/
def keyN (b : List Nat) : List Nat := (List.range 16).map fun i => if b.length = 0 then 0 else b.getD (i % b.length) 0
theorem keyN_len (b : List Nat) : (keyN b).length = 16 := by simp [keyN]
theorem keyN_byt {b : List Nat} (h : Byt b) : Byt (keyN b) := by
 intro c hc
 unfold keyN at hc
 obtain ⟨i, _, rfl⟩ := List.mem_map.1 hc
 split
 ·
  omega
 ·
  exact h.at_ _

set_option maxHeartbeats 4000000 in
set_option maxRecDepth 100000 in
theorem key14_any (b : List Nat) (n : Nat) (hn : b.length = n) (hn2 : n ≤ 1000) (A : Option Addr) (cb : Nat) (w : World) (hA : At w A b) :
    Calls Tryz.prog 5 #[.slice A n cb] w fun e w' => (∃ v, e = .returned v ∧ Own w' w.heap.size v (keyN b)) ∧ Below w.heap.size w w' := by
 have hkl := keyN_len b
 have hk : ∀ k, k < 16 → (keyN b).take (k + 1) = (keyN b).take k ++ [if n = 0 then 0 else b.getD (k % n) 0] := fun k hk => by
  rw [List.take_succ_eq_append_getElem (by omega)]
  congr 2
  unfold keyN
  simp [hn]
 generalize keyN b = T at *
 have HK := Lib.hid hk; clear hk
 have HKL := Lib.hid hkl; clear hkl
 have hc : ∀ k W, 0 < n → Below w.heap.size w W → ∃ bl o, A = some ⟨bl, o, none⟩ ∧ W.cell? ⟨bl, o + k % n, none⟩ = some (.int .u8 (b.getD (k % n) 0 : Nat)) := fun k W h0 hW => by
  obtain ⟨bl, o, e, hB⟩ := hA.below hW (Nat.le_refl _) (ne_nil hn h0)
  exact ⟨bl, o, e, hB.cellD (k % n) (by rw [hn]; exact Nat.mod_lt _ h0)⟩
 have HC := Lib.hid hc; clear hc
 clear hA hn
 go_enter Tryz.func5, Tryz.ntmps5
 go_wp2
 go_loopw [3, 4] (fun v i wr => ∃ k : Nat, k ≤ 16 ∧ i = .int .i64 k ∧ OwnN 5 .u8 wr w.heap.size v (T.take k) ∧ Below w.heap.size w wr) (fun _ i _ => 16 - (intOf i).toNat)
 case atStart => exact ⟨0, by omega, rfl, OwnN.nil _ _ _ _, Below.refl _ _⟩
 case round =>
  obtain ⟨k, hk, rfl, hown, hbel⟩ := hrel
  have hlen : (T.take k).length = k := by rw [List.length_take, HKL.out]; omega
  have hszr : w.heap.size ≤ wr.heap.size := hbel.size
  by_cases hlt : k < 16
  ·
   have hlt' : (k : Int) < 16 := by omega
   have hstk := HK.out k hlt
   have hTl : (T.take k).length + 1 ≤ 1000000000 := by omega
   obtain ⟨X, hX⟩ : ∃ X, T.take k = X := ⟨_, rfl⟩
   rw [hX] at hstk hown hlen hTl
   clear hX
   rcases Nat.eq_zero_or_pos n with h0 | h0
   ·
    subst h0
    rw [if_pos rfl] at hstk
    have HST := Lib.hid hstk; clear hstk
    go_wp2_with (first
     | (at_builtin; go_loud (refine wpList_append_nums rfl (.tmp 9) (.tmp 10) 22 rfl .u8 5 1 Tryz.underlying22 info_byte w.heap.size w _ X rfl (OwnN.below hown ((Below.refl wr.heap.size wr).alloc (Nat.le_refl _) _) (Nat.le_refl _)) (hbel.alloc (by simpa using hszr) _) (by simp; omega) _ 1 1 [0] rfl rfl ⟨_, _, rfl, Ns.newZ .u8 wr 5 _ _ rfl⟩ hTl (by omega) ?_; intro v5 w5 hown5 hbel5 _)))
    rw [← HST.out] at hown5
    go_roundw
    case rel => exact ⟨k + 1, by omega, by go_num, hown5, hbel5⟩
    case measure => simp [intOf]; omega
   ·
    rw [if_neg (by omega)] at hstk
    have h0' : (0 : Int) < (n : Int) := by omega
    have hml : k % n < n := Nat.mod_lt _ h0
    obtain ⟨bl, o, rfl, hcell⟩ := HC.out k wr h0 hbel
    have HC2 := Lib.hid (fun W (hW : Below w.heap.size w W) => (by
     obtain ⟨bl', o', e, h⟩ := HC.out k W h0 hW
     injection e with e
     injection e with e1 e2
     rw [e1, e2]
     exact h : W.cell? ⟨bl, o + k % n, none⟩ = some (.int .u8 (b.getD (k % n) 0 : Nat))))
    clear hcell
    have erm : (k : Int).tmod (n : Int) = ((k % n : Nat) : Int) := by rw [Int.tmod_eq_emod_of_nonneg (by omega)]; omega
    generalize b.getD (k % n) 0 = c at *
    obtain ⟨M, hM⟩ : ∃ M, k % n = M := ⟨_, rfl⟩
    rw [hM] at erm hml HC2
    clear hM
    have hmi : (M : Int) < (n : Int) := by omega
    have HST := Lib.hid hstk; clear hstk
    have hwm : IntKind.i64.wrap ((M : Nat) : Int) = (M : Int) := IntWalk.i64_in _ (by omega)
    go_wp2_with (first
     | (at_builtin; go_loud (refine wpList_append_nums rfl (.tmp 9) (.tmp 10) 22 rfl .u8 5 1 Tryz.underlying22 info_byte w.heap.size w _ X rfl (OwnN.below hown ((Below.refl wr.heap.size wr).alloc (Nat.le_refl _) _) (Nat.le_refl _)) (hbel.alloc (by simpa using hszr) _) (by simp; omega) _ 1 1 [0] rfl rfl ⟨_, _, rfl, Ns.newZ .u8 wr 5 _ _ rfl⟩ hTl (by omega) ?_; intro v5 w5 hown5 hbel5 _; obtain ⟨g5, cap5, rfl, hg5, hcap5, hgl5, hNs5⟩ := hown5.form2 (by simp); have hl5 : (X ++ [0]).length = k + 1 := (by rw [List.length_append, hlen]; rfl); rw [hl5] at hcap5 hown5 ⊢; have hci := hNs5.cell k (by omega); rw [Nat.zero_add] at hci; have hfz := hown5.free k; have hcb := HC2.out w5 hbel5)))
    have hset := hown5.set k c
    have h8 : (X ++ [0]).set k c = X ++ [c] := by subst hlen; simp
    have h9 : T.take (k + 1) = X ++ [c] := HST.out
    rw [h8, ← h9] at hset
    have hbS := below_setCell (Below.refl _ _) hbel5 (Nat.le_refl _) ⟨g5, k, none⟩ hg5 (.int .u8 (c : Int))
    go_roundw
    case rel => exact ⟨k + 1, by omega, by go_num, hset, hbS⟩
    case measure => simp [intOf]; omega
  ·
   obtain rfl : k = 16 := by omega
   have hno : ¬ ((16 : Nat) : Int) < 16 := by omega
   rw [List.take_of_length_le (by rw [HKL.out]; omega)] at hown
   have hO := OwnN.bytes hown
   go_wp2
   go_ret
   exact ⟨⟨_, rfl, hO⟩, hbel⟩
end Go.Proofs.YthodpjcdmdbnoaaGreatDoor

/- lockboxlaw14.awake, bad. -/
namespace Go.Proofs.YthodpjcdmdbnoaaGreatDoor
open Go Go.RowKit Pr

theorem decEr_cases (s : List UInt8) (lo hi : Nat) : decEr s lo hi = .no 2 ∨ (∃ k : Nat, decEr s lo hi = .fa k 16) ∨ decEr s lo hi = .ok := by
 unfold decEr
 split
 ·
  exact .inl rfl
 ·
  cases badAt isDec s with
  | none => exact .inr (.inr rfl)
  | some k => exact .inr (.inl ⟨k, rfl⟩)
def p14 : ByteArray := ⟨#[49, 50, 51, 52]⟩
def a14 : ByteArray := ⟨#[53, 52, 51, 50, 49, 48, 49, 50, 51, 52, 53, 54, 55, 56, 57, 49]⟩
def b14 : List Nat := [4, 18, 21, 254, 220, 186, 152, 118]
theorem m14Er : makeEr 0 p14.data.toList a14.data.toList = .ok := by rfl
theorem m14Val : makeVal 0 p14.data.toList a14.data.toList z8 = b14 := by decide +kernel
theorem o14Er : openEr 0 b14 a14.data.toList = .ok := by rfl
theorem o14Str : str (openStr 0 b14 a14.data.toList) = p14 := by decide +kernel
theorem r14Er : decEr (⟨#[49, 50, 51]⟩ : ByteArray).data.toList 4 12 = .no 2 := by rfl
theorem c14Er : decEr (⟨#[49, 50, 51, 52, 53, 54, 55, 56, 57, 48, 49, 50, 51]⟩ : ByteArray).data.toList 13 19 = .ok := by rfl

set_option maxHeartbeats 2000000 in
set_option maxRecDepth 100000 in
theorem awake14_any (w : World) :
    Calls Tryz.prog 4 #[] w fun e w' => e = .returned (.bool true) ∧ Below w.heap.size w w' := by
 have H1 := fun W => make_any 0 p14 a14 (by decide) (by decide) z8 rfl (by decide) W
 rw [m14Er, m14Val] at H1
 have H2 := fun W => open_any 0 b14 rfl (by decide) a14 (by decide) W
 rw [o14Er, o14Str] at H2
 have H3 := fun W => right_pin ⟨#[49, 50, 51]⟩ (by decide) W
 rw [r14Er] at H3
 have H4 := fun W => account_any ⟨#[49, 50, 51, 52, 53, 54, 55, 56, 57, 48, 49, 50, 51]⟩ (by decide) W
 rw [c14Er] at H4
 unfold p14 a14 at H1 H2
 have G1 := Lib.hid H1; clear H1
 have G2 := Lib.hid H2; clear H2
 have G3 := Lib.hid H3; clear H3
 have G4 := Lib.hid H4; clear H4
 have heq : ∀ W : World, (Op.equalIn 10000 23 (.agg #[.int .u8 4, .int .u8 18, .int .u8 21, .int .u8 254, .int .u8 220, .int .u8 186, .int .u8 152, .int .u8 118]) (.agg #[.int .u8 4, .int .u8 18, .int .u8 21, .int .u8 254, .int .u8 220, .int .u8 186, .int .u8 152, .int .u8 118])).run Tryz.prog W = .ok true W := fun W => by
  have := eqBytes (P := Tryz.prog) W 23 5 8 Tryz.underlying23 Tryz.underlying5 (fun w => size_u8 info_u8 w) b14 b14 rfl rfl (by decide) (by decide)
  rw [show decide (b14 = b14) = true from decide_eq_true rfl] at this
  exact this
 have hb14 : byteCells b14 = #[.int .u8 4, .int .u8 18, .int .u8 21, .int .u8 254, .int .u8 220, .int .u8 186, .int .u8 152, .int .u8 118] := rfl
 rw [hb14] at G1 G2
 go_enter Tryz.func4, Tryz.ntmps4
 go_wp2_with fail
 refine (G1.out _).mono ?_
 rintro e w1 ⟨⟨v, rfl, hv⟩, hb1⟩
 obtain rfl : v = _ := hv
 go_wp2_with fail
 refine (G2.out _).mono ?_
 rintro e w2 ⟨⟨v, rfl, hv⟩, hb2⟩
 obtain rfl : v = _ := hv
 have hB2 : Blk w2 w1.heap.size 23 #[.int .u8 4, .int .u8 18, .int .u8 21, .int .u8 254, .int .u8 220, .int .u8 186, .int .u8 152, .int .u8 118] := Blk.below (Blk.new w1 _ _) hb2 (by simp)
 have hbel2 : Below w.heap.size w w2 := (hb1.alloc hb1.size (.cells #[.int .u8 4, .int .u8 18, .int .u8 21, .int .u8 254, .int .u8 220, .int .u8 186, .int .u8 152, .int .u8 118] 23)).trans (hb2.mono (by have := hb1.size; simp; omega))
 clear hb1 hb2
 have HEQ := Lib.hid heq; clear heq
 have heq := HEQ.out w2
 have k0 : w2.cell? ⟨w1.heap.size, 0, none⟩ = some (.int .u8 4) := hB2.cell 0
 have k1 : w2.cell? ⟨w1.heap.size, 1, none⟩ = some (.int .u8 18) := hB2.cell 1
 have k2 : w2.cell? ⟨w1.heap.size, 2, none⟩ = some (.int .u8 21) := hB2.cell 2
 have k3 : w2.cell? ⟨w1.heap.size, 3, none⟩ = some (.int .u8 254) := hB2.cell 3
 have k4 : w2.cell? ⟨w1.heap.size, 4, none⟩ = some (.int .u8 220) := hB2.cell 4
 have k5 : w2.cell? ⟨w1.heap.size, 5, none⟩ = some (.int .u8 186) := hB2.cell 5
 have k6 : w2.cell? ⟨w1.heap.size, 6, none⟩ = some (.int .u8 152) := hB2.cell 6
 have k7 : w2.cell? ⟨w1.heap.size, 7, none⟩ = some (.int .u8 118) := hB2.cell 7
 go_wp2_with fail
 refine (G3.out _).mono ?_
 rintro e w3 ⟨⟨v, rfl, hv⟩, hb3⟩
 obtain rfl : v = _ := hv
 have hbel3 := hbel2.trans (hb3.mono hbel2.size)
 clear heq k0 k1 k2 k3 k4 k5 k6 k7
 go_wp2_with fail
 refine (G4.out _).mono ?_
 rintro e w4 ⟨⟨v, rfl, hv⟩, hb4⟩
 obtain rfl : v = _ := hv
 have hbel4 := hbel3.trans (hb4.mono hbel3.size)
 go_wp2
 go_ret
 exact ⟨rfl, hbel4⟩

set_option maxHeartbeats 1000000 in
theorem bad_any (p a : ByteArray) (hp : p.size ≤ 140737488351232) (ha : a.size ≤ 140737488351232) (w : World) :
    Calls Tryz.prog 12 #[.string p, .string a] w fun e w' => e = .returned (.tuple #[.int .i64 (erCode (bothEr p.data.toList a.data.toList)), .int .i64 (erAt (bothEr p.data.toList a.data.toList))]) ∧ w = w' := by
 have H1 := fun W => wrongR_any p hp 4 12 (by omega) (by omega) W
 have H2 := fun W => wrongR_any a ha 13 19 (by omega) (by omega) W
 have hb : bothEr p.data.toList a.data.toList = match decEr p.data.toList 4 12 with | .ok => decEr a.data.toList 13 19 | e => e := rfl
 rcases decEr_cases p.data.toList 4 12 with h | ⟨k, h⟩ | h
 ·
  rw [h] at H1 hb
  rw [show bothEr p.data.toList a.data.toList = .no 2 from hb]
  have f1 : erCode (.no 2) = 2 := rfl
  have f2 : erAt (.no 2) = -1 := rfl
  rw [f1, f2] at H1 ⊢
  have G1 := Lib.hid H1; clear H1 H2 hb h
  go_enter Tryz.func12, Tryz.ntmps12
  go_wp2_with (go_at_call 16; refine (G1.out _).mono ?_; rintro e w' ⟨rfl, rfl⟩)
  go_ret2
  exact ⟨rfl, rfl⟩
 ·
  rw [h] at H1 hb
  rw [show bothEr p.data.toList a.data.toList = .fa k 16 from hb]
  have f1 : erCode (.fa (k : Int) 16) = 16 := rfl
  have f2 : erAt (.fa (k : Int) 16) = k := rfl
  rw [f1, f2] at H1 ⊢
  have G1 := Lib.hid H1; clear H1 H2 hb h
  go_enter Tryz.func12, Tryz.ntmps12
  go_wp2_with (go_at_call 16; refine (G1.out _).mono ?_; rintro e w' ⟨rfl, rfl⟩)
  go_ret2
  exact ⟨rfl, rfl⟩
 ·
  rw [h] at H1 hb
  simp only at hb
  rw [hb]
  have f1 : erCode .ok = 0 := rfl
  have f2 : erAt .ok = -1 := rfl
  rw [f1, f2] at H1
  generalize erCode (decEr a.data.toList 13 19) = c at *
  generalize erAt (decEr a.data.toList 13 19) = t at *
  have G1 := Lib.hid H1; clear H1 hb h
  have G2 := Lib.hid H2; clear H2
  go_enter Tryz.func12, Tryz.ntmps12
  go_wp2_with fail
  refine (G1.out _).mono ?_
  rintro e w' ⟨rfl, rfl⟩
  go_wp2_with fail
  refine (G2.out _).mono ?_
  rintro e w' ⟨rfl, rfl⟩
  go_wp2
  go_ret2
  exact ⟨rfl, rfl⟩
end Go.Proofs.YthodpjcdmdbnoaaGreatDoor

/- lockboxlaw14.PinMakes: the walk. -/
namespace Go.Proofs.YthodpjcdmdbnoaaGreatDoor
open Go Go.RowKit Pr

theorem decEr_dec {s : List UInt8} {lo hi : Nat} (h : decEr s lo hi = .ok) : lo ≤ s.length ∧ s.length ≤ hi ∧ ∀ c ∈ s, isDec c = true := by
 unfold decEr at h
 split at h
 ·
  cases h
 ·
  rename_i h1
  split at h
  ·
   cases h
  ·
   rename_i h2
   exact ⟨by omega, by omega, all_of_badAt h2⟩
theorem bothEr_dec {p a : List UInt8} (h : bothEr p a = .ok) : (4 ≤ p.length ∧ p.length ≤ 12 ∧ ∀ c ∈ p, isDec c = true) ∧ (13 ≤ a.length ∧ a.length ≤ 19 ∧ ∀ c ∈ a, isDec c = true) := by
 unfold bothEr at h
 split at h
 ·
  rename_i hp
  exact ⟨decEr_dec hp, decEr_dec h⟩
 ·
  rename_i hp
  exact absurd h hp
theorem bothEr_code {p a : List UInt8} (h : bothEr p a ≠ .ok) : (erCode (bothEr p a) != 0) = true := by
 have hd : ∀ (s : List UInt8) lo hi, decEr s lo hi ≠ .ok → (erCode (decEr s lo hi) != 0) = true := fun s lo hi hn => by
  rcases decEr_cases s lo hi with e | ⟨k, e⟩ | e
  ·
   rw [e]; rfl
  ·
   rw [e]; rfl
  ·
   exact absurd e hn
 unfold bothEr at *
 split at h
 ·
  rename_i hp
  exact hd _ _ _ h
 ·
  rename_i hp
  exact hd p 4 12 hp

end Go.Proofs.YthodpjcdmdbnoaaGreatDoor

/- lockboxlaw14.PinOpens: the walk. -/
namespace Go.Proofs.YthodpjcdmdbnoaaGreatDoor
open Go Go.RowKit Pr

theorem readEr_Z (l : List Nat) (f : Nat) : (readEr l f = .ok ∧ readZ l f = -1) ∨ (∃ k : Nat, readEr l f = .fa k 6 ∧ readZ l f = k ∧ readStr l f = []) := by
 unfold readEr readZ readStr
 cases readAt l f with
 | none => exact .inl ⟨rfl, rfl⟩
 | some k => exact .inr ⟨k, rfl, rfl, rfl⟩

end Go.Proofs.YthodpjcdmdbnoaaGreatDoor
