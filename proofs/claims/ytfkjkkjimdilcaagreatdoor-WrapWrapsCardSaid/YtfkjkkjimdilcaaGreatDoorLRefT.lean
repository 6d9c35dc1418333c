/- The contract of lockboxref03.Triple, of a key of 16 or 24 bytes. -/
import Derived.Test.YtfkjkkjimdilcaaGreatDoorLR3
import Derived.Test.YtfkjkkjimdilcaaGreatDoorLModeQ
namespace Go.Proofs.YtfkjkkjimdilcaaGreatDoor
open Go Go.RowKit Pr

theorem tripN_16 {key : List Nat} (hk : key.length = 16) (b : List Nat) (back : Bool) : tripN key b back = trip (key.take 8) ((key.drop 8).take 8) (key.take 8) b back := by
 unfold tripN
 rw [if_neg (by omega), if_pos hk]
theorem tripN_24 {key : List Nat} (hk : key.length = 24) (b : List Nat) (back : Bool) : tripN key b back = trip (key.take 8) ((key.drop 8).take 8) (key.drop 16) b back := by
 unfold tripN
 rw [if_neg (by omega), if_neg (by omega)]

set_option maxHeartbeats 4000000 in
set_option maxRecDepth 100000 in
theorem refTrip16_false (key b : List Nat) (hk : key.length = 16) (gk : ∀ c ∈ key, c < 256) (hb : b.length = 8) (gb : ∀ c ∈ b, c < 256) (A B : Option Addr) (ca cb : Nat) (hca : 16 ≤ ca) (w : World) (hA : At w A key) (hB : At w B b) :
    Calls Tryz.prog 96 #[.slice A 16 ca, .slice B 8 cb, .bool false] w fun e w' => (∃ v, e = .returned v ∧ Own w' w.heap.size v (tripN key b false)) ∧ Below w.heap.size w w' := by
 obtain ⟨g, o, rfl, hN⟩ := hA (by intro h; rw [h] at hk; cases hk)
 have hg := hN.lt (by intro h; rw [h] at hk; cases hk)
 have h0 : (key.take 8).length = 8 := by rw [List.length_take, hk]; rfl
 have h1 : ((key.drop 8).take 8).length = 8 := by rw [List.length_take, List.length_drop, hk]; rfl
 have n0 : Bs w g o (key.take 8) := by have := hN.sub 0 8; simpa using this
 have n1 : Bs w g (o + 8) ((key.drop 8).take 8) := hN.sub 8 8
 have g0 : ∀ c ∈ key.take 8, c < 256 := fun c h => gk c (List.mem_of_mem_take h)
 have g1 : ∀ c ∈ (key.drop 8).take 8, c < 256 := fun c h => gk c (List.mem_of_mem_drop (List.mem_of_mem_take h))
 have hT : tripN key b false = blockN (key.take 8) (blockN ((key.drop 8).take 8) (blockN (key.take 8) b false) true) false := by rw [tripN_16 hk]; rfl
 rw [hT]
 clear hT hA hN
 generalize (key.drop 8).take 8 = k1 at *
 generalize key.take 8 = k0 at *
 have hx1 := blockN_len k0 b false
 have hx1b := blockN_lt k0 b false
 have HC1 := Lib.hid (fun W a c => block3_any k0 b false h0 g0 hb gb (some ⟨g, o, none⟩) B (ca) cb W a c)
 generalize blockN k0 b false = x1 at *
 have hx2 := blockN_len k1 x1 true
 have hx2b := blockN_lt k1 x1 true
 have HC2 := Lib.hid (fun A' c' W a c => block3_any k1 x1 true h1 g1 hx1 hx1b (some ⟨g, o + 8, none⟩) A' (ca - 8) c' W a c)
 generalize blockN k1 x1 true = x2 at *
 have HC3 := Lib.hid (fun A' c' W a c => block3_any k0 x2 false h0 g0 hx2 hx2b (some ⟨g, o, none⟩) A' (ca) c' W a c)
 generalize blockN k0 x2 false = x3 at *
 have HX1 := Lib.hid hx1; clear hx1
 have HX2 := Lib.hid hx2; clear hx2
 have hci : (16 : Int) ≤ (ca : Int) := by omega
 have hci2 : (8 : Int) ≤ (ca : Int) := by omega
 have hci3 : ¬ ca = 8 := by omega
 clear h0 h1 hk hb gk gb g0 g1 hx1b hx2b
 go_enter Tryz.func96, Tryz.ntmps96
 go_wp2_with fail
 refine (HC1.out _ (fun _ => ⟨_, _, rfl, n0⟩) hB).mono ?_
 rintro e w1 ⟨⟨v, rfl, hv⟩, hb1⟩
 obtain ⟨v1, c1, rfl, -, -, hg1, hN1⟩ := hv.form (by intro h; have := HX1.out; rw [h] at this; cases this)
 rw [HX1.out]
 go_wp2_with fail
 refine (HC2.out _ _ _ (fun _ => ⟨_, _, rfl, n1.below hb1 hg⟩) (fun _ => ⟨_, _, rfl, hN1⟩)).mono ?_
 rintro e w2 ⟨⟨v, rfl, hv2⟩, hb2⟩
 obtain ⟨v2, c2, rfl, -, -, hg2, hN2⟩ := hv2.form (by intro h; have := HX2.out; rw [h] at this; cases this)
 rw [HX2.out]
 have hb12 : Below w.heap.size w w2 := hb1.trans (hb2.mono hb1.size)
 go_wp2_with fail
 refine (HC3.out _ _ _ (fun _ => ⟨_, _, rfl, n0.below hb12 hg⟩) (fun _ => ⟨_, _, rfl, hN2⟩)).mono ?_
 rintro e w3 ⟨⟨v, rfl, hv3⟩, hb3⟩
 go_wp2
 go_ret
 exact ⟨⟨_, rfl, hv3.more hb12.size⟩, hb12.trans (hb3.mono hb12.size)⟩

set_option maxHeartbeats 4000000 in
set_option maxRecDepth 100000 in
theorem refTrip16_true (key b : List Nat) (hk : key.length = 16) (gk : ∀ c ∈ key, c < 256) (hb : b.length = 8) (gb : ∀ c ∈ b, c < 256) (A B : Option Addr) (ca cb : Nat) (hca : 16 ≤ ca) (w : World) (hA : At w A key) (hB : At w B b) :
    Calls Tryz.prog 96 #[.slice A 16 ca, .slice B 8 cb, .bool true] w fun e w' => (∃ v, e = .returned v ∧ Own w' w.heap.size v (tripN key b true)) ∧ Below w.heap.size w w' := by
 obtain ⟨g, o, rfl, hN⟩ := hA (by intro h; rw [h] at hk; cases hk)
 have hg := hN.lt (by intro h; rw [h] at hk; cases hk)
 have h0 : (key.take 8).length = 8 := by rw [List.length_take, hk]; rfl
 have h1 : ((key.drop 8).take 8).length = 8 := by rw [List.length_take, List.length_drop, hk]; rfl
 have n0 : Bs w g o (key.take 8) := by have := hN.sub 0 8; simpa using this
 have n1 : Bs w g (o + 8) ((key.drop 8).take 8) := hN.sub 8 8
 have g0 : ∀ c ∈ key.take 8, c < 256 := fun c h => gk c (List.mem_of_mem_take h)
 have g1 : ∀ c ∈ (key.drop 8).take 8, c < 256 := fun c h => gk c (List.mem_of_mem_drop (List.mem_of_mem_take h))
 have hT : tripN key b true = blockN (key.take 8) (blockN ((key.drop 8).take 8) (blockN (key.take 8) b true) false) true := by rw [tripN_16 hk]; rfl
 rw [hT]
 clear hT hA hN
 generalize (key.drop 8).take 8 = k1 at *
 generalize key.take 8 = k0 at *
 have hx1 := blockN_len k0 b true
 have hx1b := blockN_lt k0 b true
 have HC1 := Lib.hid (fun W a c => block3_any k0 b true h0 g0 hb gb (some ⟨g, o, none⟩) B (ca) cb W a c)
 generalize blockN k0 b true = x1 at *
 have hx2 := blockN_len k1 x1 false
 have hx2b := blockN_lt k1 x1 false
 have HC2 := Lib.hid (fun A' c' W a c => block3_any k1 x1 false h1 g1 hx1 hx1b (some ⟨g, o + 8, none⟩) A' (ca - 8) c' W a c)
 generalize blockN k1 x1 false = x2 at *
 have HC3 := Lib.hid (fun A' c' W a c => block3_any k0 x2 true h0 g0 hx2 hx2b (some ⟨g, o, none⟩) A' (ca) c' W a c)
 generalize blockN k0 x2 true = x3 at *
 have HX1 := Lib.hid hx1; clear hx1
 have HX2 := Lib.hid hx2; clear hx2
 have hci : (16 : Int) ≤ (ca : Int) := by omega
 have hci2 : (8 : Int) ≤ (ca : Int) := by omega
 have hci3 : ¬ ca = 8 := by omega
 clear h0 h1 hk hb gk gb g0 g1 hx1b hx2b
 go_enter Tryz.func96, Tryz.ntmps96
 go_wp2_with fail
 refine (HC1.out _ (fun _ => ⟨_, _, rfl, n0⟩) hB).mono ?_
 rintro e w1 ⟨⟨v, rfl, hv⟩, hb1⟩
 obtain ⟨v1, c1, rfl, -, -, hg1, hN1⟩ := hv.form (by intro h; have := HX1.out; rw [h] at this; cases this)
 rw [HX1.out]
 go_wp2_with fail
 refine (HC2.out _ _ _ (fun _ => ⟨_, _, rfl, n1.below hb1 hg⟩) (fun _ => ⟨_, _, rfl, hN1⟩)).mono ?_
 rintro e w2 ⟨⟨v, rfl, hv2⟩, hb2⟩
 obtain ⟨v2, c2, rfl, -, -, hg2, hN2⟩ := hv2.form (by intro h; have := HX2.out; rw [h] at this; cases this)
 rw [HX2.out]
 have hb12 : Below w.heap.size w w2 := hb1.trans (hb2.mono hb1.size)
 go_wp2_with fail
 refine (HC3.out _ _ _ (fun _ => ⟨_, _, rfl, n0.below hb12 hg⟩) (fun _ => ⟨_, _, rfl, hN2⟩)).mono ?_
 rintro e w3 ⟨⟨v, rfl, hv3⟩, hb3⟩
 go_wp2
 go_ret
 exact ⟨⟨_, rfl, hv3.more hb12.size⟩, hb12.trans (hb3.mono hb12.size)⟩

set_option maxHeartbeats 4000000 in
set_option maxRecDepth 100000 in
theorem refTrip24_false (key b : List Nat) (hk : key.length = 24) (gk : ∀ c ∈ key, c < 256) (hb : b.length = 8) (gb : ∀ c ∈ b, c < 256) (A B : Option Addr) (ca cb : Nat) (hca : 24 ≤ ca) (w : World) (hA : At w A key) (hB : At w B b) :
    Calls Tryz.prog 96 #[.slice A 24 ca, .slice B 8 cb, .bool false] w fun e w' => (∃ v, e = .returned v ∧ Own w' w.heap.size v (tripN key b false)) ∧ Below w.heap.size w w' := by
 obtain ⟨g, o, rfl, hN⟩ := hA (by intro h; rw [h] at hk; cases hk)
 have hg := hN.lt (by intro h; rw [h] at hk; cases hk)
 have h0 : (key.take 8).length = 8 := by rw [List.length_take, hk]; rfl
 have h1 : ((key.drop 8).take 8).length = 8 := by rw [List.length_take, List.length_drop, hk]; rfl
 have n0 : Bs w g o (key.take 8) := by have := hN.sub 0 8; simpa using this
 have n1 : Bs w g (o + 8) ((key.drop 8).take 8) := hN.sub 8 8
 have g0 : ∀ c ∈ key.take 8, c < 256 := fun c h => gk c (List.mem_of_mem_take h)
 have g1 : ∀ c ∈ (key.drop 8).take 8, c < 256 := fun c h => gk c (List.mem_of_mem_drop (List.mem_of_mem_take h))
 have h2 : (key.drop 16).length = 8 := by rw [List.length_drop, hk]
 have n2 : Bs w g (o + 16) (key.drop 16) := by have := hN.sub 16 8; rwa [List.take_of_length_le (by rw [h2]; decide)] at this
 have g2 : ∀ c ∈ key.drop 16, c < 256 := fun c h => gk c (List.mem_of_mem_drop h)
 have hT : tripN key b false = blockN (key.drop 16) (blockN ((key.drop 8).take 8) (blockN (key.take 8) b false) true) false := by rw [tripN_24 hk]; rfl
 rw [hT]
 clear hT hA hN
 generalize (key.drop 8).take 8 = k1 at *
 generalize key.take 8 = k0 at *
 generalize key.drop 16 = k2 at *
 have hx1 := blockN_len k0 b false
 have hx1b := blockN_lt k0 b false
 have HC1 := Lib.hid (fun W a c => block3_any k0 b false h0 g0 hb gb (some ⟨g, o, none⟩) B (ca) cb W a c)
 generalize blockN k0 b false = x1 at *
 have hx2 := blockN_len k1 x1 true
 have hx2b := blockN_lt k1 x1 true
 have HC2 := Lib.hid (fun A' c' W a c => block3_any k1 x1 true h1 g1 hx1 hx1b (some ⟨g, o + 8, none⟩) A' (ca - 8) c' W a c)
 generalize blockN k1 x1 true = x2 at *
 have HC3 := Lib.hid (fun A' c' W a c => block3_any k2 x2 false h2 g2 hx2 hx2b (some ⟨g, o + 16, none⟩) A' (ca - 16) c' W a c)
 generalize blockN k2 x2 false = x3 at *
 have HX1 := Lib.hid hx1; clear hx1
 have HX2 := Lib.hid hx2; clear hx2
 have hci : (16 : Int) ≤ (ca : Int) := by omega
 have hci2 : (8 : Int) ≤ (ca : Int) := by omega
 have hci3 : ¬ ca = 8 := by omega
 have hci4 : (24 : Int) ≤ (ca : Int) := by omega
 have hci5 : ¬ ca = 16 := by omega
 clear h0 h1 hk hb gk gb g0 g1 hx1b hx2b h2 g2
 go_enter Tryz.func96, Tryz.ntmps96
 go_wp2_with fail
 refine (HC1.out _ (fun _ => ⟨_, _, rfl, n0⟩) hB).mono ?_
 rintro e w1 ⟨⟨v, rfl, hv⟩, hb1⟩
 obtain ⟨v1, c1, rfl, -, -, hg1, hN1⟩ := hv.form (by intro h; have := HX1.out; rw [h] at this; cases this)
 rw [HX1.out]
 go_wp2_with fail
 refine (HC2.out _ _ _ (fun _ => ⟨_, _, rfl, n1.below hb1 hg⟩) (fun _ => ⟨_, _, rfl, hN1⟩)).mono ?_
 rintro e w2 ⟨⟨v, rfl, hv2⟩, hb2⟩
 obtain ⟨v2, c2, rfl, -, -, hg2, hN2⟩ := hv2.form (by intro h; have := HX2.out; rw [h] at this; cases this)
 rw [HX2.out]
 have hb12 : Below w.heap.size w w2 := hb1.trans (hb2.mono hb1.size)
 go_wp2_with fail
 refine (HC3.out _ _ _ (fun _ => ⟨_, _, rfl, n2.below hb12 hg⟩) (fun _ => ⟨_, _, rfl, hN2⟩)).mono ?_
 rintro e w3 ⟨⟨v, rfl, hv3⟩, hb3⟩
 go_wp2
 go_ret
 exact ⟨⟨_, rfl, hv3.more hb12.size⟩, hb12.trans (hb3.mono hb12.size)⟩

set_option maxHeartbeats 4000000 in
set_option maxRecDepth 100000 in
theorem refTrip24_true (key b : List Nat) (hk : key.length = 24) (gk : ∀ c ∈ key, c < 256) (hb : b.length = 8) (gb : ∀ c ∈ b, c < 256) (A B : Option Addr) (ca cb : Nat) (hca : 24 ≤ ca) (w : World) (hA : At w A key) (hB : At w B b) :
    Calls Tryz.prog 96 #[.slice A 24 ca, .slice B 8 cb, .bool true] w fun e w' => (∃ v, e = .returned v ∧ Own w' w.heap.size v (tripN key b true)) ∧ Below w.heap.size w w' := by
 obtain ⟨g, o, rfl, hN⟩ := hA (by intro h; rw [h] at hk; cases hk)
 have hg := hN.lt (by intro h; rw [h] at hk; cases hk)
 have h0 : (key.take 8).length = 8 := by rw [List.length_take, hk]; rfl
 have h1 : ((key.drop 8).take 8).length = 8 := by rw [List.length_take, List.length_drop, hk]; rfl
 have n0 : Bs w g o (key.take 8) := by have := hN.sub 0 8; simpa using this
 have n1 : Bs w g (o + 8) ((key.drop 8).take 8) := hN.sub 8 8
 have g0 : ∀ c ∈ key.take 8, c < 256 := fun c h => gk c (List.mem_of_mem_take h)
 have g1 : ∀ c ∈ (key.drop 8).take 8, c < 256 := fun c h => gk c (List.mem_of_mem_drop (List.mem_of_mem_take h))
 have h2 : (key.drop 16).length = 8 := by rw [List.length_drop, hk]
 have n2 : Bs w g (o + 16) (key.drop 16) := by have := hN.sub 16 8; rwa [List.take_of_length_le (by rw [h2]; decide)] at this
 have g2 : ∀ c ∈ key.drop 16, c < 256 := fun c h => gk c (List.mem_of_mem_drop h)
 have hT : tripN key b true = blockN (key.take 8) (blockN ((key.drop 8).take 8) (blockN (key.drop 16) b true) false) true := by rw [tripN_24 hk]; rfl
 rw [hT]
 clear hT hA hN
 generalize (key.drop 8).take 8 = k1 at *
 generalize key.take 8 = k0 at *
 generalize key.drop 16 = k2 at *
 have hx1 := blockN_len k2 b true
 have hx1b := blockN_lt k2 b true
 have HC1 := Lib.hid (fun W a c => block3_any k2 b true h2 g2 hb gb (some ⟨g, o + 16, none⟩) B (ca - 16) cb W a c)
 generalize blockN k2 b true = x1 at *
 have hx2 := blockN_len k1 x1 false
 have hx2b := blockN_lt k1 x1 false
 have HC2 := Lib.hid (fun A' c' W a c => block3_any k1 x1 false h1 g1 hx1 hx1b (some ⟨g, o + 8, none⟩) A' (ca - 8) c' W a c)
 generalize blockN k1 x1 false = x2 at *
 have HC3 := Lib.hid (fun A' c' W a c => block3_any k0 x2 true h0 g0 hx2 hx2b (some ⟨g, o, none⟩) A' (ca) c' W a c)
 generalize blockN k0 x2 true = x3 at *
 have HX1 := Lib.hid hx1; clear hx1
 have HX2 := Lib.hid hx2; clear hx2
 have hci : (16 : Int) ≤ (ca : Int) := by omega
 have hci2 : (8 : Int) ≤ (ca : Int) := by omega
 have hci3 : ¬ ca = 8 := by omega
 have hci4 : (24 : Int) ≤ (ca : Int) := by omega
 have hci5 : ¬ ca = 16 := by omega
 clear h0 h1 hk hb gk gb g0 g1 hx1b hx2b h2 g2
 go_enter Tryz.func96, Tryz.ntmps96
 go_wp2_with fail
 refine (HC1.out _ (fun _ => ⟨_, _, rfl, n2⟩) hB).mono ?_
 rintro e w1 ⟨⟨v, rfl, hv⟩, hb1⟩
 obtain ⟨v1, c1, rfl, -, -, hg1, hN1⟩ := hv.form (by intro h; have := HX1.out; rw [h] at this; cases this)
 rw [HX1.out]
 go_wp2_with fail
 refine (HC2.out _ _ _ (fun _ => ⟨_, _, rfl, n1.below hb1 hg⟩) (fun _ => ⟨_, _, rfl, hN1⟩)).mono ?_
 rintro e w2 ⟨⟨v, rfl, hv2⟩, hb2⟩
 obtain ⟨v2, c2, rfl, -, -, hg2, hN2⟩ := hv2.form (by intro h; have := HX2.out; rw [h] at this; cases this)
 rw [HX2.out]
 have hb12 : Below w.heap.size w w2 := hb1.trans (hb2.mono hb1.size)
 go_wp2_with fail
 refine (HC3.out _ _ _ (fun _ => ⟨_, _, rfl, n0.below hb12 hg⟩) (fun _ => ⟨_, _, rfl, hN2⟩)).mono ?_
 rintro e w3 ⟨⟨v, rfl, hv3⟩, hb3⟩
 go_wp2
 go_ret
 exact ⟨⟨_, rfl, hv3.more hb12.size⟩, hb12.trans (hb3.mono hb12.size)⟩

theorem refTrip_any (key b : List Nat) (kl : Nat) (hkl : kl = 16 ∨ kl = 24) (hk : key.length = kl) (gk : ∀ c ∈ key, c < 256) (hb : b.length = 8) (gb : ∀ c ∈ b, c < 256) (back : Bool) (A B : Option Addr) (ca cb : Nat) (hca : kl ≤ ca) (w : World) (hA : At w A key) (hB : At w B b) :
    Calls Tryz.prog 96 #[.slice A kl ca, .slice B 8 cb, .bool back] w fun e w' => (∃ v, e = .returned v ∧ Own w' w.heap.size v (tripN key b back)) ∧ Below w.heap.size w w' := by
 rcases hkl with rfl | rfl <;> cases back
 ·
  exact refTrip16_false key b hk gk hb gb A B ca cb hca w hA hB
 ·
  exact refTrip16_true key b hk gk hb gb A B ca cb hca w hA hB
 ·
  exact refTrip24_false key b hk gk hb gb A B ca cb hca w hA hB
 ·
  exact refTrip24_true key b hk gk hb gb A B ca cb hca w hA hB
end Go.Proofs.YtfkjkkjimdilcaaGreatDoor
