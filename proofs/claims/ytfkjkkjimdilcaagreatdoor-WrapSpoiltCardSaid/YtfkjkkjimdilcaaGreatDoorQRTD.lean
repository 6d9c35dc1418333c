/- The contract of lockboxref03.Triple, of a key of 16 or 24 bytes. The contract of lockboxref05.Do: TDES both ways, AES enciphering. -/
import Derived.Test.YtfkjkkjimdilcaaGreatDoorQR3
import Derived.Test.YtfkjkkjimdilcaaGreatDoorQModeQ
import Derived.Test.YtfkjkkjimdilcaaGreatDoorQRefE
import Derived.Test.YtfkjkkjimdilcaaGreatDoorQLaw11
set_option maxHeartbeats 8000000
set_option maxRecDepth 100000
/- The contract of lockboxref03.Triple, of a key of 16 or 24 bytes. -/
namespace Go.Proofs.YtfkjkkjimdilcaaGreatDoor
open Go Go.RowKit Pr

theorem tripN_16 {key : List Nat} (hk : key.length = 16) (b : List Nat) (back : Bool) : tripN key b back = trip (key.take 8) ((key.drop 8).take 8) (key.take 8) b back := by
 unfold tripN
 rw [if_neg (by omega), if_pos hk]
theorem tripN_24 {key : List Nat} (hk : key.length = 24) (b : List Nat) (back : Bool) : tripN key b back = trip (key.take 8) ((key.drop 8).take 8) (key.drop 16) b back := by
 unfold tripN
 rw [if_neg (by omega), if_neg (by omega)]

theorem refTrip16_false (key b : List Nat) (hk : key.length = 16) (gk : ∀ c ∈ key, c < 256) (hb : b.length = 8) (gb : ∀ c ∈ b, c < 256) (A B : Option Addr) (ca cb : Nat) (hca : 16 ≤ ca) (w : World) (hA : At w A key) (hB : At w B b) :
    Calls Tryz.prog 96 #[.slice A 16 ca, .slice B 8 cb, .bool false] w fun e w' => (∃ v, e = .returned v ∧ Own w' w.heap.size v (tripN key b false)) ∧ Below w.heap.size w w' := by
 obtain ⟨g, o, rfl, hN⟩ := hA (by intro h; rw [h] at hk; cases hk); have hg := hN.lt (by intro h; rw [h] at hk; cases hk); have h0 : (key.take 8).length = 8 := by rw [List.length_take, hk]; rfl
 have h1 : ((key.drop 8).take 8).length = 8 := by rw [List.length_take, List.length_drop, hk]; rfl
 have n0 : Bs w g o (key.take 8) := by have := hN.sub 0 8; simpa using this
 have n1 : Bs w g (o + 8) ((key.drop 8).take 8) := hN.sub 8 8; have g0 : ∀ c ∈ key.take 8, c < 256 := fun c h => gk c (List.mem_of_mem_take h); have g1 : ∀ c ∈ (key.drop 8).take 8, c < 256 := fun c h => gk c (List.mem_of_mem_drop (List.mem_of_mem_take h)); have hT : tripN key b false = blockN (key.take 8) (blockN ((key.drop 8).take 8) (blockN (key.take 8) b false) true) false := by rw [tripN_16 hk]; rfl
 rw [hT]; clear hT hA hN; generalize (key.drop 8).take 8 = k1 at *; generalize key.take 8 = k0 at *; have hx1 := blockN_len k0 b false; have hx1b := blockN_lt k0 b false; have HC1 := Hh (fun W a c => block3_any k0 b false h0 g0 hb gb (some ⟨g, o, none⟩) B (ca) cb W a c); generalize blockN k0 b false = x1 at *; have hx2 := blockN_len k1 x1 true; have hx2b := blockN_lt k1 x1 true; have HC2 := Hh (fun A' c' W a c => block3_any k1 x1 true h1 g1 hx1 hx1b (some ⟨g, o + 8, none⟩) A' (ca - 8) c' W a c); generalize blockN k1 x1 true = x2 at *; have HC3 := Hh (fun A' c' W a c => block3_any k0 x2 false h0 g0 hx2 hx2b (some ⟨g, o, none⟩) A' (ca) c' W a c); generalize blockN k0 x2 false = x3 at *; have HX1 := Hh hx1; clear hx1; have HX2 := Hh hx2; clear hx2; have hci : (16 : Int) ≤ (ca : Int) := by omega
 have hci2 : (8 : Int) ≤ (ca : Int) := by omega
 have hci3 : ¬ ca = 8 := by omega
 clear h0 h1 hk hb gk gb g0 g1 hx1b hx2b
 go_enter Tryz.func96, Tryz.ntmps96
 go_wp2_with fail
 refine (HC1.out _ (fun _ => ⟨_, _, rfl, n0⟩) hB).mono ?_; rintro e w1 ⟨⟨v, rfl, hv⟩, hb1⟩; obtain ⟨v1, c1, rfl, -, -, hg1, hN1⟩ := hv.form (by intro h; have := HX1.out; rw [h] at this; cases this); rw [HX1.out]; go_wp2_with fail
 refine (HC2.out _ _ _ (fun _ => ⟨_, _, rfl, n1.below hb1 hg⟩) (fun _ => ⟨_, _, rfl, hN1⟩)).mono ?_; rintro e w2 ⟨⟨v, rfl, hv2⟩, hb2⟩; obtain ⟨v2, c2, rfl, -, -, hg2, hN2⟩ := hv2.form (by intro h; have := HX2.out; rw [h] at this; cases this); rw [HX2.out]; have hb12 : Below w.heap.size w w2 := hb1.trans (hb2.mono hb1.size); go_wp2_with fail
 refine (HC3.out _ _ _ (fun _ => ⟨_, _, rfl, n0.below hb12 hg⟩) (fun _ => ⟨_, _, rfl, hN2⟩)).mono ?_; rintro e w3 ⟨⟨v, rfl, hv3⟩, hb3⟩; go_wp2
 go_ret
 exact ⟨⟨_, rfl, hv3.more hb12.size⟩, hb12.trans (hb3.mono hb12.size)⟩

theorem refTrip16_true (key b : List Nat) (hk : key.length = 16) (gk : ∀ c ∈ key, c < 256) (hb : b.length = 8) (gb : ∀ c ∈ b, c < 256) (A B : Option Addr) (ca cb : Nat) (hca : 16 ≤ ca) (w : World) (hA : At w A key) (hB : At w B b) :
    Calls Tryz.prog 96 #[.slice A 16 ca, .slice B 8 cb, .bool true] w fun e w' => (∃ v, e = .returned v ∧ Own w' w.heap.size v (tripN key b true)) ∧ Below w.heap.size w w' := by
 obtain ⟨g, o, rfl, hN⟩ := hA (by intro h; rw [h] at hk; cases hk); have hg := hN.lt (by intro h; rw [h] at hk; cases hk); have h0 : (key.take 8).length = 8 := by rw [List.length_take, hk]; rfl
 have h1 : ((key.drop 8).take 8).length = 8 := by rw [List.length_take, List.length_drop, hk]; rfl
 have n0 : Bs w g o (key.take 8) := by have := hN.sub 0 8; simpa using this
 have n1 : Bs w g (o + 8) ((key.drop 8).take 8) := hN.sub 8 8; have g0 : ∀ c ∈ key.take 8, c < 256 := fun c h => gk c (List.mem_of_mem_take h); have g1 : ∀ c ∈ (key.drop 8).take 8, c < 256 := fun c h => gk c (List.mem_of_mem_drop (List.mem_of_mem_take h)); have hT : tripN key b true = blockN (key.take 8) (blockN ((key.drop 8).take 8) (blockN (key.take 8) b true) false) true := by rw [tripN_16 hk]; rfl
 rw [hT]; clear hT hA hN; generalize (key.drop 8).take 8 = k1 at *; generalize key.take 8 = k0 at *; have hx1 := blockN_len k0 b true; have hx1b := blockN_lt k0 b true; have HC1 := Hh (fun W a c => block3_any k0 b true h0 g0 hb gb (some ⟨g, o, none⟩) B (ca) cb W a c); generalize blockN k0 b true = x1 at *; have hx2 := blockN_len k1 x1 false; have hx2b := blockN_lt k1 x1 false; have HC2 := Hh (fun A' c' W a c => block3_any k1 x1 false h1 g1 hx1 hx1b (some ⟨g, o + 8, none⟩) A' (ca - 8) c' W a c); generalize blockN k1 x1 false = x2 at *; have HC3 := Hh (fun A' c' W a c => block3_any k0 x2 true h0 g0 hx2 hx2b (some ⟨g, o, none⟩) A' (ca) c' W a c); generalize blockN k0 x2 true = x3 at *; have HX1 := Hh hx1; clear hx1; have HX2 := Hh hx2; clear hx2; have hci : (16 : Int) ≤ (ca : Int) := by omega
 have hci2 : (8 : Int) ≤ (ca : Int) := by omega
 have hci3 : ¬ ca = 8 := by omega
 clear h0 h1 hk hb gk gb g0 g1 hx1b hx2b
 go_enter Tryz.func96, Tryz.ntmps96
 go_wp2_with fail
 refine (HC1.out _ (fun _ => ⟨_, _, rfl, n0⟩) hB).mono ?_; rintro e w1 ⟨⟨v, rfl, hv⟩, hb1⟩; obtain ⟨v1, c1, rfl, -, -, hg1, hN1⟩ := hv.form (by intro h; have := HX1.out; rw [h] at this; cases this); rw [HX1.out]; go_wp2_with fail
 refine (HC2.out _ _ _ (fun _ => ⟨_, _, rfl, n1.below hb1 hg⟩) (fun _ => ⟨_, _, rfl, hN1⟩)).mono ?_; rintro e w2 ⟨⟨v, rfl, hv2⟩, hb2⟩; obtain ⟨v2, c2, rfl, -, -, hg2, hN2⟩ := hv2.form (by intro h; have := HX2.out; rw [h] at this; cases this); rw [HX2.out]; have hb12 : Below w.heap.size w w2 := hb1.trans (hb2.mono hb1.size); go_wp2_with fail
 refine (HC3.out _ _ _ (fun _ => ⟨_, _, rfl, n0.below hb12 hg⟩) (fun _ => ⟨_, _, rfl, hN2⟩)).mono ?_; rintro e w3 ⟨⟨v, rfl, hv3⟩, hb3⟩; go_wp2
 go_ret
 exact ⟨⟨_, rfl, hv3.more hb12.size⟩, hb12.trans (hb3.mono hb12.size)⟩

theorem refTrip24_false (key b : List Nat) (hk : key.length = 24) (gk : ∀ c ∈ key, c < 256) (hb : b.length = 8) (gb : ∀ c ∈ b, c < 256) (A B : Option Addr) (ca cb : Nat) (hca : 24 ≤ ca) (w : World) (hA : At w A key) (hB : At w B b) :
    Calls Tryz.prog 96 #[.slice A 24 ca, .slice B 8 cb, .bool false] w fun e w' => (∃ v, e = .returned v ∧ Own w' w.heap.size v (tripN key b false)) ∧ Below w.heap.size w w' := by
 obtain ⟨g, o, rfl, hN⟩ := hA (by intro h; rw [h] at hk; cases hk); have hg := hN.lt (by intro h; rw [h] at hk; cases hk); have h0 : (key.take 8).length = 8 := by rw [List.length_take, hk]; rfl
 have h1 : ((key.drop 8).take 8).length = 8 := by rw [List.length_take, List.length_drop, hk]; rfl
 have n0 : Bs w g o (key.take 8) := by have := hN.sub 0 8; simpa using this
 have n1 : Bs w g (o + 8) ((key.drop 8).take 8) := hN.sub 8 8; have g0 : ∀ c ∈ key.take 8, c < 256 := fun c h => gk c (List.mem_of_mem_take h); have g1 : ∀ c ∈ (key.drop 8).take 8, c < 256 := fun c h => gk c (List.mem_of_mem_drop (List.mem_of_mem_take h)); have h2 : (key.drop 16).length = 8 := by rw [List.length_drop, hk]
 have n2 : Bs w g (o + 16) (key.drop 16) := by have := hN.sub 16 8; rwa [List.take_of_length_le (by rw [h2]; decide)] at this
 have g2 : ∀ c ∈ key.drop 16, c < 256 := fun c h => gk c (List.mem_of_mem_drop h); have hT : tripN key b false = blockN (key.drop 16) (blockN ((key.drop 8).take 8) (blockN (key.take 8) b false) true) false := by rw [tripN_24 hk]; rfl
 rw [hT]; clear hT hA hN; generalize (key.drop 8).take 8 = k1 at *; generalize key.take 8 = k0 at *; generalize key.drop 16 = k2 at *; have hx1 := blockN_len k0 b false; have hx1b := blockN_lt k0 b false; have HC1 := Hh (fun W a c => block3_any k0 b false h0 g0 hb gb (some ⟨g, o, none⟩) B (ca) cb W a c); generalize blockN k0 b false = x1 at *; have hx2 := blockN_len k1 x1 true; have hx2b := blockN_lt k1 x1 true; have HC2 := Hh (fun A' c' W a c => block3_any k1 x1 true h1 g1 hx1 hx1b (some ⟨g, o + 8, none⟩) A' (ca - 8) c' W a c); generalize blockN k1 x1 true = x2 at *; have HC3 := Hh (fun A' c' W a c => block3_any k2 x2 false h2 g2 hx2 hx2b (some ⟨g, o + 16, none⟩) A' (ca - 16) c' W a c); generalize blockN k2 x2 false = x3 at *; have HX1 := Hh hx1; clear hx1; have HX2 := Hh hx2; clear hx2; have hci : (16 : Int) ≤ (ca : Int) := by omega
 have hci2 : (8 : Int) ≤ (ca : Int) := by omega
 have hci3 : ¬ ca = 8 := by omega
 have hci4 : (24 : Int) ≤ (ca : Int) := by omega
 have hci5 : ¬ ca = 16 := by omega
 clear h0 h1 hk hb gk gb g0 g1 hx1b hx2b h2 g2
 go_enter Tryz.func96, Tryz.ntmps96
 go_wp2_with fail
 refine (HC1.out _ (fun _ => ⟨_, _, rfl, n0⟩) hB).mono ?_; rintro e w1 ⟨⟨v, rfl, hv⟩, hb1⟩; obtain ⟨v1, c1, rfl, -, -, hg1, hN1⟩ := hv.form (by intro h; have := HX1.out; rw [h] at this; cases this); rw [HX1.out]; go_wp2_with fail
 refine (HC2.out _ _ _ (fun _ => ⟨_, _, rfl, n1.below hb1 hg⟩) (fun _ => ⟨_, _, rfl, hN1⟩)).mono ?_; rintro e w2 ⟨⟨v, rfl, hv2⟩, hb2⟩; obtain ⟨v2, c2, rfl, -, -, hg2, hN2⟩ := hv2.form (by intro h; have := HX2.out; rw [h] at this; cases this); rw [HX2.out]; have hb12 : Below w.heap.size w w2 := hb1.trans (hb2.mono hb1.size); go_wp2_with fail
 refine (HC3.out _ _ _ (fun _ => ⟨_, _, rfl, n2.below hb12 hg⟩) (fun _ => ⟨_, _, rfl, hN2⟩)).mono ?_; rintro e w3 ⟨⟨v, rfl, hv3⟩, hb3⟩; go_wp2
 go_ret
 exact ⟨⟨_, rfl, hv3.more hb12.size⟩, hb12.trans (hb3.mono hb12.size)⟩

theorem refTrip24_true (key b : List Nat) (hk : key.length = 24) (gk : ∀ c ∈ key, c < 256) (hb : b.length = 8) (gb : ∀ c ∈ b, c < 256) (A B : Option Addr) (ca cb : Nat) (hca : 24 ≤ ca) (w : World) (hA : At w A key) (hB : At w B b) :
    Calls Tryz.prog 96 #[.slice A 24 ca, .slice B 8 cb, .bool true] w fun e w' => (∃ v, e = .returned v ∧ Own w' w.heap.size v (tripN key b true)) ∧ Below w.heap.size w w' := by
 obtain ⟨g, o, rfl, hN⟩ := hA (by intro h; rw [h] at hk; cases hk); have hg := hN.lt (by intro h; rw [h] at hk; cases hk); have h0 : (key.take 8).length = 8 := by rw [List.length_take, hk]; rfl
 have h1 : ((key.drop 8).take 8).length = 8 := by rw [List.length_take, List.length_drop, hk]; rfl
 have n0 : Bs w g o (key.take 8) := by have := hN.sub 0 8; simpa using this
 have n1 : Bs w g (o + 8) ((key.drop 8).take 8) := hN.sub 8 8; have g0 : ∀ c ∈ key.take 8, c < 256 := fun c h => gk c (List.mem_of_mem_take h); have g1 : ∀ c ∈ (key.drop 8).take 8, c < 256 := fun c h => gk c (List.mem_of_mem_drop (List.mem_of_mem_take h)); have h2 : (key.drop 16).length = 8 := by rw [List.length_drop, hk]
 have n2 : Bs w g (o + 16) (key.drop 16) := by have := hN.sub 16 8; rwa [List.take_of_length_le (by rw [h2]; decide)] at this
 have g2 : ∀ c ∈ key.drop 16, c < 256 := fun c h => gk c (List.mem_of_mem_drop h); have hT : tripN key b true = blockN (key.take 8) (blockN ((key.drop 8).take 8) (blockN (key.drop 16) b true) false) true := by rw [tripN_24 hk]; rfl
 rw [hT]; clear hT hA hN; generalize (key.drop 8).take 8 = k1 at *; generalize key.take 8 = k0 at *; generalize key.drop 16 = k2 at *; have hx1 := blockN_len k2 b true; have hx1b := blockN_lt k2 b true; have HC1 := Hh (fun W a c => block3_any k2 b true h2 g2 hb gb (some ⟨g, o + 16, none⟩) B (ca - 16) cb W a c); generalize blockN k2 b true = x1 at *; have hx2 := blockN_len k1 x1 false; have hx2b := blockN_lt k1 x1 false; have HC2 := Hh (fun A' c' W a c => block3_any k1 x1 false h1 g1 hx1 hx1b (some ⟨g, o + 8, none⟩) A' (ca - 8) c' W a c); generalize blockN k1 x1 false = x2 at *; have HC3 := Hh (fun A' c' W a c => block3_any k0 x2 true h0 g0 hx2 hx2b (some ⟨g, o, none⟩) A' (ca) c' W a c); generalize blockN k0 x2 true = x3 at *; have HX1 := Hh hx1; clear hx1; have HX2 := Hh hx2; clear hx2; have hci : (16 : Int) ≤ (ca : Int) := by omega
 have hci2 : (8 : Int) ≤ (ca : Int) := by omega
 have hci3 : ¬ ca = 8 := by omega
 have hci4 : (24 : Int) ≤ (ca : Int) := by omega
 have hci5 : ¬ ca = 16 := by omega
 clear h0 h1 hk hb gk gb g0 g1 hx1b hx2b h2 g2
 go_enter Tryz.func96, Tryz.ntmps96
 go_wp2_with fail
 refine (HC1.out _ (fun _ => ⟨_, _, rfl, n2⟩) hB).mono ?_; rintro e w1 ⟨⟨v, rfl, hv⟩, hb1⟩; obtain ⟨v1, c1, rfl, -, -, hg1, hN1⟩ := hv.form (by intro h; have := HX1.out; rw [h] at this; cases this); rw [HX1.out]; go_wp2_with fail
 refine (HC2.out _ _ _ (fun _ => ⟨_, _, rfl, n1.below hb1 hg⟩) (fun _ => ⟨_, _, rfl, hN1⟩)).mono ?_; rintro e w2 ⟨⟨v, rfl, hv2⟩, hb2⟩; obtain ⟨v2, c2, rfl, -, -, hg2, hN2⟩ := hv2.form (by intro h; have := HX2.out; rw [h] at this; cases this); rw [HX2.out]; have hb12 : Below w.heap.size w w2 := hb1.trans (hb2.mono hb1.size); go_wp2_with fail
 refine (HC3.out _ _ _ (fun _ => ⟨_, _, rfl, n0.below hb12 hg⟩) (fun _ => ⟨_, _, rfl, hN2⟩)).mono ?_; rintro e w3 ⟨⟨v, rfl, hv3⟩, hb3⟩; go_wp2
 go_ret
 exact ⟨⟨_, rfl, hv3.more hb12.size⟩, hb12.trans (hb3.mono hb12.size)⟩

theorem refTrip_any (key b : List Nat) (kl : Nat) (hkl : kl = 16 ∨ kl = 24) (hk : key.length = kl) (gk : ∀ c ∈ key, c < 256) (hb : b.length = 8) (gb : ∀ c ∈ b, c < 256) (back : Bool) (A B : Option Addr) (ca cb : Nat) (hca : kl ≤ ca) (w : World) (hA : At w A key) (hB : At w B b) :
    Calls Tryz.prog 96 #[.slice A kl ca, .slice B 8 cb, .bool back] w fun e w' => (∃ v, e = .returned v ∧ Own w' w.heap.size v (tripN key b back)) ∧ Below w.heap.size w w' := by
 rcases hkl with rfl | rfl <;> cases back
 ·
  exact refTrip16_false key b hk gk hb gb A B ca cb hca w hA hB
 ·
  exact refTrip16_true key b hk gk hb gb A B ca cb hca w hA hB
 ·
  exact refTrip24_false key b hk gk hb gb A B ca cb hca w hA hB
 ·
  exact refTrip24_true key b hk gk hb gb A B ca cb hca w hA hB

theorem info_book : (Tryz.prog.info? 85).map (·.size) = some 2 := by kernel_rfl
theorem refDo2_any (key : List Nat) (kl : Nat) (hkl : kl = 16 ∨ kl = 24) (hk : key.length = kl) (gk : Byt key) (x : List Nat) (hx : x.length = 8) (gx : Byt x) (back : Bool) (A B : Option Addr) (ca cb : Nat) (hca : kl ≤ ca) (r0 r1 : Option Addr) (n0 n1 c0 c1 : Nat) (w : World) (hA : At w A key) (hB : At w B x) :
    Calls Tryz.prog 76 #[.int .i64 2, .slice A kl ca, .agg #[.slice r0 n0 c0, .slice r1 n1 c1], .slice B 8 cb, .bool back] w fun e w' => (∃ gv cv, e = .returned (.tuple #[.agg #[.slice r0 n0 c0, .slice r1 n1 c1], .slice (some ⟨gv, 0, none⟩) 8 cv, .bool true]) ∧ w.heap.size ≤ gv ∧ gv < w'.heap.size ∧ 8 ≤ cv ∧ Bs w' gv 0 (tripN key x back)) ∧ Below w.heap.size w w' := by
 have HC := Hh (fun W a b => refTrip_any key x kl hkl hk gk hx gx back A B ca cb hca W a b); have hl := tripN_len key x back; generalize tripN key x back = T at *; have HL := Hh hl; clear hl hk hx; have HA := Hh (fun W (hb : Below w.heap.size w W) => hA.below hb lr); have HB := Hh (fun W (hb : Below w.heap.size w W) => hB.below hb lr); clear hA hB gk gx hkl; obtain ⟨cs, hcs⟩ : ∃ cs, #[Value.slice r0 n0 c0, Value.slice r1 n1 c1] = cs := ⟨_, rfl⟩; have hcz : cs.size = 2 := by rw [← hcs]; rfl
 have hco : cs.all (·.oneCell') = true := by rw [← hcs]; simp [Value.oneCell']
 rw [hcs]; have HCS := Hh hcs; clear hcs; have HCZ := Hh hcz; clear hcz; have HCO := Hh hco; clear hco; have hS0 : Blk ((w.alloc (.cells cs 85)).alloc (.cells #[.slice none 0 0, .slice none 0 0] 85)) w.heap.size 85 cs := (Blk.new w _ _).alloc _; have hR0 : Blk ((w.alloc (.cells cs 85)).alloc (.cells #[.slice none 0 0, .slice none 0 0] 85)) (w.heap.size + 1) 85 #[.slice none 0 0, .slice none 0 0] := Blk.new2 w _ _ _; have hb0 : Below w.heap.size w ((w.alloc (.cells cs 85)).alloc (.cells #[.slice none 0 0, .slice none 0 0] 85)) := ((Below.refl _ _).alloc lr _).alloc (by simp) _; have HS0 := Hh hS0; clear hS0; have HR0 := Hh hR0; clear hR0; have HB0 := Hh hb0; clear hb0
 go_enter Tryz.func76, Tryz.ntmps76
 go_wp2_with fail
 refine wp_region_tree (.q 0 (.q 1 (.q 2 (.q 3 (.e [4] fun _ => .e [5] fun _ => .q 6 (.q 7 (.done))))))) (fun W => Blk W w.heap.size 85 cs) rfl (by kernel_rfl) (fun _ _ d _ _ h => by cases d <;> exact h) ?_; have hS := HS0.out.drewN 1; have hR := HR0.out.drewN 1; have hb := below_drewN HB0.out 1; have hsz : ((w.alloc (.cells cs 85)).alloc (.cells #[.slice none 0 0, .slice none 0 0] 85)).heap.size = w.heap.size + 2 := by simp
 have hsz2 : (World.drewN ((w.alloc (.cells cs 85)).alloc (.cells #[.slice none 0 0, .slice none 0 0] 85)) 1).heap.size = w.heap.size + 2 := by simp
 clear hsz
 change wpT _ _ _ _ _ _ (World.drewN ((w.alloc (.cells cs 85)).alloc (.cells #[.slice none 0 0, .slice none 0 0] 85)) 1)
 have HSZ := Hh hsz2; clear hsz2 HS0 HR0 HB0; generalize (World.drewN ((w.alloc (.cells cs 85)).alloc (.cells #[.slice none 0 0, .slice none 0 0] 85)) 1) = w1 at *; refine t_load_row rfl rfl 85 (.tmp 7) rfl w.heap.size rfl 85 cs hS (fun W hW => hW) _ Tryz.underlying85 rfl (by rw [info_book, HCZ.out]) ?_; go_simp
 iterate 3 (refine t_q rfl rfl hS _ (fun W hW => by (go_simp; rfl)) ?_; go_simp)
 refine t_e rfl rfl fun K hK => ?_; go_simp
 refine (HC.out _ (HA.out _ hb) (HB.out _ hb)).mono ?_; rintro e w2 ⟨⟨v, rfl, hv⟩, hb2⟩; obtain ⟨gv, cv, rfl, hgv, hcv, hgl, hBv⟩ := hv.form (by intro h; have := HL.out; rw [h] at this; cases this); rw [HL.out] at hcv ⊢; have hS2 := hS.below hb2 hS.lt; have hR2 := hR.below hb2 hR.lt; have hbel2 := hb.trans (hb2.mono hb.size); refine hK _ _ hS2 ?_; clear hK K; refine t_e rfl rfl fun K hK => ?_; refine op_store_row 85 (.tmp 10) (.tmp 17) rfl (w.heap.size + 1) cs rfl rfl 85 _ hR2 (by rw [info_book, HCZ.out]) (by rw [HCZ.out]; rfl) HCO.out fun w3 hB3 hO3 => ?_; have hS3 := hS2.only hO3 (by omega); have hbel3 := hO3.below hbel2 (by omega); have hgw : w1.heap.size = w.heap.size + 2 := HSZ.out; have hBv3 := hBv.only hO3 (by omega); have hgl3 : gv < w3.heap.size := by rw [hO3.size]; exact hgl
 have hgw3 : w.heap.size ≤ gv := by omega
 refine hK _ _ hS3 ?_; clear hK K hgw hO3; go_simp
 iterate 2 (refine t_q rfl rfl hS3 _ (fun W hW => by (go_simp; rfl)) ?_; go_simp)
 refine t_done ?_; go_wp2
 refine bodyPost_ret (results_cell3 rfl _ _ (w.heap.size + 1) 85 _ _ rfl hB3 Tryz.underlying85 rfl (by rw [info_book, HCZ.out])) rfl ?_; exact ⟨⟨gv, cv, rfl, hgw3, hgl3, hcv, hBv3⟩, hbel3⟩

theorem refDo1e_any (key : List Nat) (kl nr : Nat) (hk : AesK kl nr) (hkl : key.length = kl) (gk : Byt key) (x : List Nat) (hx : x.length = 16) (gx : Byt x) (A B : Option Addr) (ca cb : Nat) (r0 r1 : Option Addr) (n0 n1 c0 c1 : Nat) (w : World) (hA : At w A key) (hB : At w B x) :
    Calls Tryz.prog 76 #[.int .i64 1, .slice A kl ca, .agg #[.slice r0 n0 c0, .slice r1 n1 c1], .slice B 16 cb, .bool false] w fun e w' => (∃ gv cv, e = .returned (.tuple #[.agg #[.slice r0 n0 c0, .slice r1 n1 c1], .slice (some ⟨gv, 0, none⟩) 16 cv, .bool true]) ∧ w.heap.size ≤ gv ∧ gv < w'.heap.size ∧ 16 ≤ cv ∧ Bs w' gv 0 (aesN key x false)) ∧ Below w.heap.size w w' := by
 have hq : aesN key x false = encG x (wordsG key) nr := by unfold aesN; rw [hkl, hk.nr.1]; rfl
 rw [hq]; have HC := Hh (fun A cp W hA => refEncrypt_any key x kl nr hk hkl gk hx gx A cp W hA); have hl := aesN_len key x false; rw [hq] at hl; clear hq; generalize encG x (wordsG key) nr = T at *; have HL := Hh hl; clear hl; have HX := Hh hx; obtain ⟨b, o, rfl, hBx⟩ := hB (by intro h; rw [h] at hx; cases hx); have hbl := hBx.lt (by intro h; rw [h] at hx; cases hx); have HA := Hh (fun W (hb : Below w.heap.size w W) => hA.below hb lr); have HBX := Hh (fun W (hb : Below w.heap.size w W) => hBx.below hb hbl); clear hA hB gk gx hkl hk hx hBx; obtain ⟨cs, hcs⟩ : ∃ cs, #[Value.slice r0 n0 c0, Value.slice r1 n1 c1] = cs := ⟨_, rfl⟩; have hcz : cs.size = 2 := by rw [← hcs]; rfl
 have hco : cs.all (·.oneCell') = true := by rw [← hcs]; simp [Value.oneCell']
 rw [hcs]; have HCS := Hh hcs; clear hcs; have HCZ := Hh hcz; clear hcz; have HCO := Hh hco; clear hco; have hS0 : Blk ((w.alloc (.cells cs 85)).alloc (.cells #[.slice none 0 0, .slice none 0 0] 85)) w.heap.size 85 cs := (Blk.new w _ _).alloc _; have hR0 : Blk ((w.alloc (.cells cs 85)).alloc (.cells #[.slice none 0 0, .slice none 0 0] 85)) (w.heap.size + 1) 85 #[.slice none 0 0, .slice none 0 0] := Blk.new2 w _ _ _; have hb0 : Below w.heap.size w ((w.alloc (.cells cs 85)).alloc (.cells #[.slice none 0 0, .slice none 0 0] 85)) := ((Below.refl _ _).alloc lr _).alloc (by simp) _; have hz0 : ((w.alloc (.cells cs 85)).alloc (.cells #[.slice none 0 0, .slice none 0 0] 85)).heap.size = w.heap.size + 2 := by simp
 have HS0 := Hh hS0; clear hS0; have HR0 := Hh hR0; clear hR0; have HB0 := Hh hb0; clear hb0; have HZ0 := Hh hz0; clear hz0
 go_enter Tryz.func76, Tryz.ntmps76
 go_wp2_with (refine wpList_alloc_bytes rfl 144 rfl 16 zero_16 ?_; intro w1 hb1 hB1 hs1; have HB1 := Hh hB1; have HS1 := Hh hs1; clear hB1 hs1)
 have hG : ∀ W : World, W.heap.size = w.heap.size + 2 → W.heap.size = w.heap.size + 1 + 1 := fun W h => h; have hb1' := HB0.out.trans (hb1.mono HB0.out.size); have hS1 := HS0.out.below hb1 HS0.out.lt; have hR1 := HR0.out.below hb1 HR0.out.lt; have hB1 : Blk w1 (w.heap.size + 2) 144 (byteCells (List.replicate 16 0)) := by rw [← HZ0.out]; exact HB1.out
 clear hG hb1 HB1 HS1; obtain ⟨Z, hZ⟩ : ∃ Z, List.replicate 16 0 = Z := ⟨_, rfl⟩; have hZl : Z.length = 16 := by rw [← hZ, List.length_replicate]
 rw [hZ] at hB1; have HZL := Hh hZl; clear hZl hZ; have HB1 := Hh hB1; clear hB1; have HS1 := Hh hS1; clear hS1 HS0; have HR1 := Hh hR1; clear hR1 HR0
 go_loopw [14] (fun i wr => ∃ k : Nat, k ≤ 16 ∧ i = .int .i64 k ∧ Blk wr (w.heap.size + 1 + 1) 144 (byteCells (partN x Z k)) ∧ Keep (w.heap.size + 1 + 1) w1 wr) (fun i _ => 16 - (intOf i).toNat)
 case atStart => exact ⟨0, by omega, rfl, by simpa [partN] using HB1.out, Keep.refl _ _⟩
 case round =>
  obtain ⟨k, hk, rfl, hBr, hbr⟩ := hrel
  by_cases hlt : k < 16
  ·
   have hpl := partN_len x Z k 16 HX.out HZL.out hk; have hcx : wr.cell? ⟨b, o + k, none⟩ = some (.int .u8 (x.getD k 0 : Nat)) := (HBX.out wr (hbr.below hb1' (by have := hb1'.size; omega) (by omega))).cellD k (by rw [HX.out]; exact hlt); have hfr : wr.frozen? ⟨w.heap.size + 1 + 1, k, none⟩ = false := hBr.frozen k
   have hc0 : wr.cell? ⟨w.heap.size + 1 + 1, k, none⟩ = some (.int .u8 (Z.getD k 0 : Nat)) := by
    have := hBr.cell k; rw [cellD _ k (by omega), partN_at x Z k 16 HX.out hlt] at this; exact this
   have hst := partN_set x Z k 16 HX.out HZL.out hlt; have hnx := hBr.set_ k (.int .u8 ((x.getD k 0 : Nat) : Int)); rw [set_byteCells, hst] at hnx; have hK2 := hbr.setCell k (.int .u8 ((x.getD k 0 : Nat) : Int)); generalize x.getD k 0 = x1 at *; generalize Z.getD k 0 = z1 at *; have HNX := Hh hnx; clear hnx hst hpl hBr; have HK2 := Hh hK2; clear hK2 hbr; have hkI : (k : Int) < 16 := by omega
   go_wp2
   go_roundw
   case rel => exact ⟨k + 1, by omega, by go_num, HNX.out, HK2.out⟩
   case measure => simp [intOf]; omega
  ·
   obtain rfl : k = 16 := by omega
   rw [show ((16 : Nat) : Int) = 16 from rfl]; rw [partN_end x Z 16 HX.out HZL.out] at hBr; have hb2 : Below w.heap.size w wr := hbr.below hb1' (by have := hb1'.size; omega) (by omega); have hS2 := HS1.out.keep hbr (by omega); have hR2 := HR1.out.keep hbr (by omega); obtain ⟨w2, rfl⟩ : ∃ w2, w2 = wr := ⟨_, rfl⟩; clear hbr hb1' HS1 HR1 HB1; have hsx := Hh (size_byteCells x); have hsT := Hh (size_byteCells T); have HBr := Hh hBr; clear hBr
   go_wp2_with (first
    | (refine wpList_load_row rfl 144 (.tmp 13) rfl (w.heap.size + 1 + 1) rfl 144 _ (0,0) _ HBr.out Tryz.underlying144 rfl (by rw [info_16u8, hsx.out, HX.out]) ?_))
   refine (HC.out _ _ _ (HA.out _ hb2)).mono ?_; rintro e w3 ⟨rfl, hb3⟩; have hB3 := HBr.out.below hb3 HBr.out.lt; have hS3 := hS2.below hb3 hS2.lt; have hR3 := hR2.below hb3 hR2.lt; have hbel3 := hb2.trans (hb3.mono hb2.size); clear hS2 hR2 hb2 hb3 HBr; go_wp2_with (refine wpList_store_all rfl 144 (.tmp 13) (.tmp 48) rfl (w.heap.size + 1 + 1) (byteCells T) rfl rfl 144 _ hB3 (by rw [info_16u8, hsT.out, HL.out]) (by rw [hsT.out, HL.out, hsx.out, HX.out]) (bytes_one _) ?_; intro w4 hB4 hO4)
   have hS4 := hS3.only hO4 (by omega); have hR4 := hR3.only hO4 (by omega); have hbel4 := hO4.below hbel3 (by omega); clear hS3 hR3 hbel3 hO4 hB3; refine wp_region_tree (.q 0 (.q 1 (.e [2] fun _ => .q 3 (.q 4 (.done))))) (fun W => Blk W w.heap.size 85 cs) rfl (by kernel_rfl) (fun _ _ d _ _ h => by cases d <;> exact h) ?_; have hS := hS4.drewN 1; have hR := hR4.drewN 1; have hBd := hB4.drewN 1; have hb := below_drewN hbel4 1
   change wpT _ _ _ _ _ _ (World.drewN w4 1)
   clear hS4 hR4 hB4 hbel4; generalize (World.drewN w4 1) = w5 at *; refine t_load_row rfl rfl 85 (.tmp 7) rfl w.heap.size rfl 85 cs hS (fun W hW => hW) _ Tryz.underlying85 rfl (by rw [info_book, HCZ.out]) ?_; go_simp
   refine t_q rfl rfl hS (.slice (some ⟨w.heap.size + 1 + 1, 0, none⟩) 16 16) (fun W hW => by go_simp) ?_; go_simp
   refine t_e rfl rfl fun K hK => ?_; refine op_store_row 85 (.tmp 10) (.tmp 49) rfl (w.heap.size + 1) cs rfl rfl 85 _ hR (by rw [info_book, HCZ.out]) (by rw [HCZ.out]; rfl) HCO.out fun w6 hB6 hO6 => ?_; have hS6 := hS.only hO6 (by omega); have hbel6 := hO6.below hb (by omega); have hT6 : Bs w6 (w.heap.size + 1 + 1) 0 T := Bs.ofBlk (hBd.only hO6 (by omega)); have hgl : w.heap.size + 1 + 1 < w6.heap.size := by rw [hO6.size]; exact hBd.lt
   refine hK _ _ hS6 ?_; clear hK K; go_simp
   iterate 2 (refine t_q rfl rfl hS6 _ (fun W hW => by (go_simp; rfl)) ?_; go_simp)
   refine t_done ?_; go_wp2
   refine bodyPost_ret (results_cell3 rfl _ _ (w.heap.size + 1) 85 _ _ rfl hB6 Tryz.underlying85 rfl (by rw [info_book, HCZ.out])) rfl ?_; exact ⟨⟨w.heap.size + 1 + 1, 16, rfl, by omega, hgl, Nat.le_refl _, hT6⟩, hbel6⟩
end Go.Proofs.YtfkjkkjimdilcaaGreatDoor
