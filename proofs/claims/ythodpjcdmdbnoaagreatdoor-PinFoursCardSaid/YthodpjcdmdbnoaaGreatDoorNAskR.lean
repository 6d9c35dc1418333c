/- The contract of lockboxref05.Ask, of a book without a row. -/
import Derived.Test.YthodpjcdmdbnoaaGreatDoorNRX
import Derived.Test.YthodpjcdmdbnoaaGreatDoorNMH
import Derived.Test.YthodpjcdmdbnoaaGreatDoorNRD
namespace Go.Proofs.YthodpjcdmdbnoaaGreatDoor
open Go Go.RowKit Pr

theorem info_rowR : (Tryz.prog.info? 163).map (·.size) = some 3 := by kernel_rfl
theorem info_rowR3 : (Tryz.prog.info? 163).map (fun i => (i.zero, i.size, i.bytes)) = some (some (.agg #[.slice none 0 0, .slice none 0 0, .slice none 0 0]), 3, 72) := by kernel_rfl
/-- one row of the document's book -/
def RowR (w : World) (R : Option Addr) (K I O : List Nat) : Prop := ∃ g A1 A2 A3 c1 c2 c3, R = some ⟨g, 0, none⟩ ∧ w.cell? ⟨g, 0, none⟩ = some (.slice A1 K.length c1) ∧ w.cell? ⟨g, 1, none⟩ = some (.slice A2 I.length c2) ∧ w.cell? ⟨g, 2, none⟩ = some (.slice A3 O.length c3) ∧ At w A1 K ∧ At w A2 I ∧ At w A3 O

theorem At.onlyG {g q : Nat} {w w' : World} {l : List Nat} (h : At w (some ⟨g, 0, none⟩) l) (ho : Only q w w') (hne : g ≠ q) : At w' (some ⟨g, 0, none⟩) l := fun hl => by
 obtain ⟨b, o, e, hB⟩ := h hl
 injection e with e
 injection e with e1 e2
 exact ⟨b, o, by rw [← e1, ← e2], hB.only ho (by omega)⟩
theorem RowR.of {W : World} {g : Nat} {cur : Array Value} {K I O : List Nat} {A1 A2 A3 : Option Addr} {c1 c2 c3 : Nat} (hB : Blk W g 163 cur) (ht : cur.toList.take 3 = [.slice A1 K.length c1, .slice A2 I.length c2, .slice A3 O.length c3]) (h1 : At W A1 K) (h2 : At W A2 I) (h3 : At W A3 O) : RowR W (some ⟨g, 0, none⟩) K I O := by
 have hc : ∀ j, j < 3 → W.cell? ⟨g, j, none⟩ = [Value.slice A1 K.length c1, .slice A2 I.length c2, .slice A3 O.length c3][j]? := fun j hj => by
  rw [hB.cell j, ← ht, List.getElem?_take, if_pos hj, Array.getElem?_toList]
 exact ⟨g, A1, A2, A3, c1, c2, c3, rfl, hc 0 (by omega), hc 1 (by omega), hc 2 (by omega), h1, h2, h3⟩

set_option maxHeartbeats 4000000 in
set_option maxRecDepth 100000 in
theorem refAsk0_end (kl m : Nat) (hm : m < 16) (back : Bool) (AK AX AT : Option Addr) (cK cX cT : Nat) (w : World) :
    Calls Tryz.prog 67 #[.agg #[.slice none 0 0, .slice AT m cT], .slice AK kl cK, .slice AX 16 cX, .bool back] w fun e w' => e = .returned (.tuple #[.agg #[.slice none 0 0, .slice AT m cT], .slice none 0 0, .bool false]) ∧ Below w.heap.size w w' := by
 have t1 : ¬ (16 : Int) ≤ (m : Int) := by omega
 have hS0 : Blk ((w.alloc (.cells #[.slice none 0 0, .slice AT m cT] 45)).alloc (.cells #[.slice none 0 0, .slice none 0 0] 45)) w.heap.size 45 #[.slice none 0 0, .slice AT m cT] := (Blk.new w _ _).alloc _
 have hR0 : Blk ((w.alloc (.cells #[.slice none 0 0, .slice AT m cT] 45)).alloc (.cells #[.slice none 0 0, .slice none 0 0] 45)) (w.heap.size + 1) 45 #[.slice none 0 0, .slice none 0 0] := Blk.new2 w _ _ _
 have hb0 : Below w.heap.size w ((w.alloc (.cells #[.slice none 0 0, .slice AT m cT] 45)).alloc (.cells #[.slice none 0 0, .slice none 0 0] 45)) := ((Below.refl _ _).alloc (Nat.le_refl _) _).alloc (by simp) _
 have c0 := hS0.cell 0
 have c1 := hS0.cell 1
 go_enter Tryz.func67, Tryz.ntmps67
 go_wp2
 generalize (w.alloc (.cells #[.slice none 0 0, .slice AT m cT] 45)).alloc (.cells #[.slice none 0 0, .slice none 0 0] 45) = w1 at *
 refine wp_loop_rounds 1 ?_
 rw [rounds_succ]
 go_wp2
 refine wp_loop_rounds 1 ?_
 rw [rounds_succ]
 go_wp2_with (first
  | (refine wpList_load_row rfl 45 (.tmp 4) rfl w.heap.size rfl 45 _ (0,0) _ hS0 Tryz.underlying45 rfl (by rw [info_book]; rfl) ?_)
  | (refine wpList_store_all rfl 45 (.tmp 8) (.tmp 133) rfl (w.heap.size + 1) #[.slice none 0 0, .slice AT m cT] rfl rfl 45 #[.slice none 0 0, .slice none 0 0] hR0 (by rw [info_book]; rfl) rfl (by simp [Value.oneCell']) ?_; intro w5 hB5 hO5)
  | (refine bodyPost_ret (results_cell3 rfl _ _ (w.heap.size + 1) 45 _ _ rfl hB5 Tryz.underlying45 rfl (by rw [info_book]; rfl)) rfl ?_; exact ⟨rfl, hO5.below hb0 (by omega)⟩))

set_option maxHeartbeats 4000000 in
set_option maxRecDepth 100000 in
theorem refAsk0_ff (K X T : List Nat) (kl m : Nat) (hK : K.length = kl) (hk0 : 0 < kl) (hk9 : kl ≤ 1000) (hX : X.length = 16) (hT : T.length = m) (h16 : 16 ≤ m) (hm : m ≤ 100000) (AK AX : Option Addr) (bt ot cK cX cT : Nat) (hcT : m ≤ cT) (hcne : ¬ cT = 16) (w : World) (hAK : At w AK K) (hAX : At w AX X) (hAT : Bs w bt ot T) :
    Calls Tryz.prog 67 #[.agg #[.slice none 0 0, .slice (some ⟨bt, ot, none⟩) m cT], .slice AK kl cK, .slice AX 16 cX, .bool false] w fun e w' =>
     (∃ R cR A' cT' v, e = .returned (.tuple #[.agg #[.slice R 1 cR, .slice A' (m - 16) cT'], v, .bool true]) ∧ RowR w' R K X (T.take 16) ∧ At w' A' (T.drop 16) ∧ m - 16 ≤ cT' ∧ Own w' w.heap.size v (T.take 16)) ∧ Below w.heap.size w w' := by
 have t1 : (16 : Int) ≤ (m : Int) := by omega
 have t2 : (16 : Int) ≤ (cT : Int) := by omega
 have t3 : (m : Int) ≤ (cT : Int) := by omega
 have hbl := hAT.lt (ne_nil hT (by omega))
 have h1 := hAT.sub 0 16
 rw [Nat.add_zero, List.drop_zero] at h1
 have h2 := hAT.sub 16 (m - 16)
 rw [List.take_of_length_le (by rw [List.length_drop, hT]; exact Nat.le_refl _)] at h2
 have hyl : (T.take 16).length = 16 := by rw [List.length_take]; omega
 have hdl : (T.drop 16).length = m - 16 := by rw [List.length_drop, hT]
 generalize T.take 16 = Y at *
 generalize T.drop 16 = D at *
 have HAD := Lib.hid (fun W (hb : Below w.heap.size w W) => (fun _ => ⟨_, _, rfl, h2.below hb hbl⟩ : At W (some ⟨bt, ot + 16, none⟩) D)); clear h2
 have hS0 : Blk ((w.alloc (.cells #[.slice none 0 0, .slice (some ⟨bt, ot, none⟩) m cT] 45)).alloc (.cells #[.slice none 0 0, .slice none 0 0] 45)) w.heap.size 45 #[.slice none 0 0, .slice (some ⟨bt, ot, none⟩) m cT] := (Blk.new w _ _).alloc _
 have hR0 : Blk ((w.alloc (.cells #[.slice none 0 0, .slice (some ⟨bt, ot, none⟩) m cT] 45)).alloc (.cells #[.slice none 0 0, .slice none 0 0] 45)) (w.heap.size + 1) 45 #[.slice none 0 0, .slice none 0 0] := Blk.new2 w _ _ _
 have hb0 : Below w.heap.size w ((w.alloc (.cells #[.slice none 0 0, .slice (some ⟨bt, ot, none⟩) m cT] 45)).alloc (.cells #[.slice none 0 0, .slice none 0 0] 45)) := ((Below.refl _ _).alloc (Nat.le_refl _) _).alloc (by simp) _
 have hs0 : ((w.alloc (.cells #[.slice none 0 0, .slice (some ⟨bt, ot, none⟩) m cT] 45)).alloc (.cells #[.slice none 0 0, .slice none 0 0] 45)).heap.size = w.heap.size + 2 := by simp
 have c0 := hS0.cell 0
 have c1 := hS0.cell 1
 have f1 := hS0.frozen 1
 go_enter Tryz.func67, Tryz.ntmps67
 go_wp2
 generalize ((w.alloc (.cells #[.slice none 0 0, .slice (some ⟨bt, ot, none⟩) m cT] 45)).alloc (.cells #[.slice none 0 0, .slice none 0 0] 45)) = w1 at *
 have hS2 := hS0.set_ 1 (.slice (some ⟨bt, ot + 16, none⟩) (m - 16) (cT - 16))
 have hR2 := hR0.far (p := ⟨w.heap.size, 1, none⟩) (by simp) (.slice (some ⟨bt, ot + 16, none⟩) (m - 16) (cT - 16))
 have hb2 : Below w.heap.size w (w1.setCell ⟨w.heap.size, 1, none⟩ (.slice (some ⟨bt, ot + 16, none⟩) (m - 16) (cT - 16))) := below_setCell (Below.refl _ _) hb0 (Nat.le_refl _) _ (Nat.le_refl _) _
 have hz2 : (w1.setCell ⟨w.heap.size, 1, none⟩ (.slice (some ⟨bt, ot + 16, none⟩) (m - 16) (cT - 16))).heap.size = w1.heap.size := by simp [World.setCell]
 obtain ⟨w2, hw2⟩ : ∃ w2, w1.setCell ⟨w.heap.size, 1, none⟩ (.slice (some ⟨bt, ot + 16, none⟩) (m - 16) (cT - 16)) = w2 := ⟨_, rfl⟩
 rw [hw2] at hS2 hR2 hb2 hz2
 have HZ2 := Lib.hid hz2; clear hz2
 have HS0 := Lib.hid hs0; clear hs0
 have hS2 : Blk w2 w.heap.size 45 #[.slice none 0 0, (.slice (some ⟨bt, ot + 16, none⟩) (m - 16) (cT - 16))] := hS2
 have hS2z := hS2.lt
 have d0 := hS2.cell 0
 have d1 := hS2.cell 1
 have hKA : ∀ W, Below w2.heap.size w2 W → At W AK K := fun W hW => (hAK.below hb2 (Nat.le_refl _)).below hW (Nat.le_refl _)
 have hXA : ∀ W, Below w2.heap.size w2 W → At W AX X := fun W hW => (hAX.below hb2 (Nat.le_refl _)).below hW (Nat.le_refl _)
 have hYA : ∀ W, Below w2.heap.size w2 W → Bs W bt ot Y := fun W hW => (h1.below hb2 hbl).below hW (by have := hb2.size; omega)
 refine wp_loop_rounds 1 ?_
 rw [rounds_succ]
 go_wp2
 refine wp_loop_rounds 1 ?_
 rw [rounds_succ]
 go_wp2
 refine wp_loop_rounds 1 ?_
 rw [rounds_succ]
 go_wp2_with (first
  | (at_builtin; refine wpList_append_nums rfl (.tmp 103) (.tmp 104) 22 rfl .u8 5 1 Tryz.underlying22 info_byte w2.heap.size w2 _ [] rfl (OwnN.start 5 .u8 w2 w2.heap.size (Nat.le_refl _)) ((Below.refl _ _).alloc (Nat.le_refl _) _) (by simp) _ kl cK K rfl hK (hKA _ ((Below.refl _ _).alloc (Nat.le_refl _) _) (ne_nil hK hk0)) (by simp only [List.length_nil]; omega) (by omega) ?_; intro v w3 hown hbelw3 hsz; rw [List.nil_append] at hown; obtain ⟨gK, cK', rfl, hatK, -, hgK⟩ := Own.at_ (OwnN.bytes hown) hK hk0; clear hown hsz)
  | (at_builtin; refine wpList_append_nums rfl (.tmp 106) (.tmp 107) 22 rfl .u8 5 1 Tryz.underlying22 info_byte w3.heap.size w3 _ [] rfl (OwnN.start 5 .u8 w3 w3.heap.size (Nat.le_refl _)) ((Below.refl _ _).alloc (Nat.le_refl _) _) (by simp) _ 16 cX X rfl hX (hXA _ (hbelw3.alloc hbelw3.size _) (ne_nil hX (by omega))) (by simp only [List.length_nil]; omega) (by omega) ?_; intro v w4 hown hbelw4 hsz; rw [List.nil_append] at hown; obtain ⟨gX, cX', rfl, hatX, -, hgX⟩ := Own.at_ (OwnN.bytes hown) hX (by omega); clear hown hsz; have hbw4 := hbelw3.trans (hbelw4.mono hbelw3.size); have hatK4 := hatK.below hbelw4 (Nat.le_refl _))
  | (at_builtin; refine wpList_append_nums rfl (.tmp 109) (.tmp 110) 22 rfl .u8 5 1 Tryz.underlying22 info_byte w4.heap.size w4 _ [] rfl (OwnN.start 5 .u8 w4 w4.heap.size (Nat.le_refl _)) ((Below.refl _ _).alloc (Nat.le_refl _) _) (by simp) _ 16 cT Y rfl hyl (⟨_, _, rfl, hYA _ (hbw4.alloc hbw4.size _)⟩) (by simp only [List.length_nil]; omega) (by omega) ?_; intro v w5 hown hbelw5 hsz; rw [List.nil_append] at hown; obtain ⟨gY, cY', rfl, hatY, -, hgY⟩ := Own.at_ (OwnN.bytes hown) hyl (by omega); clear hown hsz; have hbw5 := hbw4.trans (hbelw5.mono hbw4.size); have hatK5 := hatK4.below hbelw5 (Nat.le_refl _); have hatX5 := hatX.below hbelw5 (Nat.le_refl _))
  | (refine wpList_store_all rfl 163 (.tmp 17) (.tmp 112) rfl w5.heap.size #[.slice (some ⟨gK, 0, none⟩) kl cK', .slice (some ⟨gX, 0, none⟩) 16 cX', .slice (some ⟨gY, 0, none⟩) 16 cY'] rfl rfl 163 #[.slice none 0 0, .slice none 0 0, .slice none 0 0] (Blk.new w5 _ _) (by rw [info_rowR]; rfl) rfl (by simp [Value.oneCell']) ?_; intro w6 hB6 hO6; have e0 := hB6.cell 0; have e1 := hB6.cell 1; have e2 := hB6.cell 2))
 have hS6 : Blk w6 w.heap.size 45 #[.slice none 0 0, (.slice (some ⟨bt, ot + 16, none⟩) (m - 16) (cT - 16))] := ((hS2.below hbw5 hS2.lt).alloc _).only hO6 (by have := hS2.lt; have := hbw5.size; omega)
 obtain ⟨i0, hi0, hz0, hz1, hz2⟩ := info_parts info_rowR3
 refine wp_region_last (.q 1 (.q 2 (.q 4 (.e [0, 5] fun i => bif i == 0 then (.e [3, 5] fun j => bif j == 3 then (.e [5] fun _ => .e [6] fun _ => .q 7 (.e [8] fun _ => .done)) else (.e [3] fun _ => .e [6] fun _ => .q 7 (.e [8] fun _ => .done))) else (.e [0] fun _ => .e [3] fun _ => .e [6] fun _ => .q 7 (.e [8] fun _ => .done))))))
  (fun V => Blk V w.heap.size 45 #[.slice none 0 0, (.slice (some ⟨bt, ot + 16, none⟩) (m - 16) (cT - 16))] ∧ Blk V w5.heap.size 163 #[.slice (some ⟨gK, 0, none⟩) kl cK', .slice (some ⟨gX, 0, none⟩) 16 cX', .slice (some ⟨gY, 0, none⟩) 16 cY']) 8 rfl (by kernel_rfl) (fun _ _ d _ _ h => by cases d <;> exact h) ?_
 have hS : Blk w6.drew w.heap.size 45 #[.slice none 0 0, (.slice (some ⟨bt, ot + 16, none⟩) (m - 16) (cT - 16))] ∧ Blk w6.drew w5.heap.size 163 #[.slice (some ⟨gK, 0, none⟩) kl cK', .slice (some ⟨gX, 0, none⟩) 16 cX', .slice (some ⟨gY, 0, none⟩) 16 cY'] := ⟨hS6, hB6⟩
 have hb67 : Below w5.heap.size w5 w6.drew := below_drewN (hO6.below ((Below.refl _ _).alloc (Nat.le_refl _) _) (Nat.le_refl _)) 1
 have hw7s : w.heap.size ≤ w6.drew.heap.size := by have := hb2.size; have := hbw5.size; have := hb67.size; omega
 change wpS _ _ _ _ _ _ _ w6.drew
 have hbel := Below.refl w6.drew.heap.size w6.drew
 clear hS6 hB6 hO6 e0 e1 e2 hR0 c0 c1 f1 d0 d1 hS2 hS0 hw2
 generalize w6.drew = w7 at *
 have hS0 := hS
 refine s_q rfl rfl hS _ (fun V hV => by (go_simp; rfl)) ?_
 go_simp
 refine s_q rfl rfl hS (.slice none 0 0) (fun V hV => by (have hc := hV.1.cell 0; go_simp)) ?_
 go_simp
 refine s_load_row rfl rfl 163 (.tmp 17) rfl w5.heap.size rfl 163 #[.slice (some ⟨gK, 0, none⟩) kl cK', .slice (some ⟨gX, 0, none⟩) 16 cX', .slice (some ⟨gY, 0, none⟩) 16 cY'] hS (fun W hW => hW.2) _ Tryz.underlying163 rfl (by rw [info_rowR]; rfl) ?_
 go_simp
 refine s_two rfl rfl rfl rfl (fun K hK => ?_) (fun K hK => ?_)
 go_simp
 have hSn : Blk (w7.alloc (.cells #[] 163)) w.heap.size 45 #[.slice none 0 0, (.slice (some ⟨bt, ot + 16, none⟩) (m - 16) (cT - 16))] ∧ Blk (w7.alloc (.cells #[] 163)) w5.heap.size 163 #[.slice (some ⟨gK, 0, none⟩) kl cK', .slice (some ⟨gX, 0, none⟩) 16 cX', .slice (some ⟨gY, 0, none⟩) 16 cY'] := ⟨hS.1.alloc _, hS.2.alloc _⟩
 have hbn : Below w7.heap.size w7 (w7.alloc (.cells #[] 163)) := hbel.alloc hbel.size _
 have hownE : (w7.alloc (.cells #[] 163)).ownsRow w.heap.size 163 3 (.slice (some ⟨w7.heap.size, 0, none⟩) 0 0) 0 [] := World.ownsRow_made w7 #[] 0 (Nat.le_trans hw7s hbel.size) (by unfold maxLen; omega) rfl
 have hsz7 := hbel.size
 refine hK _ _ (fun _ => hSn) ?_
 clear hK K hS hbel
 have hS := hSn
 have hbel := hbn
 clear hSn hbn
 obtain ⟨ge, hge⟩ : ∃ ge, w7.heap.size = ge := ⟨_, rfl⟩
 have hge7 : w7.heap.size ≤ ge := by omega
 rw [hge] at hownE ⊢
 clear hge
 generalize w7.alloc (.cells #[] 163) = w8 at *
 refine s_two rfl rfl rfl rfl (fun K hK => ?_) (fun K hK => ?_)
 refine op_append_none (.tmp 121) (.tmp 123) 43 rfl w.heap.size 163 i0 3 Tryz.underlying43 hi0 (.slice (some ⟨ge, 0, none⟩) 0 0) 0 [] rfl hownE rfl ?_
 refine hK _ _ (fun _ => hS) ?_
 clear hK K
 refine s_e rfl rfl fun K hK => ?_
 go_simp
 have hSn : Blk (w8.alloc (.cells #[.slice (some ⟨gK, 0, none⟩) kl cK', .slice (some ⟨gX, 0, none⟩) 16 cX', .slice (some ⟨gY, 0, none⟩) 16 cY'] 163)) w.heap.size 45 #[.slice none 0 0, (.slice (some ⟨bt, ot + 16, none⟩) (m - 16) (cT - 16))] ∧ Blk (w8.alloc (.cells #[.slice (some ⟨gK, 0, none⟩) kl cK', .slice (some ⟨gX, 0, none⟩) 16 cX', .slice (some ⟨gY, 0, none⟩) 16 cY'] 163)) w5.heap.size 163 #[.slice (some ⟨gK, 0, none⟩) kl cK', .slice (some ⟨gX, 0, none⟩) 16 cX', .slice (some ⟨gY, 0, none⟩) 16 cY'] := ⟨hS.1.alloc _, hS.2.alloc _⟩
 have hbn : Below w7.heap.size w7 (w8.alloc (.cells #[.slice (some ⟨gK, 0, none⟩) kl cK', .slice (some ⟨gX, 0, none⟩) 16 cX', .slice (some ⟨gY, 0, none⟩) 16 cY'] 163)) := hbel.alloc hbel.size _
 have hRw : Blk (w8.alloc (.cells #[.slice (some ⟨gK, 0, none⟩) kl cK', .slice (some ⟨gX, 0, none⟩) 16 cX', .slice (some ⟨gY, 0, none⟩) 16 cY'] 163)) w8.heap.size 163 #[.slice (some ⟨gK, 0, none⟩) kl cK', .slice (some ⟨gX, 0, none⟩) 16 cX', .slice (some ⟨gY, 0, none⟩) 16 cY'] := Blk.new _ _ _
 have hownE2 := hownE.alloc (.cells #[.slice (some ⟨gK, 0, none⟩) kl cK', .slice (some ⟨gX, 0, none⟩) 16 cX', .slice (some ⟨gY, 0, none⟩) 16 cY'] 163)
 clear hownE
 have hownE := hownE2
 clear hownE2
 have hsz7 := hbel.size
 refine hK _ _ (fun _ => hSn) ?_
 clear hK K hS hbel
 have hS := hSn
 have hbel := hbn
 clear hSn hbn
 obtain ⟨gr, hgr⟩ : ∃ gr, w8.heap.size = gr := ⟨_, rfl⟩
 rw [hgr] at hRw ⊢
 clear hgr
 generalize w8.alloc (.cells #[.slice (some ⟨gK, 0, none⟩) kl cK', .slice (some ⟨gX, 0, none⟩) 16 cX', .slice (some ⟨gY, 0, none⟩) 16 cY'] 163) = w9 at *
 rotate_left
 go_simp
 have hSn : Blk (w8.alloc (.cells #[.slice (some ⟨gK, 0, none⟩) kl cK', .slice (some ⟨gX, 0, none⟩) 16 cX', .slice (some ⟨gY, 0, none⟩) 16 cY'] 163)) w.heap.size 45 #[.slice none 0 0, (.slice (some ⟨bt, ot + 16, none⟩) (m - 16) (cT - 16))] ∧ Blk (w8.alloc (.cells #[.slice (some ⟨gK, 0, none⟩) kl cK', .slice (some ⟨gX, 0, none⟩) 16 cX', .slice (some ⟨gY, 0, none⟩) 16 cY'] 163)) w5.heap.size 163 #[.slice (some ⟨gK, 0, none⟩) kl cK', .slice (some ⟨gX, 0, none⟩) 16 cX', .slice (some ⟨gY, 0, none⟩) 16 cY'] := ⟨hS.1.alloc _, hS.2.alloc _⟩
 have hbn : Below w7.heap.size w7 (w8.alloc (.cells #[.slice (some ⟨gK, 0, none⟩) kl cK', .slice (some ⟨gX, 0, none⟩) 16 cX', .slice (some ⟨gY, 0, none⟩) 16 cY'] 163)) := hbel.alloc hbel.size _
 have hRw : Blk (w8.alloc (.cells #[.slice (some ⟨gK, 0, none⟩) kl cK', .slice (some ⟨gX, 0, none⟩) 16 cX', .slice (some ⟨gY, 0, none⟩) 16 cY'] 163)) w8.heap.size 163 #[.slice (some ⟨gK, 0, none⟩) kl cK', .slice (some ⟨gX, 0, none⟩) 16 cX', .slice (some ⟨gY, 0, none⟩) 16 cY'] := Blk.new _ _ _
 have hownE2 := hownE.alloc (.cells #[.slice (some ⟨gK, 0, none⟩) kl cK', .slice (some ⟨gX, 0, none⟩) 16 cX', .slice (some ⟨gY, 0, none⟩) 16 cY'] 163)
 clear hownE
 have hownE := hownE2
 clear hownE2
 have hsz7 := hbel.size
 refine hK _ _ (fun _ => hSn) ?_
 clear hK K hS hbel
 have hS := hSn
 have hbel := hbn
 clear hSn hbn
 obtain ⟨gr, hgr⟩ : ∃ gr, w8.heap.size = gr := ⟨_, rfl⟩
 rw [hgr] at hRw ⊢
 clear hgr
 generalize w8.alloc (.cells #[.slice (some ⟨gK, 0, none⟩) kl cK', .slice (some ⟨gX, 0, none⟩) 16 cX', .slice (some ⟨gY, 0, none⟩) 16 cY'] 163) = w9 at *
 refine s_e rfl rfl fun K hK => ?_
 refine op_append_none (.tmp 121) (.tmp 123) 43 rfl w.heap.size 163 i0 3 Tryz.underlying43 hi0 (.slice (some ⟨ge, 0, none⟩) 0 0) 0 [] rfl hownE rfl ?_
 refine hK _ _ (fun _ => hS) ?_
 clear hK K
 rotate_left
 go_simp
 have hSn : Blk (w7.alloc (.cells #[.slice (some ⟨gK, 0, none⟩) kl cK', .slice (some ⟨gX, 0, none⟩) 16 cX', .slice (some ⟨gY, 0, none⟩) 16 cY'] 163)) w.heap.size 45 #[.slice none 0 0, (.slice (some ⟨bt, ot + 16, none⟩) (m - 16) (cT - 16))] ∧ Blk (w7.alloc (.cells #[.slice (some ⟨gK, 0, none⟩) kl cK', .slice (some ⟨gX, 0, none⟩) 16 cX', .slice (some ⟨gY, 0, none⟩) 16 cY'] 163)) w5.heap.size 163 #[.slice (some ⟨gK, 0, none⟩) kl cK', .slice (some ⟨gX, 0, none⟩) 16 cX', .slice (some ⟨gY, 0, none⟩) 16 cY'] := ⟨hS.1.alloc _, hS.2.alloc _⟩
 have hbn : Below w7.heap.size w7 (w7.alloc (.cells #[.slice (some ⟨gK, 0, none⟩) kl cK', .slice (some ⟨gX, 0, none⟩) 16 cX', .slice (some ⟨gY, 0, none⟩) 16 cY'] 163)) := hbel.alloc hbel.size _
 have hRw : Blk (w7.alloc (.cells #[.slice (some ⟨gK, 0, none⟩) kl cK', .slice (some ⟨gX, 0, none⟩) 16 cX', .slice (some ⟨gY, 0, none⟩) 16 cY'] 163)) w7.heap.size 163 #[.slice (some ⟨gK, 0, none⟩) kl cK', .slice (some ⟨gX, 0, none⟩) 16 cX', .slice (some ⟨gY, 0, none⟩) 16 cY'] := Blk.new _ _ _
 have hsz7 := hbel.size
 refine hK _ _ (fun _ => hSn) ?_
 clear hK K hS hbel
 have hS := hSn
 have hbel := hbn
 clear hSn hbn
 obtain ⟨gr, hgr⟩ : ∃ gr, w7.heap.size = gr := ⟨_, rfl⟩
 rw [hgr] at hRw ⊢
 clear hgr
 generalize w7.alloc (.cells #[.slice (some ⟨gK, 0, none⟩) kl cK', .slice (some ⟨gX, 0, none⟩) 16 cX', .slice (some ⟨gY, 0, none⟩) 16 cY'] 163) = w8 at *
 refine s_e rfl rfl fun K hK => ?_
 go_simp
 have hSn : Blk (w8.alloc (.cells #[] 163)) w.heap.size 45 #[.slice none 0 0, (.slice (some ⟨bt, ot + 16, none⟩) (m - 16) (cT - 16))] ∧ Blk (w8.alloc (.cells #[] 163)) w5.heap.size 163 #[.slice (some ⟨gK, 0, none⟩) kl cK', .slice (some ⟨gX, 0, none⟩) 16 cX', .slice (some ⟨gY, 0, none⟩) 16 cY'] := ⟨hS.1.alloc _, hS.2.alloc _⟩
 have hbn : Below w7.heap.size w7 (w8.alloc (.cells #[] 163)) := hbel.alloc hbel.size _
 have hownE : (w8.alloc (.cells #[] 163)).ownsRow w.heap.size 163 3 (.slice (some ⟨w8.heap.size, 0, none⟩) 0 0) 0 [] := World.ownsRow_made w8 #[] 0 (Nat.le_trans hw7s hbel.size) (by unfold maxLen; omega) rfl
 have hRw2 : Blk (w8.alloc (.cells #[] 163)) gr 163 #[.slice (some ⟨gK, 0, none⟩) kl cK', .slice (some ⟨gX, 0, none⟩) 16 cX', .slice (some ⟨gY, 0, none⟩) 16 cY'] := hRw.alloc _
 clear hRw
 have hRw := hRw2
 clear hRw2
 have hsz7 := hbel.size
 refine hK _ _ (fun _ => hSn) ?_
 clear hK K hS hbel
 have hS := hSn
 have hbel := hbn
 clear hSn hbn
 obtain ⟨ge, hge⟩ : ∃ ge, w8.heap.size = ge := ⟨_, rfl⟩
 have hge7 : w7.heap.size ≤ ge := by omega
 rw [hge] at hownE ⊢
 clear hge
 generalize w8.alloc (.cells #[] 163) = w9 at *
 refine s_e rfl rfl fun K hK => ?_
 refine op_append_none (.tmp 121) (.tmp 123) 43 rfl w.heap.size 163 i0 3 Tryz.underlying43 hi0 (.slice (some ⟨ge, 0, none⟩) 0 0) 0 [] rfl hownE rfl ?_
 refine hK _ _ (fun _ => hS) ?_
 clear hK K
 all_goals refine s_e rfl rfl fun K hK => ?_
 all_goals refine op_append_at (.tmp 124) (.tmp 126) 43 rfl w.heap.size 163 i0 (.agg #[.slice none 0 0, .slice none 0 0, .slice none 0 0]) 3 72 Tryz.underlying43 hi0 hz0 hz1 hz2 rfl (by decide) (.slice (some ⟨ge, 0, none⟩) 0 0) 0 [] rfl hownE ⟨gr, 0, none⟩ 1 1 #[.slice (some ⟨gK, 0, none⟩) kl cK', .slice (some ⟨gX, 0, none⟩) 16 cX', .slice (some ⟨gY, 0, none⟩) 16 cY'].toList rfl rfl (fun j u hu => by rw [Addr.add_mid, Nat.zero_add, hRw.cell j, ← Array.getElem?_toList]; exact hu) (by simp [Value.oneCell']) (by unfold maxLen; omega) (by omega) (by have := hbel.size; omega) fun v' w10 hown10 hgr10 _ => ?_
 all_goals (
  have hS10 : Blk w10 w.heap.size 45 #[.slice none 0 0, (.slice (some ⟨bt, ot + 16, none⟩) (m - 16) (cT - 16))] ∧ Blk w10 w5.heap.size 163 #[.slice (some ⟨gK, 0, none⟩) kl cK', .slice (some ⟨gX, 0, none⟩) 16 cX', .slice (some ⟨gY, 0, none⟩) 16 cY'] := ⟨hS.1.grown hgr10 (fun e => absurd (Option.some.inj e : w.heap.size = ge) (by have := hS0.1.lt; omega)), hS.2.grown hgr10 (fun e => absurd (Option.some.inj e : w5.heap.size = ge) (by have := hS0.2.lt; omega))⟩
  refine hK _ _ (fun _ => hS10) ?_
  clear hK K hS hownE hRw
  rcases hown10.2 with ⟨_, h0⟩ | ⟨g10, cap10, cur10, rfl, hg10, hB10, hc10, -, hs10, ht10⟩
  ·
   omega
  have hB10 : Blk w10 g10 163 cur10 := hB10
  have hne10 : g10 ≠ w.heap.size := fun e => by
   have h1 := hS10.1
   unfold Blk at hB10 h1
   rw [e, h1] at hB10
   cases hB10
  refine s_q rfl rfl hS10 _ (fun V hV => by (go_simp; rfl)) ?_
  go_simp
  refine s_e rfl rfl fun K hK => ?_
  have hf := hS10.1.frozen 0
  have hc := hS10.1.cell 0
  go_simp
  have hS11 := hS10.1.set_ 0 (.slice (some ⟨g10, 0, none⟩) 1 cap10)
  have hB11 := hB10.far (p := ⟨w.heap.size, 0, none⟩) hne10 (.slice (some ⟨g10, 0, none⟩) 1 cap10)
  have hk11 : Keep w.heap.size w5 (w10.setCell ⟨w.heap.size, 0, none⟩ (.slice (some ⟨g10, 0, none⟩) 1 cap10)) := (((Keep.ofBelow hb67).trans (Keep.ofBelow hbel)).grown hgr10 (fun k hk => by have : ge = k := Option.some.inj hk; have := hb67.size; omega)).setCell 0 _
  refine hK _ _ (fun h => absurd rfl h) ?_
  refine s_done ?_
  clear hK K hS10 hB10 hf hc hgr10 hown10 hbel hb67
  generalize w10.setCell ⟨w.heap.size, 0, none⟩ (.slice (some ⟨g10, 0, none⟩) 1 cap10) = w11 at *
  have hS11 : Blk w11 w.heap.size 45 #[.slice (some ⟨g10, 0, none⟩) 1 cap10, (.slice (some ⟨bt, ot + 16, none⟩) (m - 16) (cT - 16))] := hS11
  go_wp2_with fail
  have hR11 : Blk w11 (w.heap.size + 1) 45 #[.slice none 0 0, .slice none 0 0] := (hk11.block _ (by have := (hR2.below hbw5 hR2.lt).lt; omega) (by omega)).trans (hR2.below hbw5 hR2.lt)
  have hY11 : Bs w11 bt ot Y := (hYA _ hbw5).keep hk11 (by omega)
  have hK11 : At w11 (some ⟨gK, 0, none⟩) K := fun hne => by
   obtain ⟨b, o, e, hB⟩ := hatK5 hne
   injection e with e
   injection e with e1 e2
   exact ⟨b, o, by rw [← e1, ← e2], hB.keep hk11 (by have := hb2.size; have := hS0.1.lt; omega)⟩
  have hX11 : At w11 (some ⟨gX, 0, none⟩) X := fun hne => by
   obtain ⟨b, o, e, hB⟩ := hatX5 hne
   injection e with e
   injection e with e1 e2
   exact ⟨b, o, by rw [← e1, ← e2], hB.keep hk11 (by have := hS2z; have := hbelw3.size; omega)⟩
  have hQ11 : At w11 (some ⟨gY, 0, none⟩) Y := fun hne => by
   obtain ⟨b, o, e, hB⟩ := hatY hne
   injection e with e
   injection e with e1 e2
   exact ⟨b, o, by rw [← e1, ← e2], hB.keep hk11 (by have := hS2z; have := hbw4.size; omega)⟩
  refine wp_region_tree (.q 0 (.q 2 (.e [1] fun _ => .e [3] fun _ => .e [4] fun _ => .q 5 (.q 6 (.done))))) (fun V => Blk V w.heap.size 45 #[.slice (some ⟨g10, 0, none⟩) 1 cap10, (.slice (some ⟨bt, ot + 16, none⟩) (m - 16) (cT - 16))]) rfl (by kernel_rfl) (fun _ _ d _ _ h => by cases d <;> exact h) ?_
  change wpT _ _ _ _ _ _ w11.drew
  have hSd : Blk w11.drew w.heap.size 45 #[.slice (some ⟨g10, 0, none⟩) 1 cap10, (.slice (some ⟨bt, ot + 16, none⟩) (m - 16) (cT - 16))] := hS11
  have hRd : Blk w11.drew (w.heap.size + 1) 45 #[.slice none 0 0, .slice none 0 0] := hR11
  have hBd : Blk w11.drew g10 163 cur10 := hB11
  have hKd : At w11.drew (some ⟨gK, 0, none⟩) K := hK11
  have hXd : At w11.drew (some ⟨gX, 0, none⟩) X := hX11
  have hQd : At w11.drew (some ⟨gY, 0, none⟩) Y := hQ11
  have hYd : Bs w11.drew bt ot Y := hY11
  have hbd : Below w.heap.size w w11.drew := below_drewN (hk11.below (hb2.trans (hbw5.mono hb2.size)) (by have := hS2z; have := hbw5.size; omega) (Nat.le_refl _)) 1
  clear hS11 hR11 hB11 hK11 hX11 hQ11 hY11 hk11
  generalize w11.drew = w12 at *
  refine t_load_row rfl rfl 45 (.tmp 4) rfl w.heap.size rfl 45 #[.slice (some ⟨g10, 0, none⟩) 1 cap10, (.slice (some ⟨bt, ot + 16, none⟩) (m - 16) (cT - 16))] hSd (fun W hW => hW) _ Tryz.underlying45 rfl (by rw [info_book]; rfl) ?_
  go_simp
  refine t_q rfl rfl hSd _ (fun W hW => by (go_simp; rfl)) ?_
  go_simp
  refine t_e rfl rfl fun K hK => ?_
  go_simp
  refine hK _ _ (hSd.alloc _) ?_
  clear hK K
  refine t_e rfl rfl fun K hK => ?_
  have hbu := (Below.refl w12.heap.size w12).alloc (Nat.le_refl _) (.cells #[] 5)
  refine op_append_nums (.tmp 130) (.tmp 131) 22 rfl .u8 5 1 Tryz.underlying22 info_byte w12.heap.size w12 _ [] rfl (OwnN.start 5 .u8 w12 w12.heap.size (Nat.le_refl _)) hbu hbu.size _ 16 cT Y rfl hyl ⟨_, _, rfl, hYd.below hbu (by have := hbd.size; omega)⟩ (by simp only [List.length_nil]; omega) (by omega) fun vY w13 hown13 hbel13 _ => ?_
  rw [List.nil_append] at hown13
  have hS13 := hSd.below hbel13 hSd.lt
  have hR13 := hRd.below hbel13 hRd.lt
  have hbd13 := hbd.trans (hbel13.mono hbd.size)
  refine hK _ _ hS13 ?_
  clear hK K
  refine t_e rfl rfl fun K hK => ?_
  refine op_store_row 45 (.tmp 8) (.tmp 129) rfl (w.heap.size + 1) #[.slice (some ⟨g10, 0, none⟩) 1 cap10, (.slice (some ⟨bt, ot + 16, none⟩) (m - 16) (cT - 16))] rfl rfl 45 #[.slice none 0 0, .slice none 0 0] hR13 (by rw [info_book]; rfl) rfl (by simp [Value.oneCell']) fun w14 hB14 hO14 => ?_
  refine hK _ _ (hS13.only hO14 (by omega)) ?_
  clear hK K
  go_simp
  iterate 2 (refine t_q rfl rfl (hS13.only hO14 (by omega)) _ (fun W hW => by (go_simp; rfl)) ?_; go_simp)
  refine t_done ?_
  have hbF := hO14.below hbd13 (by omega)
  have hneR : g10 ≠ w.heap.size + 1 := fun e => by
   have h1 := hBd
   have h2 := hRd
   unfold Blk at h1 h2
   rw [e, h2] at h1
   cases h1
  have hz2 : w2.heap.size = w.heap.size + 2 := by rw [HZ2.out, HS0.out]
  have hBF := (hBd.below hbel13 hBd.lt).only hO14 hneR
  have hKF := (hKd.below hbel13 (Nat.le_refl _)).onlyG hO14 (by omega)
  have hXF := (hXd.below hbel13 (Nat.le_refl _)).onlyG hO14 (by have := hbelw3.size; omega)
  have hQF := (hQd.below hbel13 (Nat.le_refl _)).onlyG hO14 (by have := hbw4.size; omega)
  have hOF : Own w14 w.heap.size vY Y := (Own.onlyB (OwnN.bytes hown13) hO14 hRd.lt).more hbd.size
  have hROW : RowR w14 (some ⟨g10, 0, none⟩) K X Y := RowR.of hBF (by rw [hK, hX, hyl]; exact ht10) hKF hXF hQF
  go_wp2_with (first | (refine bodyPost_ret (results_cell3 rfl _ _ (w.heap.size + 1) 45 _ _ rfl hB14 Tryz.underlying45 rfl (by rw [info_book]; rfl)) rfl ?_; exact ⟨⟨_, _, _, _, _, rfl, hROW, HAD.out _ hbF, by omega, hOF⟩, hbF⟩)))

set_option maxHeartbeats 4000000 in
set_option maxRecDepth 100000 in
theorem refAsk0_ft (K X T : List Nat) (kl m : Nat) (hK : K.length = kl) (hk0 : 0 < kl) (hk9 : kl ≤ 1000) (hX : X.length = 16) (hT : T.length = m) (h16 : 16 ≤ m) (hm : m ≤ 100000) (AK AX : Option Addr) (bt ot cK cX cT : Nat) (hcT : m ≤ cT) (hcne : ¬ cT = 16) (w : World) (hAK : At w AK K) (hAX : At w AX X) (hAT : Bs w bt ot T) :
    Calls Tryz.prog 67 #[.agg #[.slice none 0 0, .slice (some ⟨bt, ot, none⟩) m cT], .slice AK kl cK, .slice AX 16 cX, .bool true] w fun e w' =>
     (∃ R cR A' cT' v, e = .returned (.tuple #[.agg #[.slice R 1 cR, .slice A' (m - 16) cT'], v, .bool true]) ∧ RowR w' R K (T.take 16) X ∧ At w' A' (T.drop 16) ∧ m - 16 ≤ cT' ∧ Own w' w.heap.size v (T.take 16)) ∧ Below w.heap.size w w' := by
 have t1 : (16 : Int) ≤ (m : Int) := by omega
 have t2 : (16 : Int) ≤ (cT : Int) := by omega
 have t3 : (m : Int) ≤ (cT : Int) := by omega
 have hbl := hAT.lt (ne_nil hT (by omega))
 have h1 := hAT.sub 0 16
 rw [Nat.add_zero, List.drop_zero] at h1
 have h2 := hAT.sub 16 (m - 16)
 rw [List.take_of_length_le (by rw [List.length_drop, hT]; exact Nat.le_refl _)] at h2
 have hyl : (T.take 16).length = 16 := by rw [List.length_take]; omega
 have hdl : (T.drop 16).length = m - 16 := by rw [List.length_drop, hT]
 generalize T.take 16 = Y at *
 generalize T.drop 16 = D at *
 have HAD := Lib.hid (fun W (hb : Below w.heap.size w W) => (fun _ => ⟨_, _, rfl, h2.below hb hbl⟩ : At W (some ⟨bt, ot + 16, none⟩) D)); clear h2
 have hS0 : Blk ((w.alloc (.cells #[.slice none 0 0, .slice (some ⟨bt, ot, none⟩) m cT] 45)).alloc (.cells #[.slice none 0 0, .slice none 0 0] 45)) w.heap.size 45 #[.slice none 0 0, .slice (some ⟨bt, ot, none⟩) m cT] := (Blk.new w _ _).alloc _
 have hR0 : Blk ((w.alloc (.cells #[.slice none 0 0, .slice (some ⟨bt, ot, none⟩) m cT] 45)).alloc (.cells #[.slice none 0 0, .slice none 0 0] 45)) (w.heap.size + 1) 45 #[.slice none 0 0, .slice none 0 0] := Blk.new2 w _ _ _
 have hb0 : Below w.heap.size w ((w.alloc (.cells #[.slice none 0 0, .slice (some ⟨bt, ot, none⟩) m cT] 45)).alloc (.cells #[.slice none 0 0, .slice none 0 0] 45)) := ((Below.refl _ _).alloc (Nat.le_refl _) _).alloc (by simp) _
 have hs0 : ((w.alloc (.cells #[.slice none 0 0, .slice (some ⟨bt, ot, none⟩) m cT] 45)).alloc (.cells #[.slice none 0 0, .slice none 0 0] 45)).heap.size = w.heap.size + 2 := by simp
 have c0 := hS0.cell 0
 have c1 := hS0.cell 1
 have f1 := hS0.frozen 1
 go_enter Tryz.func67, Tryz.ntmps67
 go_wp2
 generalize ((w.alloc (.cells #[.slice none 0 0, .slice (some ⟨bt, ot, none⟩) m cT] 45)).alloc (.cells #[.slice none 0 0, .slice none 0 0] 45)) = w1 at *
 have hS2 := hS0.set_ 1 (.slice (some ⟨bt, ot + 16, none⟩) (m - 16) (cT - 16))
 have hR2 := hR0.far (p := ⟨w.heap.size, 1, none⟩) (by simp) (.slice (some ⟨bt, ot + 16, none⟩) (m - 16) (cT - 16))
 have hb2 : Below w.heap.size w (w1.setCell ⟨w.heap.size, 1, none⟩ (.slice (some ⟨bt, ot + 16, none⟩) (m - 16) (cT - 16))) := below_setCell (Below.refl _ _) hb0 (Nat.le_refl _) _ (Nat.le_refl _) _
 have hz2 : (w1.setCell ⟨w.heap.size, 1, none⟩ (.slice (some ⟨bt, ot + 16, none⟩) (m - 16) (cT - 16))).heap.size = w1.heap.size := by simp [World.setCell]
 obtain ⟨w2, hw2⟩ : ∃ w2, w1.setCell ⟨w.heap.size, 1, none⟩ (.slice (some ⟨bt, ot + 16, none⟩) (m - 16) (cT - 16)) = w2 := ⟨_, rfl⟩
 rw [hw2] at hS2 hR2 hb2 hz2
 have HZ2 := Lib.hid hz2; clear hz2
 have HS0 := Lib.hid hs0; clear hs0
 have hS2 : Blk w2 w.heap.size 45 #[.slice none 0 0, (.slice (some ⟨bt, ot + 16, none⟩) (m - 16) (cT - 16))] := hS2
 have hS2z := hS2.lt
 have d0 := hS2.cell 0
 have d1 := hS2.cell 1
 have hKA : ∀ W, Below w2.heap.size w2 W → At W AK K := fun W hW => (hAK.below hb2 (Nat.le_refl _)).below hW (Nat.le_refl _)
 have hXA : ∀ W, Below w2.heap.size w2 W → At W AX X := fun W hW => (hAX.below hb2 (Nat.le_refl _)).below hW (Nat.le_refl _)
 have hYA : ∀ W, Below w2.heap.size w2 W → Bs W bt ot Y := fun W hW => (h1.below hb2 hbl).below hW (by have := hb2.size; omega)
 refine wp_loop_rounds 1 ?_
 rw [rounds_succ]
 go_wp2
 refine wp_loop_rounds 1 ?_
 rw [rounds_succ]
 go_wp2
 refine wp_loop_rounds 1 ?_
 rw [rounds_succ]
 go_wp2_with (first
  | (at_builtin; refine wpList_append_nums rfl (.tmp 103) (.tmp 104) 22 rfl .u8 5 1 Tryz.underlying22 info_byte w2.heap.size w2 _ [] rfl (OwnN.start 5 .u8 w2 w2.heap.size (Nat.le_refl _)) ((Below.refl _ _).alloc (Nat.le_refl _) _) (by simp) _ kl cK K rfl hK (hKA _ ((Below.refl _ _).alloc (Nat.le_refl _) _) (ne_nil hK hk0)) (by simp only [List.length_nil]; omega) (by omega) ?_; intro v w3 hown hbelw3 hsz; rw [List.nil_append] at hown; obtain ⟨gK, cK', rfl, hatK, -, hgK⟩ := Own.at_ (OwnN.bytes hown) hK hk0; clear hown hsz)
  | (at_builtin; refine wpList_append_nums rfl (.tmp 106) (.tmp 107) 22 rfl .u8 5 1 Tryz.underlying22 info_byte w3.heap.size w3 _ [] rfl (OwnN.start 5 .u8 w3 w3.heap.size (Nat.le_refl _)) ((Below.refl _ _).alloc (Nat.le_refl _) _) (by simp) _ 16 cX X rfl hX (hXA _ (hbelw3.alloc hbelw3.size _) (ne_nil hX (by omega))) (by simp only [List.length_nil]; omega) (by omega) ?_; intro v w4 hown hbelw4 hsz; rw [List.nil_append] at hown; obtain ⟨gX, cX', rfl, hatX, -, hgX⟩ := Own.at_ (OwnN.bytes hown) hX (by omega); clear hown hsz; have hbw4 := hbelw3.trans (hbelw4.mono hbelw3.size); have hatK4 := hatK.below hbelw4 (Nat.le_refl _))
  | (at_builtin; refine wpList_append_nums rfl (.tmp 109) (.tmp 110) 22 rfl .u8 5 1 Tryz.underlying22 info_byte w4.heap.size w4 _ [] rfl (OwnN.start 5 .u8 w4 w4.heap.size (Nat.le_refl _)) ((Below.refl _ _).alloc (Nat.le_refl _) _) (by simp) _ 16 cT Y rfl hyl (⟨_, _, rfl, hYA _ (hbw4.alloc hbw4.size _)⟩) (by simp only [List.length_nil]; omega) (by omega) ?_; intro v w5 hown hbelw5 hsz; rw [List.nil_append] at hown; obtain ⟨gY, cY', rfl, hatY, -, hgY⟩ := Own.at_ (OwnN.bytes hown) hyl (by omega); clear hown hsz; have hbw5 := hbw4.trans (hbelw5.mono hbw4.size); have hatK5 := hatK4.below hbelw5 (Nat.le_refl _); have hatX5 := hatX.below hbelw5 (Nat.le_refl _))
  | (refine wpList_store_all rfl 163 (.tmp 17) (.tmp 112) rfl w5.heap.size #[.slice (some ⟨gK, 0, none⟩) kl cK', .slice (some ⟨gX, 0, none⟩) 16 cX', .slice (some ⟨gY, 0, none⟩) 16 cY'] rfl rfl 163 #[.slice none 0 0, .slice none 0 0, .slice none 0 0] (Blk.new w5 _ _) (by rw [info_rowR]; rfl) rfl (by simp [Value.oneCell']) ?_; intro w6i hB6i hO6i; have e0 := hB6i.cell 0; have e1 := hB6i.cell 1; have e2 := hB6i.cell 2)
  | (refine wpList_store_all rfl 163 (.tmp 17) (.tmp 120) rfl w5.heap.size #[.slice (some ⟨gK, 0, none⟩) kl cK', .slice (some ⟨gY, 0, none⟩) 16 cY', .slice (some ⟨gX, 0, none⟩) 16 cX'] rfl rfl 163 #[.slice (some ⟨gK, 0, none⟩) kl cK', .slice (some ⟨gX, 0, none⟩) 16 cX', .slice (some ⟨gY, 0, none⟩) 16 cY'] hB6i (by rw [info_rowR]; rfl) rfl (by simp [Value.oneCell']) ?_; intro w6 hB6 hO6; have hO6 := hO6i.trans hO6))
 have hS6 : Blk w6 w.heap.size 45 #[.slice none 0 0, (.slice (some ⟨bt, ot + 16, none⟩) (m - 16) (cT - 16))] := ((hS2.below hbw5 hS2.lt).alloc _).only hO6 (by have := hS2.lt; have := hbw5.size; omega)
 obtain ⟨i0, hi0, hz0, hz1, hz2⟩ := info_parts info_rowR3
 refine wp_region_last (.q 1 (.q 2 (.q 4 (.e [0, 5] fun i => bif i == 0 then (.e [3, 5] fun j => bif j == 3 then (.e [5] fun _ => .e [6] fun _ => .q 7 (.e [8] fun _ => .done)) else (.e [3] fun _ => .e [6] fun _ => .q 7 (.e [8] fun _ => .done))) else (.e [0] fun _ => .e [3] fun _ => .e [6] fun _ => .q 7 (.e [8] fun _ => .done))))))
  (fun V => Blk V w.heap.size 45 #[.slice none 0 0, (.slice (some ⟨bt, ot + 16, none⟩) (m - 16) (cT - 16))] ∧ Blk V w5.heap.size 163 #[.slice (some ⟨gK, 0, none⟩) kl cK', .slice (some ⟨gY, 0, none⟩) 16 cY', .slice (some ⟨gX, 0, none⟩) 16 cX']) 8 rfl (by kernel_rfl) (fun _ _ d _ _ h => by cases d <;> exact h) ?_
 have hS : Blk w6.drew w.heap.size 45 #[.slice none 0 0, (.slice (some ⟨bt, ot + 16, none⟩) (m - 16) (cT - 16))] ∧ Blk w6.drew w5.heap.size 163 #[.slice (some ⟨gK, 0, none⟩) kl cK', .slice (some ⟨gY, 0, none⟩) 16 cY', .slice (some ⟨gX, 0, none⟩) 16 cX'] := ⟨hS6, hB6⟩
 have hb67 : Below w5.heap.size w5 w6.drew := below_drewN (hO6.below ((Below.refl _ _).alloc (Nat.le_refl _) _) (Nat.le_refl _)) 1
 have hw7s : w.heap.size ≤ w6.drew.heap.size := by have := hb2.size; have := hbw5.size; have := hb67.size; omega
 change wpS _ _ _ _ _ _ _ w6.drew
 have hbel := Below.refl w6.drew.heap.size w6.drew
 clear hS6 hB6 hO6 e0 e1 e2 hB6i hO6i hR0 c0 c1 f1 d0 d1 hS2 hS0 hw2
 generalize w6.drew = w7 at *
 have hS0 := hS
 refine s_q rfl rfl hS _ (fun V hV => by (go_simp; rfl)) ?_
 go_simp
 refine s_q rfl rfl hS (.slice none 0 0) (fun V hV => by (have hc := hV.1.cell 0; go_simp)) ?_
 go_simp
 refine s_load_row rfl rfl 163 (.tmp 17) rfl w5.heap.size rfl 163 #[.slice (some ⟨gK, 0, none⟩) kl cK', .slice (some ⟨gY, 0, none⟩) 16 cY', .slice (some ⟨gX, 0, none⟩) 16 cX'] hS (fun W hW => hW.2) _ Tryz.underlying163 rfl (by rw [info_rowR]; rfl) ?_
 go_simp
 refine s_two rfl rfl rfl rfl (fun K hK => ?_) (fun K hK => ?_)
 go_simp
 have hSn : Blk (w7.alloc (.cells #[] 163)) w.heap.size 45 #[.slice none 0 0, (.slice (some ⟨bt, ot + 16, none⟩) (m - 16) (cT - 16))] ∧ Blk (w7.alloc (.cells #[] 163)) w5.heap.size 163 #[.slice (some ⟨gK, 0, none⟩) kl cK', .slice (some ⟨gY, 0, none⟩) 16 cY', .slice (some ⟨gX, 0, none⟩) 16 cX'] := ⟨hS.1.alloc _, hS.2.alloc _⟩
 have hbn : Below w7.heap.size w7 (w7.alloc (.cells #[] 163)) := hbel.alloc hbel.size _
 have hownE : (w7.alloc (.cells #[] 163)).ownsRow w.heap.size 163 3 (.slice (some ⟨w7.heap.size, 0, none⟩) 0 0) 0 [] := World.ownsRow_made w7 #[] 0 (Nat.le_trans hw7s hbel.size) (by unfold maxLen; omega) rfl
 have hsz7 := hbel.size
 refine hK _ _ (fun _ => hSn) ?_
 clear hK K hS hbel
 have hS := hSn
 have hbel := hbn
 clear hSn hbn
 obtain ⟨ge, hge⟩ : ∃ ge, w7.heap.size = ge := ⟨_, rfl⟩
 have hge7 : w7.heap.size ≤ ge := by omega
 rw [hge] at hownE ⊢
 clear hge
 generalize w7.alloc (.cells #[] 163) = w8 at *
 refine s_two rfl rfl rfl rfl (fun K hK => ?_) (fun K hK => ?_)
 refine op_append_none (.tmp 121) (.tmp 123) 43 rfl w.heap.size 163 i0 3 Tryz.underlying43 hi0 (.slice (some ⟨ge, 0, none⟩) 0 0) 0 [] rfl hownE rfl ?_
 refine hK _ _ (fun _ => hS) ?_
 clear hK K
 refine s_e rfl rfl fun K hK => ?_
 go_simp
 have hSn : Blk (w8.alloc (.cells #[.slice (some ⟨gK, 0, none⟩) kl cK', .slice (some ⟨gY, 0, none⟩) 16 cY', .slice (some ⟨gX, 0, none⟩) 16 cX'] 163)) w.heap.size 45 #[.slice none 0 0, (.slice (some ⟨bt, ot + 16, none⟩) (m - 16) (cT - 16))] ∧ Blk (w8.alloc (.cells #[.slice (some ⟨gK, 0, none⟩) kl cK', .slice (some ⟨gY, 0, none⟩) 16 cY', .slice (some ⟨gX, 0, none⟩) 16 cX'] 163)) w5.heap.size 163 #[.slice (some ⟨gK, 0, none⟩) kl cK', .slice (some ⟨gY, 0, none⟩) 16 cY', .slice (some ⟨gX, 0, none⟩) 16 cX'] := ⟨hS.1.alloc _, hS.2.alloc _⟩
 have hbn : Below w7.heap.size w7 (w8.alloc (.cells #[.slice (some ⟨gK, 0, none⟩) kl cK', .slice (some ⟨gY, 0, none⟩) 16 cY', .slice (some ⟨gX, 0, none⟩) 16 cX'] 163)) := hbel.alloc hbel.size _
 have hRw : Blk (w8.alloc (.cells #[.slice (some ⟨gK, 0, none⟩) kl cK', .slice (some ⟨gY, 0, none⟩) 16 cY', .slice (some ⟨gX, 0, none⟩) 16 cX'] 163)) w8.heap.size 163 #[.slice (some ⟨gK, 0, none⟩) kl cK', .slice (some ⟨gY, 0, none⟩) 16 cY', .slice (some ⟨gX, 0, none⟩) 16 cX'] := Blk.new _ _ _
 have hownE2 := hownE.alloc (.cells #[.slice (some ⟨gK, 0, none⟩) kl cK', .slice (some ⟨gY, 0, none⟩) 16 cY', .slice (some ⟨gX, 0, none⟩) 16 cX'] 163)
 clear hownE
 have hownE := hownE2
 clear hownE2
 have hsz7 := hbel.size
 refine hK _ _ (fun _ => hSn) ?_
 clear hK K hS hbel
 have hS := hSn
 have hbel := hbn
 clear hSn hbn
 obtain ⟨gr, hgr⟩ : ∃ gr, w8.heap.size = gr := ⟨_, rfl⟩
 rw [hgr] at hRw ⊢
 clear hgr
 generalize w8.alloc (.cells #[.slice (some ⟨gK, 0, none⟩) kl cK', .slice (some ⟨gY, 0, none⟩) 16 cY', .slice (some ⟨gX, 0, none⟩) 16 cX'] 163) = w9 at *
 rotate_left
 go_simp
 have hSn : Blk (w8.alloc (.cells #[.slice (some ⟨gK, 0, none⟩) kl cK', .slice (some ⟨gY, 0, none⟩) 16 cY', .slice (some ⟨gX, 0, none⟩) 16 cX'] 163)) w.heap.size 45 #[.slice none 0 0, (.slice (some ⟨bt, ot + 16, none⟩) (m - 16) (cT - 16))] ∧ Blk (w8.alloc (.cells #[.slice (some ⟨gK, 0, none⟩) kl cK', .slice (some ⟨gY, 0, none⟩) 16 cY', .slice (some ⟨gX, 0, none⟩) 16 cX'] 163)) w5.heap.size 163 #[.slice (some ⟨gK, 0, none⟩) kl cK', .slice (some ⟨gY, 0, none⟩) 16 cY', .slice (some ⟨gX, 0, none⟩) 16 cX'] := ⟨hS.1.alloc _, hS.2.alloc _⟩
 have hbn : Below w7.heap.size w7 (w8.alloc (.cells #[.slice (some ⟨gK, 0, none⟩) kl cK', .slice (some ⟨gY, 0, none⟩) 16 cY', .slice (some ⟨gX, 0, none⟩) 16 cX'] 163)) := hbel.alloc hbel.size _
 have hRw : Blk (w8.alloc (.cells #[.slice (some ⟨gK, 0, none⟩) kl cK', .slice (some ⟨gY, 0, none⟩) 16 cY', .slice (some ⟨gX, 0, none⟩) 16 cX'] 163)) w8.heap.size 163 #[.slice (some ⟨gK, 0, none⟩) kl cK', .slice (some ⟨gY, 0, none⟩) 16 cY', .slice (some ⟨gX, 0, none⟩) 16 cX'] := Blk.new _ _ _
 have hownE2 := hownE.alloc (.cells #[.slice (some ⟨gK, 0, none⟩) kl cK', .slice (some ⟨gY, 0, none⟩) 16 cY', .slice (some ⟨gX, 0, none⟩) 16 cX'] 163)
 clear hownE
 have hownE := hownE2
 clear hownE2
 have hsz7 := hbel.size
 refine hK _ _ (fun _ => hSn) ?_
 clear hK K hS hbel
 have hS := hSn
 have hbel := hbn
 clear hSn hbn
 obtain ⟨gr, hgr⟩ : ∃ gr, w8.heap.size = gr := ⟨_, rfl⟩
 rw [hgr] at hRw ⊢
 clear hgr
 generalize w8.alloc (.cells #[.slice (some ⟨gK, 0, none⟩) kl cK', .slice (some ⟨gY, 0, none⟩) 16 cY', .slice (some ⟨gX, 0, none⟩) 16 cX'] 163) = w9 at *
 refine s_e rfl rfl fun K hK => ?_
 refine op_append_none (.tmp 121) (.tmp 123) 43 rfl w.heap.size 163 i0 3 Tryz.underlying43 hi0 (.slice (some ⟨ge, 0, none⟩) 0 0) 0 [] rfl hownE rfl ?_
 refine hK _ _ (fun _ => hS) ?_
 clear hK K
 rotate_left
 go_simp
 have hSn : Blk (w7.alloc (.cells #[.slice (some ⟨gK, 0, none⟩) kl cK', .slice (some ⟨gY, 0, none⟩) 16 cY', .slice (some ⟨gX, 0, none⟩) 16 cX'] 163)) w.heap.size 45 #[.slice none 0 0, (.slice (some ⟨bt, ot + 16, none⟩) (m - 16) (cT - 16))] ∧ Blk (w7.alloc (.cells #[.slice (some ⟨gK, 0, none⟩) kl cK', .slice (some ⟨gY, 0, none⟩) 16 cY', .slice (some ⟨gX, 0, none⟩) 16 cX'] 163)) w5.heap.size 163 #[.slice (some ⟨gK, 0, none⟩) kl cK', .slice (some ⟨gY, 0, none⟩) 16 cY', .slice (some ⟨gX, 0, none⟩) 16 cX'] := ⟨hS.1.alloc _, hS.2.alloc _⟩
 have hbn : Below w7.heap.size w7 (w7.alloc (.cells #[.slice (some ⟨gK, 0, none⟩) kl cK', .slice (some ⟨gY, 0, none⟩) 16 cY', .slice (some ⟨gX, 0, none⟩) 16 cX'] 163)) := hbel.alloc hbel.size _
 have hRw : Blk (w7.alloc (.cells #[.slice (some ⟨gK, 0, none⟩) kl cK', .slice (some ⟨gY, 0, none⟩) 16 cY', .slice (some ⟨gX, 0, none⟩) 16 cX'] 163)) w7.heap.size 163 #[.slice (some ⟨gK, 0, none⟩) kl cK', .slice (some ⟨gY, 0, none⟩) 16 cY', .slice (some ⟨gX, 0, none⟩) 16 cX'] := Blk.new _ _ _
 have hsz7 := hbel.size
 refine hK _ _ (fun _ => hSn) ?_
 clear hK K hS hbel
 have hS := hSn
 have hbel := hbn
 clear hSn hbn
 obtain ⟨gr, hgr⟩ : ∃ gr, w7.heap.size = gr := ⟨_, rfl⟩
 rw [hgr] at hRw ⊢
 clear hgr
 generalize w7.alloc (.cells #[.slice (some ⟨gK, 0, none⟩) kl cK', .slice (some ⟨gY, 0, none⟩) 16 cY', .slice (some ⟨gX, 0, none⟩) 16 cX'] 163) = w8 at *
 refine s_e rfl rfl fun K hK => ?_
 go_simp
 have hSn : Blk (w8.alloc (.cells #[] 163)) w.heap.size 45 #[.slice none 0 0, (.slice (some ⟨bt, ot + 16, none⟩) (m - 16) (cT - 16))] ∧ Blk (w8.alloc (.cells #[] 163)) w5.heap.size 163 #[.slice (some ⟨gK, 0, none⟩) kl cK', .slice (some ⟨gY, 0, none⟩) 16 cY', .slice (some ⟨gX, 0, none⟩) 16 cX'] := ⟨hS.1.alloc _, hS.2.alloc _⟩
 have hbn : Below w7.heap.size w7 (w8.alloc (.cells #[] 163)) := hbel.alloc hbel.size _
 have hownE : (w8.alloc (.cells #[] 163)).ownsRow w.heap.size 163 3 (.slice (some ⟨w8.heap.size, 0, none⟩) 0 0) 0 [] := World.ownsRow_made w8 #[] 0 (Nat.le_trans hw7s hbel.size) (by unfold maxLen; omega) rfl
 have hRw2 : Blk (w8.alloc (.cells #[] 163)) gr 163 #[.slice (some ⟨gK, 0, none⟩) kl cK', .slice (some ⟨gY, 0, none⟩) 16 cY', .slice (some ⟨gX, 0, none⟩) 16 cX'] := hRw.alloc _
 clear hRw
 have hRw := hRw2
 clear hRw2
 have hsz7 := hbel.size
 refine hK _ _ (fun _ => hSn) ?_
 clear hK K hS hbel
 have hS := hSn
 have hbel := hbn
 clear hSn hbn
 obtain ⟨ge, hge⟩ : ∃ ge, w8.heap.size = ge := ⟨_, rfl⟩
 have hge7 : w7.heap.size ≤ ge := by omega
 rw [hge] at hownE ⊢
 clear hge
 generalize w8.alloc (.cells #[] 163) = w9 at *
 refine s_e rfl rfl fun K hK => ?_
 refine op_append_none (.tmp 121) (.tmp 123) 43 rfl w.heap.size 163 i0 3 Tryz.underlying43 hi0 (.slice (some ⟨ge, 0, none⟩) 0 0) 0 [] rfl hownE rfl ?_
 refine hK _ _ (fun _ => hS) ?_
 clear hK K
 all_goals refine s_e rfl rfl fun K hK => ?_
 all_goals refine op_append_at (.tmp 124) (.tmp 126) 43 rfl w.heap.size 163 i0 (.agg #[.slice none 0 0, .slice none 0 0, .slice none 0 0]) 3 72 Tryz.underlying43 hi0 hz0 hz1 hz2 rfl (by decide) (.slice (some ⟨ge, 0, none⟩) 0 0) 0 [] rfl hownE ⟨gr, 0, none⟩ 1 1 #[.slice (some ⟨gK, 0, none⟩) kl cK', .slice (some ⟨gY, 0, none⟩) 16 cY', .slice (some ⟨gX, 0, none⟩) 16 cX'].toList rfl rfl (fun j u hu => by rw [Addr.add_mid, Nat.zero_add, hRw.cell j, ← Array.getElem?_toList]; exact hu) (by simp [Value.oneCell']) (by unfold maxLen; omega) (by omega) (by have := hbel.size; omega) fun v' w10 hown10 hgr10 _ => ?_
 all_goals (
  have hS10 : Blk w10 w.heap.size 45 #[.slice none 0 0, (.slice (some ⟨bt, ot + 16, none⟩) (m - 16) (cT - 16))] ∧ Blk w10 w5.heap.size 163 #[.slice (some ⟨gK, 0, none⟩) kl cK', .slice (some ⟨gY, 0, none⟩) 16 cY', .slice (some ⟨gX, 0, none⟩) 16 cX'] := ⟨hS.1.grown hgr10 (fun e => absurd (Option.some.inj e : w.heap.size = ge) (by have := hS0.1.lt; omega)), hS.2.grown hgr10 (fun e => absurd (Option.some.inj e : w5.heap.size = ge) (by have := hS0.2.lt; omega))⟩
  refine hK _ _ (fun _ => hS10) ?_
  clear hK K hS hownE hRw
  rcases hown10.2 with ⟨_, h0⟩ | ⟨g10, cap10, cur10, rfl, hg10, hB10, hc10, -, hs10, ht10⟩
  ·
   omega
  have hB10 : Blk w10 g10 163 cur10 := hB10
  have hne10 : g10 ≠ w.heap.size := fun e => by
   have h1 := hS10.1
   unfold Blk at hB10 h1
   rw [e, h1] at hB10
   cases hB10
  refine s_q rfl rfl hS10 _ (fun V hV => by (go_simp; rfl)) ?_
  go_simp
  refine s_e rfl rfl fun K hK => ?_
  have hf := hS10.1.frozen 0
  have hc := hS10.1.cell 0
  go_simp
  have hS11 := hS10.1.set_ 0 (.slice (some ⟨g10, 0, none⟩) 1 cap10)
  have hB11 := hB10.far (p := ⟨w.heap.size, 0, none⟩) hne10 (.slice (some ⟨g10, 0, none⟩) 1 cap10)
  have hk11 : Keep w.heap.size w5 (w10.setCell ⟨w.heap.size, 0, none⟩ (.slice (some ⟨g10, 0, none⟩) 1 cap10)) := (((Keep.ofBelow hb67).trans (Keep.ofBelow hbel)).grown hgr10 (fun k hk => by have : ge = k := Option.some.inj hk; have := hb67.size; omega)).setCell 0 _
  refine hK _ _ (fun h => absurd rfl h) ?_
  refine s_done ?_
  clear hK K hS10 hB10 hf hc hgr10 hown10 hbel hb67
  generalize w10.setCell ⟨w.heap.size, 0, none⟩ (.slice (some ⟨g10, 0, none⟩) 1 cap10) = w11 at *
  have hS11 : Blk w11 w.heap.size 45 #[.slice (some ⟨g10, 0, none⟩) 1 cap10, (.slice (some ⟨bt, ot + 16, none⟩) (m - 16) (cT - 16))] := hS11
  go_wp2_with fail
  have hR11 : Blk w11 (w.heap.size + 1) 45 #[.slice none 0 0, .slice none 0 0] := (hk11.block _ (by have := (hR2.below hbw5 hR2.lt).lt; omega) (by omega)).trans (hR2.below hbw5 hR2.lt)
  have hY11 : Bs w11 bt ot Y := (hYA _ hbw5).keep hk11 (by omega)
  have hK11 : At w11 (some ⟨gK, 0, none⟩) K := fun hne => by
   obtain ⟨b, o, e, hB⟩ := hatK5 hne
   injection e with e
   injection e with e1 e2
   exact ⟨b, o, by rw [← e1, ← e2], hB.keep hk11 (by have := hb2.size; have := hS0.1.lt; omega)⟩
  have hX11 : At w11 (some ⟨gX, 0, none⟩) X := fun hne => by
   obtain ⟨b, o, e, hB⟩ := hatX5 hne
   injection e with e
   injection e with e1 e2
   exact ⟨b, o, by rw [← e1, ← e2], hB.keep hk11 (by have := hS2z; have := hbelw3.size; omega)⟩
  have hQ11 : At w11 (some ⟨gY, 0, none⟩) Y := fun hne => by
   obtain ⟨b, o, e, hB⟩ := hatY hne
   injection e with e
   injection e with e1 e2
   exact ⟨b, o, by rw [← e1, ← e2], hB.keep hk11 (by have := hS2z; have := hbw4.size; omega)⟩
  refine wp_region_tree (.q 0 (.q 2 (.e [1] fun _ => .e [3] fun _ => .e [4] fun _ => .q 5 (.q 6 (.done))))) (fun V => Blk V w.heap.size 45 #[.slice (some ⟨g10, 0, none⟩) 1 cap10, (.slice (some ⟨bt, ot + 16, none⟩) (m - 16) (cT - 16))]) rfl (by kernel_rfl) (fun _ _ d _ _ h => by cases d <;> exact h) ?_
  change wpT _ _ _ _ _ _ w11.drew
  have hSd : Blk w11.drew w.heap.size 45 #[.slice (some ⟨g10, 0, none⟩) 1 cap10, (.slice (some ⟨bt, ot + 16, none⟩) (m - 16) (cT - 16))] := hS11
  have hRd : Blk w11.drew (w.heap.size + 1) 45 #[.slice none 0 0, .slice none 0 0] := hR11
  have hBd : Blk w11.drew g10 163 cur10 := hB11
  have hKd : At w11.drew (some ⟨gK, 0, none⟩) K := hK11
  have hXd : At w11.drew (some ⟨gX, 0, none⟩) X := hX11
  have hQd : At w11.drew (some ⟨gY, 0, none⟩) Y := hQ11
  have hYd : Bs w11.drew bt ot Y := hY11
  have hbd : Below w.heap.size w w11.drew := below_drewN (hk11.below (hb2.trans (hbw5.mono hb2.size)) (by have := hS2z; have := hbw5.size; omega) (Nat.le_refl _)) 1
  clear hS11 hR11 hB11 hK11 hX11 hQ11 hY11 hk11
  generalize w11.drew = w12 at *
  refine t_load_row rfl rfl 45 (.tmp 4) rfl w.heap.size rfl 45 #[.slice (some ⟨g10, 0, none⟩) 1 cap10, (.slice (some ⟨bt, ot + 16, none⟩) (m - 16) (cT - 16))] hSd (fun W hW => hW) _ Tryz.underlying45 rfl (by rw [info_book]; rfl) ?_
  go_simp
  refine t_q rfl rfl hSd _ (fun W hW => by (go_simp; rfl)) ?_
  go_simp
  refine t_e rfl rfl fun K hK => ?_
  go_simp
  refine hK _ _ (hSd.alloc _) ?_
  clear hK K
  refine t_e rfl rfl fun K hK => ?_
  have hbu := (Below.refl w12.heap.size w12).alloc (Nat.le_refl _) (.cells #[] 5)
  refine op_append_nums (.tmp 130) (.tmp 131) 22 rfl .u8 5 1 Tryz.underlying22 info_byte w12.heap.size w12 _ [] rfl (OwnN.start 5 .u8 w12 w12.heap.size (Nat.le_refl _)) hbu hbu.size _ 16 cT Y rfl hyl ⟨_, _, rfl, hYd.below hbu (by have := hbd.size; omega)⟩ (by simp only [List.length_nil]; omega) (by omega) fun vY w13 hown13 hbel13 _ => ?_
  rw [List.nil_append] at hown13
  have hS13 := hSd.below hbel13 hSd.lt
  have hR13 := hRd.below hbel13 hRd.lt
  have hbd13 := hbd.trans (hbel13.mono hbd.size)
  refine hK _ _ hS13 ?_
  clear hK K
  refine t_e rfl rfl fun K hK => ?_
  refine op_store_row 45 (.tmp 8) (.tmp 129) rfl (w.heap.size + 1) #[.slice (some ⟨g10, 0, none⟩) 1 cap10, (.slice (some ⟨bt, ot + 16, none⟩) (m - 16) (cT - 16))] rfl rfl 45 #[.slice none 0 0, .slice none 0 0] hR13 (by rw [info_book]; rfl) rfl (by simp [Value.oneCell']) fun w14 hB14 hO14 => ?_
  refine hK _ _ (hS13.only hO14 (by omega)) ?_
  clear hK K
  go_simp
  iterate 2 (refine t_q rfl rfl (hS13.only hO14 (by omega)) _ (fun W hW => by (go_simp; rfl)) ?_; go_simp)
  refine t_done ?_
  have hbF := hO14.below hbd13 (by omega)
  have hneR : g10 ≠ w.heap.size + 1 := fun e => by
   have h1 := hBd
   have h2 := hRd
   unfold Blk at h1 h2
   rw [e, h2] at h1
   cases h1
  have hz2 : w2.heap.size = w.heap.size + 2 := by rw [HZ2.out, HS0.out]
  have hBF := (hBd.below hbel13 hBd.lt).only hO14 hneR
  have hKF := (hKd.below hbel13 (Nat.le_refl _)).onlyG hO14 (by omega)
  have hXF := (hXd.below hbel13 (Nat.le_refl _)).onlyG hO14 (by have := hbelw3.size; omega)
  have hQF := (hQd.below hbel13 (Nat.le_refl _)).onlyG hO14 (by have := hbw4.size; omega)
  have hOF : Own w14 w.heap.size vY Y := (Own.onlyB (OwnN.bytes hown13) hO14 hRd.lt).more hbd.size
  have hROW : RowR w14 (some ⟨g10, 0, none⟩) K Y X := RowR.of hBF (by rw [hK, hX, hyl]; exact ht10) hKF hQF hXF
  go_wp2_with (first | (refine bodyPost_ret (results_cell3 rfl _ _ (w.heap.size + 1) 45 _ _ rfl hB14 Tryz.underlying45 rfl (by rw [info_book]; rfl)) rfl ?_; exact ⟨⟨_, _, _, _, _, rfl, hROW, HAD.out _ hbF, by omega, hOF⟩, hbF⟩)))

set_option maxHeartbeats 4000000 in
set_option maxRecDepth 100000 in
theorem refAsk0_tf (K X T : List Nat) (kl : Nat) (hK : K.length = kl) (hk0 : 0 < kl) (hk9 : kl ≤ 1000) (hX : X.length = 16) (hT : T.length = 16) (AK AX : Option Addr) (bt ot cK cX : Nat) (w : World) (hAK : At w AK K) (hAX : At w AX X) (hAT : Bs w bt ot T) :
    Calls Tryz.prog 67 #[.agg #[.slice none 0 0, .slice (some ⟨bt, ot, none⟩) 16 16], .slice AK kl cK, .slice AX 16 cX, .bool false] w fun e w' =>
     (∃ R cR A' cT' v, e = .returned (.tuple #[.agg #[.slice R 1 cR, .slice A' 0 cT'], v, .bool true]) ∧ RowR w' R K X (T.take 16) ∧ At w' A' (T.drop 16) ∧ 0 ≤ cT' ∧ Own w' w.heap.size v (T.take 16)) ∧ Below w.heap.size w w' := by
 have t1 : (16 : Int) ≤ (16 : Int) := by omega
 have t2 : (16 : Int) ≤ (16 : Int) := by omega
 have t3 : (16 : Int) ≤ (16 : Int) := by omega
 have hbl := hAT.lt (ne_nil hT (by omega))
 have h1 := hAT.sub 0 16
 rw [Nat.add_zero, List.drop_zero] at h1
 have h2 := hAT.sub 16 0
 rw [List.take_of_length_le (by rw [List.length_drop, hT]; exact Nat.le_refl _)] at h2
 have hyl : (T.take 16).length = 16 := by rw [List.length_take]; omega
 have hdl : (T.drop 16).length = 0 := by rw [List.length_drop, hT]
 generalize T.take 16 = Y at *
 generalize T.drop 16 = D at *
 have HAD := Lib.hid (fun (W : World) (_ : Below w.heap.size w W) => (fun hne => absurd (List.length_eq_zero_iff.1 (by omega)) hne : At W (some ⟨bt, ot, none⟩) D)); clear h2
 have hS0 : Blk ((w.alloc (.cells #[.slice none 0 0, .slice (some ⟨bt, ot, none⟩) 16 16] 45)).alloc (.cells #[.slice none 0 0, .slice none 0 0] 45)) w.heap.size 45 #[.slice none 0 0, .slice (some ⟨bt, ot, none⟩) 16 16] := (Blk.new w _ _).alloc _
 have hR0 : Blk ((w.alloc (.cells #[.slice none 0 0, .slice (some ⟨bt, ot, none⟩) 16 16] 45)).alloc (.cells #[.slice none 0 0, .slice none 0 0] 45)) (w.heap.size + 1) 45 #[.slice none 0 0, .slice none 0 0] := Blk.new2 w _ _ _
 have hb0 : Below w.heap.size w ((w.alloc (.cells #[.slice none 0 0, .slice (some ⟨bt, ot, none⟩) 16 16] 45)).alloc (.cells #[.slice none 0 0, .slice none 0 0] 45)) := ((Below.refl _ _).alloc (Nat.le_refl _) _).alloc (by simp) _
 have hs0 : ((w.alloc (.cells #[.slice none 0 0, .slice (some ⟨bt, ot, none⟩) 16 16] 45)).alloc (.cells #[.slice none 0 0, .slice none 0 0] 45)).heap.size = w.heap.size + 2 := by simp
 have c0 := hS0.cell 0
 have c1 := hS0.cell 1
 have f1 := hS0.frozen 1
 go_enter Tryz.func67, Tryz.ntmps67
 go_wp2
 generalize ((w.alloc (.cells #[.slice none 0 0, .slice (some ⟨bt, ot, none⟩) 16 16] 45)).alloc (.cells #[.slice none 0 0, .slice none 0 0] 45)) = w1 at *
 have hS2 := hS0.set_ 1 (.slice (some ⟨bt, ot, none⟩) 0 0)
 have hR2 := hR0.far (p := ⟨w.heap.size, 1, none⟩) (by simp) (.slice (some ⟨bt, ot, none⟩) 0 0)
 have hb2 : Below w.heap.size w (w1.setCell ⟨w.heap.size, 1, none⟩ (.slice (some ⟨bt, ot, none⟩) 0 0)) := below_setCell (Below.refl _ _) hb0 (Nat.le_refl _) _ (Nat.le_refl _) _
 have hz2 : (w1.setCell ⟨w.heap.size, 1, none⟩ (.slice (some ⟨bt, ot, none⟩) 0 0)).heap.size = w1.heap.size := by simp [World.setCell]
 obtain ⟨w2, hw2⟩ : ∃ w2, w1.setCell ⟨w.heap.size, 1, none⟩ (.slice (some ⟨bt, ot, none⟩) 0 0) = w2 := ⟨_, rfl⟩
 rw [hw2] at hS2 hR2 hb2 hz2
 have HZ2 := Lib.hid hz2; clear hz2
 have HS0 := Lib.hid hs0; clear hs0
 have hS2 : Blk w2 w.heap.size 45 #[.slice none 0 0, (.slice (some ⟨bt, ot, none⟩) 0 0)] := hS2
 have hS2z := hS2.lt
 have d0 := hS2.cell 0
 have d1 := hS2.cell 1
 have hKA : ∀ W, Below w2.heap.size w2 W → At W AK K := fun W hW => (hAK.below hb2 (Nat.le_refl _)).below hW (Nat.le_refl _)
 have hXA : ∀ W, Below w2.heap.size w2 W → At W AX X := fun W hW => (hAX.below hb2 (Nat.le_refl _)).below hW (Nat.le_refl _)
 have hYA : ∀ W, Below w2.heap.size w2 W → Bs W bt ot Y := fun W hW => (h1.below hb2 hbl).below hW (by have := hb2.size; omega)
 refine wp_loop_rounds 1 ?_
 rw [rounds_succ]
 go_wp2
 refine wp_loop_rounds 1 ?_
 rw [rounds_succ]
 go_wp2
 refine wp_loop_rounds 1 ?_
 rw [rounds_succ]
 go_wp2_with (first
  | (at_builtin; refine wpList_append_nums rfl (.tmp 103) (.tmp 104) 22 rfl .u8 5 1 Tryz.underlying22 info_byte w2.heap.size w2 _ [] rfl (OwnN.start 5 .u8 w2 w2.heap.size (Nat.le_refl _)) ((Below.refl _ _).alloc (Nat.le_refl _) _) (by simp) _ kl cK K rfl hK (hKA _ ((Below.refl _ _).alloc (Nat.le_refl _) _) (ne_nil hK hk0)) (by simp only [List.length_nil]; omega) (by omega) ?_; intro v w3 hown hbelw3 hsz; rw [List.nil_append] at hown; obtain ⟨gK, cK', rfl, hatK, -, hgK⟩ := Own.at_ (OwnN.bytes hown) hK hk0; clear hown hsz)
  | (at_builtin; refine wpList_append_nums rfl (.tmp 106) (.tmp 107) 22 rfl .u8 5 1 Tryz.underlying22 info_byte w3.heap.size w3 _ [] rfl (OwnN.start 5 .u8 w3 w3.heap.size (Nat.le_refl _)) ((Below.refl _ _).alloc (Nat.le_refl _) _) (by simp) _ 16 cX X rfl hX (hXA _ (hbelw3.alloc hbelw3.size _) (ne_nil hX (by omega))) (by simp only [List.length_nil]; omega) (by omega) ?_; intro v w4 hown hbelw4 hsz; rw [List.nil_append] at hown; obtain ⟨gX, cX', rfl, hatX, -, hgX⟩ := Own.at_ (OwnN.bytes hown) hX (by omega); clear hown hsz; have hbw4 := hbelw3.trans (hbelw4.mono hbelw3.size); have hatK4 := hatK.below hbelw4 (Nat.le_refl _))
  | (at_builtin; refine wpList_append_nums rfl (.tmp 109) (.tmp 110) 22 rfl .u8 5 1 Tryz.underlying22 info_byte w4.heap.size w4 _ [] rfl (OwnN.start 5 .u8 w4 w4.heap.size (Nat.le_refl _)) ((Below.refl _ _).alloc (Nat.le_refl _) _) (by simp) _ 16 16 Y rfl hyl (⟨_, _, rfl, hYA _ (hbw4.alloc hbw4.size _)⟩) (by simp only [List.length_nil]; omega) (by omega) ?_; intro v w5 hown hbelw5 hsz; rw [List.nil_append] at hown; obtain ⟨gY, cY', rfl, hatY, -, hgY⟩ := Own.at_ (OwnN.bytes hown) hyl (by omega); clear hown hsz; have hbw5 := hbw4.trans (hbelw5.mono hbw4.size); have hatK5 := hatK4.below hbelw5 (Nat.le_refl _); have hatX5 := hatX.below hbelw5 (Nat.le_refl _))
  | (refine wpList_store_all rfl 163 (.tmp 17) (.tmp 112) rfl w5.heap.size #[.slice (some ⟨gK, 0, none⟩) kl cK', .slice (some ⟨gX, 0, none⟩) 16 cX', .slice (some ⟨gY, 0, none⟩) 16 cY'] rfl rfl 163 #[.slice none 0 0, .slice none 0 0, .slice none 0 0] (Blk.new w5 _ _) (by rw [info_rowR]; rfl) rfl (by simp [Value.oneCell']) ?_; intro w6 hB6 hO6; have e0 := hB6.cell 0; have e1 := hB6.cell 1; have e2 := hB6.cell 2))
 have hS6 : Blk w6 w.heap.size 45 #[.slice none 0 0, (.slice (some ⟨bt, ot, none⟩) 0 0)] := ((hS2.below hbw5 hS2.lt).alloc _).only hO6 (by have := hS2.lt; have := hbw5.size; omega)
 obtain ⟨i0, hi0, hz0, hz1, hz2⟩ := info_parts info_rowR3
 refine wp_region_last (.q 1 (.q 2 (.q 4 (.e [0, 5] fun i => bif i == 0 then (.e [3, 5] fun j => bif j == 3 then (.e [5] fun _ => .e [6] fun _ => .q 7 (.e [8] fun _ => .done)) else (.e [3] fun _ => .e [6] fun _ => .q 7 (.e [8] fun _ => .done))) else (.e [0] fun _ => .e [3] fun _ => .e [6] fun _ => .q 7 (.e [8] fun _ => .done))))))
  (fun V => Blk V w.heap.size 45 #[.slice none 0 0, (.slice (some ⟨bt, ot, none⟩) 0 0)] ∧ Blk V w5.heap.size 163 #[.slice (some ⟨gK, 0, none⟩) kl cK', .slice (some ⟨gX, 0, none⟩) 16 cX', .slice (some ⟨gY, 0, none⟩) 16 cY']) 8 rfl (by kernel_rfl) (fun _ _ d _ _ h => by cases d <;> exact h) ?_
 have hS : Blk w6.drew w.heap.size 45 #[.slice none 0 0, (.slice (some ⟨bt, ot, none⟩) 0 0)] ∧ Blk w6.drew w5.heap.size 163 #[.slice (some ⟨gK, 0, none⟩) kl cK', .slice (some ⟨gX, 0, none⟩) 16 cX', .slice (some ⟨gY, 0, none⟩) 16 cY'] := ⟨hS6, hB6⟩
 have hb67 : Below w5.heap.size w5 w6.drew := below_drewN (hO6.below ((Below.refl _ _).alloc (Nat.le_refl _) _) (Nat.le_refl _)) 1
 have hw7s : w.heap.size ≤ w6.drew.heap.size := by have := hb2.size; have := hbw5.size; have := hb67.size; omega
 change wpS _ _ _ _ _ _ _ w6.drew
 have hbel := Below.refl w6.drew.heap.size w6.drew
 clear hS6 hB6 hO6 e0 e1 e2 hR0 c0 c1 f1 d0 d1 hS2 hS0 hw2
 generalize w6.drew = w7 at *
 have hS0 := hS
 refine s_q rfl rfl hS _ (fun V hV => by (go_simp; rfl)) ?_
 go_simp
 refine s_q rfl rfl hS (.slice none 0 0) (fun V hV => by (have hc := hV.1.cell 0; go_simp)) ?_
 go_simp
 refine s_load_row rfl rfl 163 (.tmp 17) rfl w5.heap.size rfl 163 #[.slice (some ⟨gK, 0, none⟩) kl cK', .slice (some ⟨gX, 0, none⟩) 16 cX', .slice (some ⟨gY, 0, none⟩) 16 cY'] hS (fun W hW => hW.2) _ Tryz.underlying163 rfl (by rw [info_rowR]; rfl) ?_
 go_simp
 refine s_two rfl rfl rfl rfl (fun K hK => ?_) (fun K hK => ?_)
 go_simp
 have hSn : Blk (w7.alloc (.cells #[] 163)) w.heap.size 45 #[.slice none 0 0, (.slice (some ⟨bt, ot, none⟩) 0 0)] ∧ Blk (w7.alloc (.cells #[] 163)) w5.heap.size 163 #[.slice (some ⟨gK, 0, none⟩) kl cK', .slice (some ⟨gX, 0, none⟩) 16 cX', .slice (some ⟨gY, 0, none⟩) 16 cY'] := ⟨hS.1.alloc _, hS.2.alloc _⟩
 have hbn : Below w7.heap.size w7 (w7.alloc (.cells #[] 163)) := hbel.alloc hbel.size _
 have hownE : (w7.alloc (.cells #[] 163)).ownsRow w.heap.size 163 3 (.slice (some ⟨w7.heap.size, 0, none⟩) 0 0) 0 [] := World.ownsRow_made w7 #[] 0 (Nat.le_trans hw7s hbel.size) (by unfold maxLen; omega) rfl
 have hsz7 := hbel.size
 refine hK _ _ (fun _ => hSn) ?_
 clear hK K hS hbel
 have hS := hSn
 have hbel := hbn
 clear hSn hbn
 obtain ⟨ge, hge⟩ : ∃ ge, w7.heap.size = ge := ⟨_, rfl⟩
 have hge7 : w7.heap.size ≤ ge := by omega
 rw [hge] at hownE ⊢
 clear hge
 generalize w7.alloc (.cells #[] 163) = w8 at *
 refine s_two rfl rfl rfl rfl (fun K hK => ?_) (fun K hK => ?_)
 refine op_append_none (.tmp 121) (.tmp 123) 43 rfl w.heap.size 163 i0 3 Tryz.underlying43 hi0 (.slice (some ⟨ge, 0, none⟩) 0 0) 0 [] rfl hownE rfl ?_
 refine hK _ _ (fun _ => hS) ?_
 clear hK K
 refine s_e rfl rfl fun K hK => ?_
 go_simp
 have hSn : Blk (w8.alloc (.cells #[.slice (some ⟨gK, 0, none⟩) kl cK', .slice (some ⟨gX, 0, none⟩) 16 cX', .slice (some ⟨gY, 0, none⟩) 16 cY'] 163)) w.heap.size 45 #[.slice none 0 0, (.slice (some ⟨bt, ot, none⟩) 0 0)] ∧ Blk (w8.alloc (.cells #[.slice (some ⟨gK, 0, none⟩) kl cK', .slice (some ⟨gX, 0, none⟩) 16 cX', .slice (some ⟨gY, 0, none⟩) 16 cY'] 163)) w5.heap.size 163 #[.slice (some ⟨gK, 0, none⟩) kl cK', .slice (some ⟨gX, 0, none⟩) 16 cX', .slice (some ⟨gY, 0, none⟩) 16 cY'] := ⟨hS.1.alloc _, hS.2.alloc _⟩
 have hbn : Below w7.heap.size w7 (w8.alloc (.cells #[.slice (some ⟨gK, 0, none⟩) kl cK', .slice (some ⟨gX, 0, none⟩) 16 cX', .slice (some ⟨gY, 0, none⟩) 16 cY'] 163)) := hbel.alloc hbel.size _
 have hRw : Blk (w8.alloc (.cells #[.slice (some ⟨gK, 0, none⟩) kl cK', .slice (some ⟨gX, 0, none⟩) 16 cX', .slice (some ⟨gY, 0, none⟩) 16 cY'] 163)) w8.heap.size 163 #[.slice (some ⟨gK, 0, none⟩) kl cK', .slice (some ⟨gX, 0, none⟩) 16 cX', .slice (some ⟨gY, 0, none⟩) 16 cY'] := Blk.new _ _ _
 have hownE2 := hownE.alloc (.cells #[.slice (some ⟨gK, 0, none⟩) kl cK', .slice (some ⟨gX, 0, none⟩) 16 cX', .slice (some ⟨gY, 0, none⟩) 16 cY'] 163)
 clear hownE
 have hownE := hownE2
 clear hownE2
 have hsz7 := hbel.size
 refine hK _ _ (fun _ => hSn) ?_
 clear hK K hS hbel
 have hS := hSn
 have hbel := hbn
 clear hSn hbn
 obtain ⟨gr, hgr⟩ : ∃ gr, w8.heap.size = gr := ⟨_, rfl⟩
 rw [hgr] at hRw ⊢
 clear hgr
 generalize w8.alloc (.cells #[.slice (some ⟨gK, 0, none⟩) kl cK', .slice (some ⟨gX, 0, none⟩) 16 cX', .slice (some ⟨gY, 0, none⟩) 16 cY'] 163) = w9 at *
 rotate_left
 go_simp
 have hSn : Blk (w8.alloc (.cells #[.slice (some ⟨gK, 0, none⟩) kl cK', .slice (some ⟨gX, 0, none⟩) 16 cX', .slice (some ⟨gY, 0, none⟩) 16 cY'] 163)) w.heap.size 45 #[.slice none 0 0, (.slice (some ⟨bt, ot, none⟩) 0 0)] ∧ Blk (w8.alloc (.cells #[.slice (some ⟨gK, 0, none⟩) kl cK', .slice (some ⟨gX, 0, none⟩) 16 cX', .slice (some ⟨gY, 0, none⟩) 16 cY'] 163)) w5.heap.size 163 #[.slice (some ⟨gK, 0, none⟩) kl cK', .slice (some ⟨gX, 0, none⟩) 16 cX', .slice (some ⟨gY, 0, none⟩) 16 cY'] := ⟨hS.1.alloc _, hS.2.alloc _⟩
 have hbn : Below w7.heap.size w7 (w8.alloc (.cells #[.slice (some ⟨gK, 0, none⟩) kl cK', .slice (some ⟨gX, 0, none⟩) 16 cX', .slice (some ⟨gY, 0, none⟩) 16 cY'] 163)) := hbel.alloc hbel.size _
 have hRw : Blk (w8.alloc (.cells #[.slice (some ⟨gK, 0, none⟩) kl cK', .slice (some ⟨gX, 0, none⟩) 16 cX', .slice (some ⟨gY, 0, none⟩) 16 cY'] 163)) w8.heap.size 163 #[.slice (some ⟨gK, 0, none⟩) kl cK', .slice (some ⟨gX, 0, none⟩) 16 cX', .slice (some ⟨gY, 0, none⟩) 16 cY'] := Blk.new _ _ _
 have hownE2 := hownE.alloc (.cells #[.slice (some ⟨gK, 0, none⟩) kl cK', .slice (some ⟨gX, 0, none⟩) 16 cX', .slice (some ⟨gY, 0, none⟩) 16 cY'] 163)
 clear hownE
 have hownE := hownE2
 clear hownE2
 have hsz7 := hbel.size
 refine hK _ _ (fun _ => hSn) ?_
 clear hK K hS hbel
 have hS := hSn
 have hbel := hbn
 clear hSn hbn
 obtain ⟨gr, hgr⟩ : ∃ gr, w8.heap.size = gr := ⟨_, rfl⟩
 rw [hgr] at hRw ⊢
 clear hgr
 generalize w8.alloc (.cells #[.slice (some ⟨gK, 0, none⟩) kl cK', .slice (some ⟨gX, 0, none⟩) 16 cX', .slice (some ⟨gY, 0, none⟩) 16 cY'] 163) = w9 at *
 refine s_e rfl rfl fun K hK => ?_
 refine op_append_none (.tmp 121) (.tmp 123) 43 rfl w.heap.size 163 i0 3 Tryz.underlying43 hi0 (.slice (some ⟨ge, 0, none⟩) 0 0) 0 [] rfl hownE rfl ?_
 refine hK _ _ (fun _ => hS) ?_
 clear hK K
 rotate_left
 go_simp
 have hSn : Blk (w7.alloc (.cells #[.slice (some ⟨gK, 0, none⟩) kl cK', .slice (some ⟨gX, 0, none⟩) 16 cX', .slice (some ⟨gY, 0, none⟩) 16 cY'] 163)) w.heap.size 45 #[.slice none 0 0, (.slice (some ⟨bt, ot, none⟩) 0 0)] ∧ Blk (w7.alloc (.cells #[.slice (some ⟨gK, 0, none⟩) kl cK', .slice (some ⟨gX, 0, none⟩) 16 cX', .slice (some ⟨gY, 0, none⟩) 16 cY'] 163)) w5.heap.size 163 #[.slice (some ⟨gK, 0, none⟩) kl cK', .slice (some ⟨gX, 0, none⟩) 16 cX', .slice (some ⟨gY, 0, none⟩) 16 cY'] := ⟨hS.1.alloc _, hS.2.alloc _⟩
 have hbn : Below w7.heap.size w7 (w7.alloc (.cells #[.slice (some ⟨gK, 0, none⟩) kl cK', .slice (some ⟨gX, 0, none⟩) 16 cX', .slice (some ⟨gY, 0, none⟩) 16 cY'] 163)) := hbel.alloc hbel.size _
 have hRw : Blk (w7.alloc (.cells #[.slice (some ⟨gK, 0, none⟩) kl cK', .slice (some ⟨gX, 0, none⟩) 16 cX', .slice (some ⟨gY, 0, none⟩) 16 cY'] 163)) w7.heap.size 163 #[.slice (some ⟨gK, 0, none⟩) kl cK', .slice (some ⟨gX, 0, none⟩) 16 cX', .slice (some ⟨gY, 0, none⟩) 16 cY'] := Blk.new _ _ _
 have hsz7 := hbel.size
 refine hK _ _ (fun _ => hSn) ?_
 clear hK K hS hbel
 have hS := hSn
 have hbel := hbn
 clear hSn hbn
 obtain ⟨gr, hgr⟩ : ∃ gr, w7.heap.size = gr := ⟨_, rfl⟩
 rw [hgr] at hRw ⊢
 clear hgr
 generalize w7.alloc (.cells #[.slice (some ⟨gK, 0, none⟩) kl cK', .slice (some ⟨gX, 0, none⟩) 16 cX', .slice (some ⟨gY, 0, none⟩) 16 cY'] 163) = w8 at *
 refine s_e rfl rfl fun K hK => ?_
 go_simp
 have hSn : Blk (w8.alloc (.cells #[] 163)) w.heap.size 45 #[.slice none 0 0, (.slice (some ⟨bt, ot, none⟩) 0 0)] ∧ Blk (w8.alloc (.cells #[] 163)) w5.heap.size 163 #[.slice (some ⟨gK, 0, none⟩) kl cK', .slice (some ⟨gX, 0, none⟩) 16 cX', .slice (some ⟨gY, 0, none⟩) 16 cY'] := ⟨hS.1.alloc _, hS.2.alloc _⟩
 have hbn : Below w7.heap.size w7 (w8.alloc (.cells #[] 163)) := hbel.alloc hbel.size _
 have hownE : (w8.alloc (.cells #[] 163)).ownsRow w.heap.size 163 3 (.slice (some ⟨w8.heap.size, 0, none⟩) 0 0) 0 [] := World.ownsRow_made w8 #[] 0 (Nat.le_trans hw7s hbel.size) (by unfold maxLen; omega) rfl
 have hRw2 : Blk (w8.alloc (.cells #[] 163)) gr 163 #[.slice (some ⟨gK, 0, none⟩) kl cK', .slice (some ⟨gX, 0, none⟩) 16 cX', .slice (some ⟨gY, 0, none⟩) 16 cY'] := hRw.alloc _
 clear hRw
 have hRw := hRw2
 clear hRw2
 have hsz7 := hbel.size
 refine hK _ _ (fun _ => hSn) ?_
 clear hK K hS hbel
 have hS := hSn
 have hbel := hbn
 clear hSn hbn
 obtain ⟨ge, hge⟩ : ∃ ge, w8.heap.size = ge := ⟨_, rfl⟩
 have hge7 : w7.heap.size ≤ ge := by omega
 rw [hge] at hownE ⊢
 clear hge
 generalize w8.alloc (.cells #[] 163) = w9 at *
 refine s_e rfl rfl fun K hK => ?_
 refine op_append_none (.tmp 121) (.tmp 123) 43 rfl w.heap.size 163 i0 3 Tryz.underlying43 hi0 (.slice (some ⟨ge, 0, none⟩) 0 0) 0 [] rfl hownE rfl ?_
 refine hK _ _ (fun _ => hS) ?_
 clear hK K
 all_goals refine s_e rfl rfl fun K hK => ?_
 all_goals refine op_append_at (.tmp 124) (.tmp 126) 43 rfl w.heap.size 163 i0 (.agg #[.slice none 0 0, .slice none 0 0, .slice none 0 0]) 3 72 Tryz.underlying43 hi0 hz0 hz1 hz2 rfl (by decide) (.slice (some ⟨ge, 0, none⟩) 0 0) 0 [] rfl hownE ⟨gr, 0, none⟩ 1 1 #[.slice (some ⟨gK, 0, none⟩) kl cK', .slice (some ⟨gX, 0, none⟩) 16 cX', .slice (some ⟨gY, 0, none⟩) 16 cY'].toList rfl rfl (fun j u hu => by rw [Addr.add_mid, Nat.zero_add, hRw.cell j, ← Array.getElem?_toList]; exact hu) (by simp [Value.oneCell']) (by unfold maxLen; omega) (by omega) (by have := hbel.size; omega) fun v' w10 hown10 hgr10 _ => ?_
 all_goals (
  have hS10 : Blk w10 w.heap.size 45 #[.slice none 0 0, (.slice (some ⟨bt, ot, none⟩) 0 0)] ∧ Blk w10 w5.heap.size 163 #[.slice (some ⟨gK, 0, none⟩) kl cK', .slice (some ⟨gX, 0, none⟩) 16 cX', .slice (some ⟨gY, 0, none⟩) 16 cY'] := ⟨hS.1.grown hgr10 (fun e => absurd (Option.some.inj e : w.heap.size = ge) (by have := hS0.1.lt; omega)), hS.2.grown hgr10 (fun e => absurd (Option.some.inj e : w5.heap.size = ge) (by have := hS0.2.lt; omega))⟩
  refine hK _ _ (fun _ => hS10) ?_
  clear hK K hS hownE hRw
  rcases hown10.2 with ⟨_, h0⟩ | ⟨g10, cap10, cur10, rfl, hg10, hB10, hc10, -, hs10, ht10⟩
  ·
   omega
  have hB10 : Blk w10 g10 163 cur10 := hB10
  have hne10 : g10 ≠ w.heap.size := fun e => by
   have h1 := hS10.1
   unfold Blk at hB10 h1
   rw [e, h1] at hB10
   cases hB10
  refine s_q rfl rfl hS10 _ (fun V hV => by (go_simp; rfl)) ?_
  go_simp
  refine s_e rfl rfl fun K hK => ?_
  have hf := hS10.1.frozen 0
  have hc := hS10.1.cell 0
  go_simp
  have hS11 := hS10.1.set_ 0 (.slice (some ⟨g10, 0, none⟩) 1 cap10)
  have hB11 := hB10.far (p := ⟨w.heap.size, 0, none⟩) hne10 (.slice (some ⟨g10, 0, none⟩) 1 cap10)
  have hk11 : Keep w.heap.size w5 (w10.setCell ⟨w.heap.size, 0, none⟩ (.slice (some ⟨g10, 0, none⟩) 1 cap10)) := (((Keep.ofBelow hb67).trans (Keep.ofBelow hbel)).grown hgr10 (fun k hk => by have : ge = k := Option.some.inj hk; have := hb67.size; omega)).setCell 0 _
  refine hK _ _ (fun h => absurd rfl h) ?_
  refine s_done ?_
  clear hK K hS10 hB10 hf hc hgr10 hown10 hbel hb67
  generalize w10.setCell ⟨w.heap.size, 0, none⟩ (.slice (some ⟨g10, 0, none⟩) 1 cap10) = w11 at *
  have hS11 : Blk w11 w.heap.size 45 #[.slice (some ⟨g10, 0, none⟩) 1 cap10, (.slice (some ⟨bt, ot, none⟩) 0 0)] := hS11
  go_wp2_with fail
  have hR11 : Blk w11 (w.heap.size + 1) 45 #[.slice none 0 0, .slice none 0 0] := (hk11.block _ (by have := (hR2.below hbw5 hR2.lt).lt; omega) (by omega)).trans (hR2.below hbw5 hR2.lt)
  have hY11 : Bs w11 bt ot Y := (hYA _ hbw5).keep hk11 (by omega)
  have hK11 : At w11 (some ⟨gK, 0, none⟩) K := fun hne => by
   obtain ⟨b, o, e, hB⟩ := hatK5 hne
   injection e with e
   injection e with e1 e2
   exact ⟨b, o, by rw [← e1, ← e2], hB.keep hk11 (by have := hb2.size; have := hS0.1.lt; omega)⟩
  have hX11 : At w11 (some ⟨gX, 0, none⟩) X := fun hne => by
   obtain ⟨b, o, e, hB⟩ := hatX5 hne
   injection e with e
   injection e with e1 e2
   exact ⟨b, o, by rw [← e1, ← e2], hB.keep hk11 (by have := hS2z; have := hbelw3.size; omega)⟩
  have hQ11 : At w11 (some ⟨gY, 0, none⟩) Y := fun hne => by
   obtain ⟨b, o, e, hB⟩ := hatY hne
   injection e with e
   injection e with e1 e2
   exact ⟨b, o, by rw [← e1, ← e2], hB.keep hk11 (by have := hS2z; have := hbw4.size; omega)⟩
  refine wp_region_tree (.q 0 (.q 2 (.e [1] fun _ => .e [3] fun _ => .e [4] fun _ => .q 5 (.q 6 (.done))))) (fun V => Blk V w.heap.size 45 #[.slice (some ⟨g10, 0, none⟩) 1 cap10, (.slice (some ⟨bt, ot, none⟩) 0 0)]) rfl (by kernel_rfl) (fun _ _ d _ _ h => by cases d <;> exact h) ?_
  change wpT _ _ _ _ _ _ w11.drew
  have hSd : Blk w11.drew w.heap.size 45 #[.slice (some ⟨g10, 0, none⟩) 1 cap10, (.slice (some ⟨bt, ot, none⟩) 0 0)] := hS11
  have hRd : Blk w11.drew (w.heap.size + 1) 45 #[.slice none 0 0, .slice none 0 0] := hR11
  have hBd : Blk w11.drew g10 163 cur10 := hB11
  have hKd : At w11.drew (some ⟨gK, 0, none⟩) K := hK11
  have hXd : At w11.drew (some ⟨gX, 0, none⟩) X := hX11
  have hQd : At w11.drew (some ⟨gY, 0, none⟩) Y := hQ11
  have hYd : Bs w11.drew bt ot Y := hY11
  have hbd : Below w.heap.size w w11.drew := below_drewN (hk11.below (hb2.trans (hbw5.mono hb2.size)) (by have := hS2z; have := hbw5.size; omega) (Nat.le_refl _)) 1
  clear hS11 hR11 hB11 hK11 hX11 hQ11 hY11 hk11
  generalize w11.drew = w12 at *
  refine t_load_row rfl rfl 45 (.tmp 4) rfl w.heap.size rfl 45 #[.slice (some ⟨g10, 0, none⟩) 1 cap10, (.slice (some ⟨bt, ot, none⟩) 0 0)] hSd (fun W hW => hW) _ Tryz.underlying45 rfl (by rw [info_book]; rfl) ?_
  go_simp
  refine t_q rfl rfl hSd _ (fun W hW => by (go_simp; rfl)) ?_
  go_simp
  refine t_e rfl rfl fun K hK => ?_
  go_simp
  refine hK _ _ (hSd.alloc _) ?_
  clear hK K
  refine t_e rfl rfl fun K hK => ?_
  have hbu := (Below.refl w12.heap.size w12).alloc (Nat.le_refl _) (.cells #[] 5)
  refine op_append_nums (.tmp 130) (.tmp 131) 22 rfl .u8 5 1 Tryz.underlying22 info_byte w12.heap.size w12 _ [] rfl (OwnN.start 5 .u8 w12 w12.heap.size (Nat.le_refl _)) hbu hbu.size _ 16 16 Y rfl hyl ⟨_, _, rfl, hYd.below hbu (by have := hbd.size; omega)⟩ (by simp only [List.length_nil]; omega) (by omega) fun vY w13 hown13 hbel13 _ => ?_
  rw [List.nil_append] at hown13
  have hS13 := hSd.below hbel13 hSd.lt
  have hR13 := hRd.below hbel13 hRd.lt
  have hbd13 := hbd.trans (hbel13.mono hbd.size)
  refine hK _ _ hS13 ?_
  clear hK K
  refine t_e rfl rfl fun K hK => ?_
  refine op_store_row 45 (.tmp 8) (.tmp 129) rfl (w.heap.size + 1) #[.slice (some ⟨g10, 0, none⟩) 1 cap10, (.slice (some ⟨bt, ot, none⟩) 0 0)] rfl rfl 45 #[.slice none 0 0, .slice none 0 0] hR13 (by rw [info_book]; rfl) rfl (by simp [Value.oneCell']) fun w14 hB14 hO14 => ?_
  refine hK _ _ (hS13.only hO14 (by omega)) ?_
  clear hK K
  go_simp
  iterate 2 (refine t_q rfl rfl (hS13.only hO14 (by omega)) _ (fun W hW => by (go_simp; rfl)) ?_; go_simp)
  refine t_done ?_
  have hbF := hO14.below hbd13 (by omega)
  have hneR : g10 ≠ w.heap.size + 1 := fun e => by
   have h1 := hBd
   have h2 := hRd
   unfold Blk at h1 h2
   rw [e, h2] at h1
   cases h1
  have hz2 : w2.heap.size = w.heap.size + 2 := by rw [HZ2.out, HS0.out]
  have hBF := (hBd.below hbel13 hBd.lt).only hO14 hneR
  have hKF := (hKd.below hbel13 (Nat.le_refl _)).onlyG hO14 (by omega)
  have hXF := (hXd.below hbel13 (Nat.le_refl _)).onlyG hO14 (by have := hbelw3.size; omega)
  have hQF := (hQd.below hbel13 (Nat.le_refl _)).onlyG hO14 (by have := hbw4.size; omega)
  have hOF : Own w14 w.heap.size vY Y := (Own.onlyB (OwnN.bytes hown13) hO14 hRd.lt).more hbd.size
  have hROW : RowR w14 (some ⟨g10, 0, none⟩) K X Y := RowR.of hBF (by rw [hK, hX, hyl]; exact ht10) hKF hXF hQF
  go_wp2_with (first | (refine bodyPost_ret (results_cell3 rfl _ _ (w.heap.size + 1) 45 _ _ rfl hB14 Tryz.underlying45 rfl (by rw [info_book]; rfl)) rfl ?_; exact ⟨⟨_, _, _, _, _, rfl, hROW, HAD.out _ hbF, by omega, hOF⟩, hbF⟩)))

set_option maxHeartbeats 4000000 in
set_option maxRecDepth 100000 in
theorem refAsk0_tt (K X T : List Nat) (kl : Nat) (hK : K.length = kl) (hk0 : 0 < kl) (hk9 : kl ≤ 1000) (hX : X.length = 16) (hT : T.length = 16) (AK AX : Option Addr) (bt ot cK cX : Nat) (w : World) (hAK : At w AK K) (hAX : At w AX X) (hAT : Bs w bt ot T) :
    Calls Tryz.prog 67 #[.agg #[.slice none 0 0, .slice (some ⟨bt, ot, none⟩) 16 16], .slice AK kl cK, .slice AX 16 cX, .bool true] w fun e w' =>
     (∃ R cR A' cT' v, e = .returned (.tuple #[.agg #[.slice R 1 cR, .slice A' 0 cT'], v, .bool true]) ∧ RowR w' R K (T.take 16) X ∧ At w' A' (T.drop 16) ∧ 0 ≤ cT' ∧ Own w' w.heap.size v (T.take 16)) ∧ Below w.heap.size w w' := by
 have t1 : (16 : Int) ≤ (16 : Int) := by omega
 have t2 : (16 : Int) ≤ (16 : Int) := by omega
 have t3 : (16 : Int) ≤ (16 : Int) := by omega
 have hbl := hAT.lt (ne_nil hT (by omega))
 have h1 := hAT.sub 0 16
 rw [Nat.add_zero, List.drop_zero] at h1
 have h2 := hAT.sub 16 0
 rw [List.take_of_length_le (by rw [List.length_drop, hT]; exact Nat.le_refl _)] at h2
 have hyl : (T.take 16).length = 16 := by rw [List.length_take]; omega
 have hdl : (T.drop 16).length = 0 := by rw [List.length_drop, hT]
 generalize T.take 16 = Y at *
 generalize T.drop 16 = D at *
 have HAD := Lib.hid (fun (W : World) (_ : Below w.heap.size w W) => (fun hne => absurd (List.length_eq_zero_iff.1 (by omega)) hne : At W (some ⟨bt, ot, none⟩) D)); clear h2
 have hS0 : Blk ((w.alloc (.cells #[.slice none 0 0, .slice (some ⟨bt, ot, none⟩) 16 16] 45)).alloc (.cells #[.slice none 0 0, .slice none 0 0] 45)) w.heap.size 45 #[.slice none 0 0, .slice (some ⟨bt, ot, none⟩) 16 16] := (Blk.new w _ _).alloc _
 have hR0 : Blk ((w.alloc (.cells #[.slice none 0 0, .slice (some ⟨bt, ot, none⟩) 16 16] 45)).alloc (.cells #[.slice none 0 0, .slice none 0 0] 45)) (w.heap.size + 1) 45 #[.slice none 0 0, .slice none 0 0] := Blk.new2 w _ _ _
 have hb0 : Below w.heap.size w ((w.alloc (.cells #[.slice none 0 0, .slice (some ⟨bt, ot, none⟩) 16 16] 45)).alloc (.cells #[.slice none 0 0, .slice none 0 0] 45)) := ((Below.refl _ _).alloc (Nat.le_refl _) _).alloc (by simp) _
 have hs0 : ((w.alloc (.cells #[.slice none 0 0, .slice (some ⟨bt, ot, none⟩) 16 16] 45)).alloc (.cells #[.slice none 0 0, .slice none 0 0] 45)).heap.size = w.heap.size + 2 := by simp
 have c0 := hS0.cell 0
 have c1 := hS0.cell 1
 have f1 := hS0.frozen 1
 go_enter Tryz.func67, Tryz.ntmps67
 go_wp2
 generalize ((w.alloc (.cells #[.slice none 0 0, .slice (some ⟨bt, ot, none⟩) 16 16] 45)).alloc (.cells #[.slice none 0 0, .slice none 0 0] 45)) = w1 at *
 have hS2 := hS0.set_ 1 (.slice (some ⟨bt, ot, none⟩) 0 0)
 have hR2 := hR0.far (p := ⟨w.heap.size, 1, none⟩) (by simp) (.slice (some ⟨bt, ot, none⟩) 0 0)
 have hb2 : Below w.heap.size w (w1.setCell ⟨w.heap.size, 1, none⟩ (.slice (some ⟨bt, ot, none⟩) 0 0)) := below_setCell (Below.refl _ _) hb0 (Nat.le_refl _) _ (Nat.le_refl _) _
 have hz2 : (w1.setCell ⟨w.heap.size, 1, none⟩ (.slice (some ⟨bt, ot, none⟩) 0 0)).heap.size = w1.heap.size := by simp [World.setCell]
 obtain ⟨w2, hw2⟩ : ∃ w2, w1.setCell ⟨w.heap.size, 1, none⟩ (.slice (some ⟨bt, ot, none⟩) 0 0) = w2 := ⟨_, rfl⟩
 rw [hw2] at hS2 hR2 hb2 hz2
 have HZ2 := Lib.hid hz2; clear hz2
 have HS0 := Lib.hid hs0; clear hs0
 have hS2 : Blk w2 w.heap.size 45 #[.slice none 0 0, (.slice (some ⟨bt, ot, none⟩) 0 0)] := hS2
 have hS2z := hS2.lt
 have d0 := hS2.cell 0
 have d1 := hS2.cell 1
 have hKA : ∀ W, Below w2.heap.size w2 W → At W AK K := fun W hW => (hAK.below hb2 (Nat.le_refl _)).below hW (Nat.le_refl _)
 have hXA : ∀ W, Below w2.heap.size w2 W → At W AX X := fun W hW => (hAX.below hb2 (Nat.le_refl _)).below hW (Nat.le_refl _)
 have hYA : ∀ W, Below w2.heap.size w2 W → Bs W bt ot Y := fun W hW => (h1.below hb2 hbl).below hW (by have := hb2.size; omega)
 refine wp_loop_rounds 1 ?_
 rw [rounds_succ]
 go_wp2
 refine wp_loop_rounds 1 ?_
 rw [rounds_succ]
 go_wp2
 refine wp_loop_rounds 1 ?_
 rw [rounds_succ]
 go_wp2_with (first
  | (at_builtin; refine wpList_append_nums rfl (.tmp 103) (.tmp 104) 22 rfl .u8 5 1 Tryz.underlying22 info_byte w2.heap.size w2 _ [] rfl (OwnN.start 5 .u8 w2 w2.heap.size (Nat.le_refl _)) ((Below.refl _ _).alloc (Nat.le_refl _) _) (by simp) _ kl cK K rfl hK (hKA _ ((Below.refl _ _).alloc (Nat.le_refl _) _) (ne_nil hK hk0)) (by simp only [List.length_nil]; omega) (by omega) ?_; intro v w3 hown hbelw3 hsz; rw [List.nil_append] at hown; obtain ⟨gK, cK', rfl, hatK, -, hgK⟩ := Own.at_ (OwnN.bytes hown) hK hk0; clear hown hsz)
  | (at_builtin; refine wpList_append_nums rfl (.tmp 106) (.tmp 107) 22 rfl .u8 5 1 Tryz.underlying22 info_byte w3.heap.size w3 _ [] rfl (OwnN.start 5 .u8 w3 w3.heap.size (Nat.le_refl _)) ((Below.refl _ _).alloc (Nat.le_refl _) _) (by simp) _ 16 cX X rfl hX (hXA _ (hbelw3.alloc hbelw3.size _) (ne_nil hX (by omega))) (by simp only [List.length_nil]; omega) (by omega) ?_; intro v w4 hown hbelw4 hsz; rw [List.nil_append] at hown; obtain ⟨gX, cX', rfl, hatX, -, hgX⟩ := Own.at_ (OwnN.bytes hown) hX (by omega); clear hown hsz; have hbw4 := hbelw3.trans (hbelw4.mono hbelw3.size); have hatK4 := hatK.below hbelw4 (Nat.le_refl _))
  | (at_builtin; refine wpList_append_nums rfl (.tmp 109) (.tmp 110) 22 rfl .u8 5 1 Tryz.underlying22 info_byte w4.heap.size w4 _ [] rfl (OwnN.start 5 .u8 w4 w4.heap.size (Nat.le_refl _)) ((Below.refl _ _).alloc (Nat.le_refl _) _) (by simp) _ 16 16 Y rfl hyl (⟨_, _, rfl, hYA _ (hbw4.alloc hbw4.size _)⟩) (by simp only [List.length_nil]; omega) (by omega) ?_; intro v w5 hown hbelw5 hsz; rw [List.nil_append] at hown; obtain ⟨gY, cY', rfl, hatY, -, hgY⟩ := Own.at_ (OwnN.bytes hown) hyl (by omega); clear hown hsz; have hbw5 := hbw4.trans (hbelw5.mono hbw4.size); have hatK5 := hatK4.below hbelw5 (Nat.le_refl _); have hatX5 := hatX.below hbelw5 (Nat.le_refl _))
  | (refine wpList_store_all rfl 163 (.tmp 17) (.tmp 112) rfl w5.heap.size #[.slice (some ⟨gK, 0, none⟩) kl cK', .slice (some ⟨gX, 0, none⟩) 16 cX', .slice (some ⟨gY, 0, none⟩) 16 cY'] rfl rfl 163 #[.slice none 0 0, .slice none 0 0, .slice none 0 0] (Blk.new w5 _ _) (by rw [info_rowR]; rfl) rfl (by simp [Value.oneCell']) ?_; intro w6i hB6i hO6i; have e0 := hB6i.cell 0; have e1 := hB6i.cell 1; have e2 := hB6i.cell 2)
  | (refine wpList_store_all rfl 163 (.tmp 17) (.tmp 120) rfl w5.heap.size #[.slice (some ⟨gK, 0, none⟩) kl cK', .slice (some ⟨gY, 0, none⟩) 16 cY', .slice (some ⟨gX, 0, none⟩) 16 cX'] rfl rfl 163 #[.slice (some ⟨gK, 0, none⟩) kl cK', .slice (some ⟨gX, 0, none⟩) 16 cX', .slice (some ⟨gY, 0, none⟩) 16 cY'] hB6i (by rw [info_rowR]; rfl) rfl (by simp [Value.oneCell']) ?_; intro w6 hB6 hO6; have hO6 := hO6i.trans hO6))
 have hS6 : Blk w6 w.heap.size 45 #[.slice none 0 0, (.slice (some ⟨bt, ot, none⟩) 0 0)] := ((hS2.below hbw5 hS2.lt).alloc _).only hO6 (by have := hS2.lt; have := hbw5.size; omega)
 obtain ⟨i0, hi0, hz0, hz1, hz2⟩ := info_parts info_rowR3
 refine wp_region_last (.q 1 (.q 2 (.q 4 (.e [0, 5] fun i => bif i == 0 then (.e [3, 5] fun j => bif j == 3 then (.e [5] fun _ => .e [6] fun _ => .q 7 (.e [8] fun _ => .done)) else (.e [3] fun _ => .e [6] fun _ => .q 7 (.e [8] fun _ => .done))) else (.e [0] fun _ => .e [3] fun _ => .e [6] fun _ => .q 7 (.e [8] fun _ => .done))))))
  (fun V => Blk V w.heap.size 45 #[.slice none 0 0, (.slice (some ⟨bt, ot, none⟩) 0 0)] ∧ Blk V w5.heap.size 163 #[.slice (some ⟨gK, 0, none⟩) kl cK', .slice (some ⟨gY, 0, none⟩) 16 cY', .slice (some ⟨gX, 0, none⟩) 16 cX']) 8 rfl (by kernel_rfl) (fun _ _ d _ _ h => by cases d <;> exact h) ?_
 have hS : Blk w6.drew w.heap.size 45 #[.slice none 0 0, (.slice (some ⟨bt, ot, none⟩) 0 0)] ∧ Blk w6.drew w5.heap.size 163 #[.slice (some ⟨gK, 0, none⟩) kl cK', .slice (some ⟨gY, 0, none⟩) 16 cY', .slice (some ⟨gX, 0, none⟩) 16 cX'] := ⟨hS6, hB6⟩
 have hb67 : Below w5.heap.size w5 w6.drew := below_drewN (hO6.below ((Below.refl _ _).alloc (Nat.le_refl _) _) (Nat.le_refl _)) 1
 have hw7s : w.heap.size ≤ w6.drew.heap.size := by have := hb2.size; have := hbw5.size; have := hb67.size; omega
 change wpS _ _ _ _ _ _ _ w6.drew
 have hbel := Below.refl w6.drew.heap.size w6.drew
 clear hS6 hB6 hO6 e0 e1 e2 hB6i hO6i hR0 c0 c1 f1 d0 d1 hS2 hS0 hw2
 generalize w6.drew = w7 at *
 have hS0 := hS
 refine s_q rfl rfl hS _ (fun V hV => by (go_simp; rfl)) ?_
 go_simp
 refine s_q rfl rfl hS (.slice none 0 0) (fun V hV => by (have hc := hV.1.cell 0; go_simp)) ?_
 go_simp
 refine s_load_row rfl rfl 163 (.tmp 17) rfl w5.heap.size rfl 163 #[.slice (some ⟨gK, 0, none⟩) kl cK', .slice (some ⟨gY, 0, none⟩) 16 cY', .slice (some ⟨gX, 0, none⟩) 16 cX'] hS (fun W hW => hW.2) _ Tryz.underlying163 rfl (by rw [info_rowR]; rfl) ?_
 go_simp
 refine s_two rfl rfl rfl rfl (fun K hK => ?_) (fun K hK => ?_)
 go_simp
 have hSn : Blk (w7.alloc (.cells #[] 163)) w.heap.size 45 #[.slice none 0 0, (.slice (some ⟨bt, ot, none⟩) 0 0)] ∧ Blk (w7.alloc (.cells #[] 163)) w5.heap.size 163 #[.slice (some ⟨gK, 0, none⟩) kl cK', .slice (some ⟨gY, 0, none⟩) 16 cY', .slice (some ⟨gX, 0, none⟩) 16 cX'] := ⟨hS.1.alloc _, hS.2.alloc _⟩
 have hbn : Below w7.heap.size w7 (w7.alloc (.cells #[] 163)) := hbel.alloc hbel.size _
 have hownE : (w7.alloc (.cells #[] 163)).ownsRow w.heap.size 163 3 (.slice (some ⟨w7.heap.size, 0, none⟩) 0 0) 0 [] := World.ownsRow_made w7 #[] 0 (Nat.le_trans hw7s hbel.size) (by unfold maxLen; omega) rfl
 have hsz7 := hbel.size
 refine hK _ _ (fun _ => hSn) ?_
 clear hK K hS hbel
 have hS := hSn
 have hbel := hbn
 clear hSn hbn
 obtain ⟨ge, hge⟩ : ∃ ge, w7.heap.size = ge := ⟨_, rfl⟩
 have hge7 : w7.heap.size ≤ ge := by omega
 rw [hge] at hownE ⊢
 clear hge
 generalize w7.alloc (.cells #[] 163) = w8 at *
 refine s_two rfl rfl rfl rfl (fun K hK => ?_) (fun K hK => ?_)
 refine op_append_none (.tmp 121) (.tmp 123) 43 rfl w.heap.size 163 i0 3 Tryz.underlying43 hi0 (.slice (some ⟨ge, 0, none⟩) 0 0) 0 [] rfl hownE rfl ?_
 refine hK _ _ (fun _ => hS) ?_
 clear hK K
 refine s_e rfl rfl fun K hK => ?_
 go_simp
 have hSn : Blk (w8.alloc (.cells #[.slice (some ⟨gK, 0, none⟩) kl cK', .slice (some ⟨gY, 0, none⟩) 16 cY', .slice (some ⟨gX, 0, none⟩) 16 cX'] 163)) w.heap.size 45 #[.slice none 0 0, (.slice (some ⟨bt, ot, none⟩) 0 0)] ∧ Blk (w8.alloc (.cells #[.slice (some ⟨gK, 0, none⟩) kl cK', .slice (some ⟨gY, 0, none⟩) 16 cY', .slice (some ⟨gX, 0, none⟩) 16 cX'] 163)) w5.heap.size 163 #[.slice (some ⟨gK, 0, none⟩) kl cK', .slice (some ⟨gY, 0, none⟩) 16 cY', .slice (some ⟨gX, 0, none⟩) 16 cX'] := ⟨hS.1.alloc _, hS.2.alloc _⟩
 have hbn : Below w7.heap.size w7 (w8.alloc (.cells #[.slice (some ⟨gK, 0, none⟩) kl cK', .slice (some ⟨gY, 0, none⟩) 16 cY', .slice (some ⟨gX, 0, none⟩) 16 cX'] 163)) := hbel.alloc hbel.size _
 have hRw : Blk (w8.alloc (.cells #[.slice (some ⟨gK, 0, none⟩) kl cK', .slice (some ⟨gY, 0, none⟩) 16 cY', .slice (some ⟨gX, 0, none⟩) 16 cX'] 163)) w8.heap.size 163 #[.slice (some ⟨gK, 0, none⟩) kl cK', .slice (some ⟨gY, 0, none⟩) 16 cY', .slice (some ⟨gX, 0, none⟩) 16 cX'] := Blk.new _ _ _
 have hownE2 := hownE.alloc (.cells #[.slice (some ⟨gK, 0, none⟩) kl cK', .slice (some ⟨gY, 0, none⟩) 16 cY', .slice (some ⟨gX, 0, none⟩) 16 cX'] 163)
 clear hownE
 have hownE := hownE2
 clear hownE2
 have hsz7 := hbel.size
 refine hK _ _ (fun _ => hSn) ?_
 clear hK K hS hbel
 have hS := hSn
 have hbel := hbn
 clear hSn hbn
 obtain ⟨gr, hgr⟩ : ∃ gr, w8.heap.size = gr := ⟨_, rfl⟩
 rw [hgr] at hRw ⊢
 clear hgr
 generalize w8.alloc (.cells #[.slice (some ⟨gK, 0, none⟩) kl cK', .slice (some ⟨gY, 0, none⟩) 16 cY', .slice (some ⟨gX, 0, none⟩) 16 cX'] 163) = w9 at *
 rotate_left
 go_simp
 have hSn : Blk (w8.alloc (.cells #[.slice (some ⟨gK, 0, none⟩) kl cK', .slice (some ⟨gY, 0, none⟩) 16 cY', .slice (some ⟨gX, 0, none⟩) 16 cX'] 163)) w.heap.size 45 #[.slice none 0 0, (.slice (some ⟨bt, ot, none⟩) 0 0)] ∧ Blk (w8.alloc (.cells #[.slice (some ⟨gK, 0, none⟩) kl cK', .slice (some ⟨gY, 0, none⟩) 16 cY', .slice (some ⟨gX, 0, none⟩) 16 cX'] 163)) w5.heap.size 163 #[.slice (some ⟨gK, 0, none⟩) kl cK', .slice (some ⟨gY, 0, none⟩) 16 cY', .slice (some ⟨gX, 0, none⟩) 16 cX'] := ⟨hS.1.alloc _, hS.2.alloc _⟩
 have hbn : Below w7.heap.size w7 (w8.alloc (.cells #[.slice (some ⟨gK, 0, none⟩) kl cK', .slice (some ⟨gY, 0, none⟩) 16 cY', .slice (some ⟨gX, 0, none⟩) 16 cX'] 163)) := hbel.alloc hbel.size _
 have hRw : Blk (w8.alloc (.cells #[.slice (some ⟨gK, 0, none⟩) kl cK', .slice (some ⟨gY, 0, none⟩) 16 cY', .slice (some ⟨gX, 0, none⟩) 16 cX'] 163)) w8.heap.size 163 #[.slice (some ⟨gK, 0, none⟩) kl cK', .slice (some ⟨gY, 0, none⟩) 16 cY', .slice (some ⟨gX, 0, none⟩) 16 cX'] := Blk.new _ _ _
 have hownE2 := hownE.alloc (.cells #[.slice (some ⟨gK, 0, none⟩) kl cK', .slice (some ⟨gY, 0, none⟩) 16 cY', .slice (some ⟨gX, 0, none⟩) 16 cX'] 163)
 clear hownE
 have hownE := hownE2
 clear hownE2
 have hsz7 := hbel.size
 refine hK _ _ (fun _ => hSn) ?_
 clear hK K hS hbel
 have hS := hSn
 have hbel := hbn
 clear hSn hbn
 obtain ⟨gr, hgr⟩ : ∃ gr, w8.heap.size = gr := ⟨_, rfl⟩
 rw [hgr] at hRw ⊢
 clear hgr
 generalize w8.alloc (.cells #[.slice (some ⟨gK, 0, none⟩) kl cK', .slice (some ⟨gY, 0, none⟩) 16 cY', .slice (some ⟨gX, 0, none⟩) 16 cX'] 163) = w9 at *
 refine s_e rfl rfl fun K hK => ?_
 refine op_append_none (.tmp 121) (.tmp 123) 43 rfl w.heap.size 163 i0 3 Tryz.underlying43 hi0 (.slice (some ⟨ge, 0, none⟩) 0 0) 0 [] rfl hownE rfl ?_
 refine hK _ _ (fun _ => hS) ?_
 clear hK K
 rotate_left
 go_simp
 have hSn : Blk (w7.alloc (.cells #[.slice (some ⟨gK, 0, none⟩) kl cK', .slice (some ⟨gY, 0, none⟩) 16 cY', .slice (some ⟨gX, 0, none⟩) 16 cX'] 163)) w.heap.size 45 #[.slice none 0 0, (.slice (some ⟨bt, ot, none⟩) 0 0)] ∧ Blk (w7.alloc (.cells #[.slice (some ⟨gK, 0, none⟩) kl cK', .slice (some ⟨gY, 0, none⟩) 16 cY', .slice (some ⟨gX, 0, none⟩) 16 cX'] 163)) w5.heap.size 163 #[.slice (some ⟨gK, 0, none⟩) kl cK', .slice (some ⟨gY, 0, none⟩) 16 cY', .slice (some ⟨gX, 0, none⟩) 16 cX'] := ⟨hS.1.alloc _, hS.2.alloc _⟩
 have hbn : Below w7.heap.size w7 (w7.alloc (.cells #[.slice (some ⟨gK, 0, none⟩) kl cK', .slice (some ⟨gY, 0, none⟩) 16 cY', .slice (some ⟨gX, 0, none⟩) 16 cX'] 163)) := hbel.alloc hbel.size _
 have hRw : Blk (w7.alloc (.cells #[.slice (some ⟨gK, 0, none⟩) kl cK', .slice (some ⟨gY, 0, none⟩) 16 cY', .slice (some ⟨gX, 0, none⟩) 16 cX'] 163)) w7.heap.size 163 #[.slice (some ⟨gK, 0, none⟩) kl cK', .slice (some ⟨gY, 0, none⟩) 16 cY', .slice (some ⟨gX, 0, none⟩) 16 cX'] := Blk.new _ _ _
 have hsz7 := hbel.size
 refine hK _ _ (fun _ => hSn) ?_
 clear hK K hS hbel
 have hS := hSn
 have hbel := hbn
 clear hSn hbn
 obtain ⟨gr, hgr⟩ : ∃ gr, w7.heap.size = gr := ⟨_, rfl⟩
 rw [hgr] at hRw ⊢
 clear hgr
 generalize w7.alloc (.cells #[.slice (some ⟨gK, 0, none⟩) kl cK', .slice (some ⟨gY, 0, none⟩) 16 cY', .slice (some ⟨gX, 0, none⟩) 16 cX'] 163) = w8 at *
 refine s_e rfl rfl fun K hK => ?_
 go_simp
 have hSn : Blk (w8.alloc (.cells #[] 163)) w.heap.size 45 #[.slice none 0 0, (.slice (some ⟨bt, ot, none⟩) 0 0)] ∧ Blk (w8.alloc (.cells #[] 163)) w5.heap.size 163 #[.slice (some ⟨gK, 0, none⟩) kl cK', .slice (some ⟨gY, 0, none⟩) 16 cY', .slice (some ⟨gX, 0, none⟩) 16 cX'] := ⟨hS.1.alloc _, hS.2.alloc _⟩
 have hbn : Below w7.heap.size w7 (w8.alloc (.cells #[] 163)) := hbel.alloc hbel.size _
 have hownE : (w8.alloc (.cells #[] 163)).ownsRow w.heap.size 163 3 (.slice (some ⟨w8.heap.size, 0, none⟩) 0 0) 0 [] := World.ownsRow_made w8 #[] 0 (Nat.le_trans hw7s hbel.size) (by unfold maxLen; omega) rfl
 have hRw2 : Blk (w8.alloc (.cells #[] 163)) gr 163 #[.slice (some ⟨gK, 0, none⟩) kl cK', .slice (some ⟨gY, 0, none⟩) 16 cY', .slice (some ⟨gX, 0, none⟩) 16 cX'] := hRw.alloc _
 clear hRw
 have hRw := hRw2
 clear hRw2
 have hsz7 := hbel.size
 refine hK _ _ (fun _ => hSn) ?_
 clear hK K hS hbel
 have hS := hSn
 have hbel := hbn
 clear hSn hbn
 obtain ⟨ge, hge⟩ : ∃ ge, w8.heap.size = ge := ⟨_, rfl⟩
 have hge7 : w7.heap.size ≤ ge := by omega
 rw [hge] at hownE ⊢
 clear hge
 generalize w8.alloc (.cells #[] 163) = w9 at *
 refine s_e rfl rfl fun K hK => ?_
 refine op_append_none (.tmp 121) (.tmp 123) 43 rfl w.heap.size 163 i0 3 Tryz.underlying43 hi0 (.slice (some ⟨ge, 0, none⟩) 0 0) 0 [] rfl hownE rfl ?_
 refine hK _ _ (fun _ => hS) ?_
 clear hK K
 all_goals refine s_e rfl rfl fun K hK => ?_
 all_goals refine op_append_at (.tmp 124) (.tmp 126) 43 rfl w.heap.size 163 i0 (.agg #[.slice none 0 0, .slice none 0 0, .slice none 0 0]) 3 72 Tryz.underlying43 hi0 hz0 hz1 hz2 rfl (by decide) (.slice (some ⟨ge, 0, none⟩) 0 0) 0 [] rfl hownE ⟨gr, 0, none⟩ 1 1 #[.slice (some ⟨gK, 0, none⟩) kl cK', .slice (some ⟨gY, 0, none⟩) 16 cY', .slice (some ⟨gX, 0, none⟩) 16 cX'].toList rfl rfl (fun j u hu => by rw [Addr.add_mid, Nat.zero_add, hRw.cell j, ← Array.getElem?_toList]; exact hu) (by simp [Value.oneCell']) (by unfold maxLen; omega) (by omega) (by have := hbel.size; omega) fun v' w10 hown10 hgr10 _ => ?_
 all_goals (
  have hS10 : Blk w10 w.heap.size 45 #[.slice none 0 0, (.slice (some ⟨bt, ot, none⟩) 0 0)] ∧ Blk w10 w5.heap.size 163 #[.slice (some ⟨gK, 0, none⟩) kl cK', .slice (some ⟨gY, 0, none⟩) 16 cY', .slice (some ⟨gX, 0, none⟩) 16 cX'] := ⟨hS.1.grown hgr10 (fun e => absurd (Option.some.inj e : w.heap.size = ge) (by have := hS0.1.lt; omega)), hS.2.grown hgr10 (fun e => absurd (Option.some.inj e : w5.heap.size = ge) (by have := hS0.2.lt; omega))⟩
  refine hK _ _ (fun _ => hS10) ?_
  clear hK K hS hownE hRw
  rcases hown10.2 with ⟨_, h0⟩ | ⟨g10, cap10, cur10, rfl, hg10, hB10, hc10, -, hs10, ht10⟩
  ·
   omega
  have hB10 : Blk w10 g10 163 cur10 := hB10
  have hne10 : g10 ≠ w.heap.size := fun e => by
   have h1 := hS10.1
   unfold Blk at hB10 h1
   rw [e, h1] at hB10
   cases hB10
  refine s_q rfl rfl hS10 _ (fun V hV => by (go_simp; rfl)) ?_
  go_simp
  refine s_e rfl rfl fun K hK => ?_
  have hf := hS10.1.frozen 0
  have hc := hS10.1.cell 0
  go_simp
  have hS11 := hS10.1.set_ 0 (.slice (some ⟨g10, 0, none⟩) 1 cap10)
  have hB11 := hB10.far (p := ⟨w.heap.size, 0, none⟩) hne10 (.slice (some ⟨g10, 0, none⟩) 1 cap10)
  have hk11 : Keep w.heap.size w5 (w10.setCell ⟨w.heap.size, 0, none⟩ (.slice (some ⟨g10, 0, none⟩) 1 cap10)) := (((Keep.ofBelow hb67).trans (Keep.ofBelow hbel)).grown hgr10 (fun k hk => by have : ge = k := Option.some.inj hk; have := hb67.size; omega)).setCell 0 _
  refine hK _ _ (fun h => absurd rfl h) ?_
  refine s_done ?_
  clear hK K hS10 hB10 hf hc hgr10 hown10 hbel hb67
  generalize w10.setCell ⟨w.heap.size, 0, none⟩ (.slice (some ⟨g10, 0, none⟩) 1 cap10) = w11 at *
  have hS11 : Blk w11 w.heap.size 45 #[.slice (some ⟨g10, 0, none⟩) 1 cap10, (.slice (some ⟨bt, ot, none⟩) 0 0)] := hS11
  go_wp2_with fail
  have hR11 : Blk w11 (w.heap.size + 1) 45 #[.slice none 0 0, .slice none 0 0] := (hk11.block _ (by have := (hR2.below hbw5 hR2.lt).lt; omega) (by omega)).trans (hR2.below hbw5 hR2.lt)
  have hY11 : Bs w11 bt ot Y := (hYA _ hbw5).keep hk11 (by omega)
  have hK11 : At w11 (some ⟨gK, 0, none⟩) K := fun hne => by
   obtain ⟨b, o, e, hB⟩ := hatK5 hne
   injection e with e
   injection e with e1 e2
   exact ⟨b, o, by rw [← e1, ← e2], hB.keep hk11 (by have := hb2.size; have := hS0.1.lt; omega)⟩
  have hX11 : At w11 (some ⟨gX, 0, none⟩) X := fun hne => by
   obtain ⟨b, o, e, hB⟩ := hatX5 hne
   injection e with e
   injection e with e1 e2
   exact ⟨b, o, by rw [← e1, ← e2], hB.keep hk11 (by have := hS2z; have := hbelw3.size; omega)⟩
  have hQ11 : At w11 (some ⟨gY, 0, none⟩) Y := fun hne => by
   obtain ⟨b, o, e, hB⟩ := hatY hne
   injection e with e
   injection e with e1 e2
   exact ⟨b, o, by rw [← e1, ← e2], hB.keep hk11 (by have := hS2z; have := hbw4.size; omega)⟩
  refine wp_region_tree (.q 0 (.q 2 (.e [1] fun _ => .e [3] fun _ => .e [4] fun _ => .q 5 (.q 6 (.done))))) (fun V => Blk V w.heap.size 45 #[.slice (some ⟨g10, 0, none⟩) 1 cap10, (.slice (some ⟨bt, ot, none⟩) 0 0)]) rfl (by kernel_rfl) (fun _ _ d _ _ h => by cases d <;> exact h) ?_
  change wpT _ _ _ _ _ _ w11.drew
  have hSd : Blk w11.drew w.heap.size 45 #[.slice (some ⟨g10, 0, none⟩) 1 cap10, (.slice (some ⟨bt, ot, none⟩) 0 0)] := hS11
  have hRd : Blk w11.drew (w.heap.size + 1) 45 #[.slice none 0 0, .slice none 0 0] := hR11
  have hBd : Blk w11.drew g10 163 cur10 := hB11
  have hKd : At w11.drew (some ⟨gK, 0, none⟩) K := hK11
  have hXd : At w11.drew (some ⟨gX, 0, none⟩) X := hX11
  have hQd : At w11.drew (some ⟨gY, 0, none⟩) Y := hQ11
  have hYd : Bs w11.drew bt ot Y := hY11
  have hbd : Below w.heap.size w w11.drew := below_drewN (hk11.below (hb2.trans (hbw5.mono hb2.size)) (by have := hS2z; have := hbw5.size; omega) (Nat.le_refl _)) 1
  clear hS11 hR11 hB11 hK11 hX11 hQ11 hY11 hk11
  generalize w11.drew = w12 at *
  refine t_load_row rfl rfl 45 (.tmp 4) rfl w.heap.size rfl 45 #[.slice (some ⟨g10, 0, none⟩) 1 cap10, (.slice (some ⟨bt, ot, none⟩) 0 0)] hSd (fun W hW => hW) _ Tryz.underlying45 rfl (by rw [info_book]; rfl) ?_
  go_simp
  refine t_q rfl rfl hSd _ (fun W hW => by (go_simp; rfl)) ?_
  go_simp
  refine t_e rfl rfl fun K hK => ?_
  go_simp
  refine hK _ _ (hSd.alloc _) ?_
  clear hK K
  refine t_e rfl rfl fun K hK => ?_
  have hbu := (Below.refl w12.heap.size w12).alloc (Nat.le_refl _) (.cells #[] 5)
  refine op_append_nums (.tmp 130) (.tmp 131) 22 rfl .u8 5 1 Tryz.underlying22 info_byte w12.heap.size w12 _ [] rfl (OwnN.start 5 .u8 w12 w12.heap.size (Nat.le_refl _)) hbu hbu.size _ 16 16 Y rfl hyl ⟨_, _, rfl, hYd.below hbu (by have := hbd.size; omega)⟩ (by simp only [List.length_nil]; omega) (by omega) fun vY w13 hown13 hbel13 _ => ?_
  rw [List.nil_append] at hown13
  have hS13 := hSd.below hbel13 hSd.lt
  have hR13 := hRd.below hbel13 hRd.lt
  have hbd13 := hbd.trans (hbel13.mono hbd.size)
  refine hK _ _ hS13 ?_
  clear hK K
  refine t_e rfl rfl fun K hK => ?_
  refine op_store_row 45 (.tmp 8) (.tmp 129) rfl (w.heap.size + 1) #[.slice (some ⟨g10, 0, none⟩) 1 cap10, (.slice (some ⟨bt, ot, none⟩) 0 0)] rfl rfl 45 #[.slice none 0 0, .slice none 0 0] hR13 (by rw [info_book]; rfl) rfl (by simp [Value.oneCell']) fun w14 hB14 hO14 => ?_
  refine hK _ _ (hS13.only hO14 (by omega)) ?_
  clear hK K
  go_simp
  iterate 2 (refine t_q rfl rfl (hS13.only hO14 (by omega)) _ (fun W hW => by (go_simp; rfl)) ?_; go_simp)
  refine t_done ?_
  have hbF := hO14.below hbd13 (by omega)
  have hneR : g10 ≠ w.heap.size + 1 := fun e => by
   have h1 := hBd
   have h2 := hRd
   unfold Blk at h1 h2
   rw [e, h2] at h1
   cases h1
  have hz2 : w2.heap.size = w.heap.size + 2 := by rw [HZ2.out, HS0.out]
  have hBF := (hBd.below hbel13 hBd.lt).only hO14 hneR
  have hKF := (hKd.below hbel13 (Nat.le_refl _)).onlyG hO14 (by omega)
  have hXF := (hXd.below hbel13 (Nat.le_refl _)).onlyG hO14 (by have := hbelw3.size; omega)
  have hQF := (hQd.below hbel13 (Nat.le_refl _)).onlyG hO14 (by have := hbw4.size; omega)
  have hOF : Own w14 w.heap.size vY Y := (Own.onlyB (OwnN.bytes hown13) hO14 hRd.lt).more hbd.size
  have hROW : RowR w14 (some ⟨g10, 0, none⟩) K Y X := RowR.of hBF (by rw [hK, hX, hyl]; exact ht10) hKF hQF hXF
  go_wp2_with (first | (refine bodyPost_ret (results_cell3 rfl _ _ (w.heap.size + 1) 45 _ _ rfl hB14 Tryz.underlying45 rfl (by rw [info_book]; rfl)) rfl ?_; exact ⟨⟨_, _, _, _, _, rfl, hROW, HAD.out _ hbF, by omega, hOF⟩, hbF⟩)))

set_option maxHeartbeats 4000000 in
set_option maxRecDepth 100000 in
theorem refAsk0_ok (K X T : List Nat) (kl m : Nat) (hK : K.length = kl) (hk0 : 0 < kl) (hk9 : kl ≤ 1000) (hX : X.length = 16) (hT : T.length = m) (h16 : 16 ≤ m) (hm : m ≤ 100000) (back : Bool) (AK AX : Option Addr) (bt ot cK cX cT : Nat) (hcT : m ≤ cT) (w : World) (hAK : At w AK K) (hAX : At w AX X) (hAT : Bs w bt ot T) :
    Calls Tryz.prog 67 #[.agg #[.slice none 0 0, .slice (some ⟨bt, ot, none⟩) m cT], .slice AK kl cK, .slice AX 16 cX, .bool back] w fun e w' =>
     (∃ R cR A' cT' v, e = .returned (.tuple #[.agg #[.slice R 1 cR, .slice A' (m - 16) cT'], v, .bool true]) ∧ RowR w' R K (if back then T.take 16 else X) (if back then X else T.take 16) ∧ At w' A' (T.drop 16) ∧ m - 16 ≤ cT' ∧ Own w' w.heap.size v (T.take 16)) ∧ Below w.heap.size w w' := by
 by_cases hc : cT = 16
 ·
  obtain rfl : m = 16 := by omega
  subst hc
  cases back
  ·
   exact refAsk0_tf K X T kl hK hk0 hk9 hX hT AK AX bt ot cK cX w hAK hAX hAT
  ·
   exact refAsk0_tt K X T kl hK hk0 hk9 hX hT AK AX bt ot cK cX w hAK hAX hAT
 ·
  cases back
  ·
   exact refAsk0_ff K X T kl m hK hk0 hk9 hX hT h16 hm AK AX bt ot cK cX cT hcT hc w hAK hAX hAT
  ·
   exact refAsk0_ft K X T kl m hK hk0 hk9 hX hT h16 hm AK AX bt ot cK cX cT hcT hc w hAK hAX hAT
end Go.Proofs.YthodpjcdmdbnoaaGreatDoor
