/- The contract of aes.Words, of a key of 16 bytes. -/
import Derived.Test.YtnkgglmfoimbhaaGreatDoorAesB
import Derived.Test.YtnkgglmfoimbhaaGreatDoorTail
import Derived.Test.YtnkgglmfoimbhaaGreatDoorBlk
namespace Go.Proofs.YtnkgglmfoimbhaaGreatDoor.Pr

def lastT (w : List Nat) : List Nat := w.drop (w.length - 4)
def tailG (w : List Nat) (n p : Nat) : List Nat := if n % 4 = 0 then [boxG ((lastT w).getD 1 0) ^^^ p, boxG ((lastT w).getD 2 0), boxG ((lastT w).getD 3 0), boxG ((lastT w).getD 0 0)] else lastT w
def nextW (w t : List Nat) : Nat → List Nat
  | 0 => w
  | k + 1 => nextW w t k ++ [(nextW w t k).getD (w.length - 16 + k) 0 ^^^ t.getD k 0]
def wordsTo (key : List Nat) : Nat → List Nat × Nat
  | 0 => (key, 1)
  | n + 1 => (nextW (wordsTo key n).1 (tailG (wordsTo key n).1 n (wordsTo key n).2) 4, if n % 4 = 0 then mulG (wordsTo key n).2 2 else (wordsTo key n).2)
def wordsG (key : List Nat) : List Nat := (wordsTo key 40).1
theorem nextW_len (w t : List Nat) : ∀ k, (nextW w t k).length = w.length + k
  | 0 => rfl
  | k + 1 => by unfold nextW; rw [List.length_append, nextW_len w t k]; rfl
theorem nextW_byt {w t : List Nat} (hw : Byt w) (ht : Byt t) : ∀ k, Byt (nextW w t k)
  | 0 => hw
  | k + 1 => by
    have ih := nextW_byt hw ht k
    intro c hc
    unfold nextW at hc
    rcases List.mem_append.1 hc with hc | hc
    · exact ih c hc
    · obtain rfl := List.mem_singleton.1 hc
      exact xor_lt8 (ih.at_ _) (ht.at_ _)
theorem lastT_len {w : List Nat} (h : 4 ≤ w.length) : (lastT w).length = 4 := by simp [lastT]; omega
theorem lastT_byt {w : List Nat} (h : Byt w) : Byt (lastT w) := fun c hc => h c (List.mem_of_mem_drop hc)
theorem tailG_byt {w : List Nat} (h : Byt w) (n : Nat) {p : Nat} (hp : p < 256) : Byt (tailG w n p) := by
  unfold tailG
  split
  · have hl := lastT_byt h
    intro c hc
    simp only [List.mem_cons, List.not_mem_nil, or_false] at hc
    rcases hc with rfl | rfl | rfl | rfl
    · exact xor_lt8 (boxG_lt _ (hl.at_ _)) hp
    · exact boxG_lt _ (hl.at_ _)
    · exact boxG_lt _ (hl.at_ _)
    · exact boxG_lt _ (hl.at_ _)
  · exact lastT_byt h
theorem tailG_len {w : List Nat} (h : 4 ≤ w.length) (n p : Nat) : (tailG w n p).length = 4 := by
  unfold tailG
  split
  · rfl
  · exact lastT_len h
theorem wordsTo_ok {key : List Nat} (hb : Byt key) : ∀ n, (wordsTo key n).1.length = key.length + 4 * n ∧ Byt (wordsTo key n).1 ∧ (wordsTo key n).2 < 256
  | 0 => ⟨rfl, hb, by show 1 < 256; omega⟩
  | n + 1 => by
    obtain ⟨h1, h2, h3⟩ := wordsTo_ok hb n
    unfold wordsTo
    refine ⟨by rw [nextW_len, h1]; omega, nextW_byt h2 (tailG_byt h2 n h3) 4, ?_⟩
    show (if n % 4 = 0 then mulG (wordsTo key n).2 2 else (wordsTo key n).2) < 256
    split
    · exact mulG_lt _ _ h3
    · exact h3
theorem wordsG_len {key : List Nat} (hb : Byt key) (h : key.length = 16) : (wordsG key).length = 176 := by
  rw [wordsG, (wordsTo_ok hb 40).1, h]
theorem wordsG_byt {key : List Nat} (hb : Byt key) : Byt (wordsG key) := (wordsTo_ok hb 40).2.1
end Go.Proofs.YtnkgglmfoimbhaaGreatDoor.Pr
namespace Go.Proofs.YtnkgglmfoimbhaaGreatDoor
open Go Go.RowKit Pr

theorem Ns.grownW {kd : IntKind} {w w' : World} {b o : Nat} {l : List Nat} {row : Option Nat} (h : Ns kd w b o l) (hg : w.grownBy w' row) (hb : b < w.heap.size) (hne : some b ≠ row) : Ns kd w' b o l :=
  fun j v hv => (World.cell?_of_block (a := ⟨b, o + j, none⟩) (hg.block b hb hne)).trans (h j v hv)
theorem op_append_numsW {P : Program} {Q : Exit → Act → World → Prop} {K : Act → World → Prop} {op : Oper} {a : Act} {w : World} (s x : Operand) (t : TypeId) (ho : op.op = .call { callee := .builtin .append, args := #[s, x], argTypes := #[t, t] })
    (kd : IntKind) (e : TypeId) (bytes : Nat) (ht : P.underlying t = some (.slice e)) (hinfo : (P.info? e).map (fun i => (i.zero, i.size, i.bytes)) = some (some (.int kd 0), 1, bytes))
    (B : Nat) (w0 : World) (v : Value) (l : List Nat) (hs : a.eval s = v) (hown : OwnN e kd w B v l) (hbel : Below B w0 w) (hB : B ≤ w.heap.size)
    (A : Option Addr) (m c : Nat) (l2 : List Nat) (hx : a.eval x = .slice A m c) (hm : l2.length = m) (hA : ∃ b o, A = some ⟨b, o, none⟩ ∧ Ns kd w b o l2)
    (h63 : l.length + m ≤ 1000000000) (hby : bytes ≤ 1000)
    (h : ∀ v' w', OwnN e kd w' B v' (l ++ l2) → Below B w0 w' → w.grownBy w' v.ownBlock → (v'.ownBlock = v.ownBlock ∨ v'.ownBlock = some w.heap.size) → K (a.put op.dst v') w') : op.wp P a w K Q := by
  obtain ⟨b, o, rfl, hN⟩ := hA
  obtain ⟨i0, hi, hz0, hz1, hz2⟩ := info_parts hinfo
  have h63' : l.length + m ≤ maxLen := by unfold maxLen; omega
  have hbytes : (l.length + m) * bytes ≤ 140737488355328 := by have := Nat.mul_le_mul h63 hby; omega
  obtain ⟨v', w', hr, h1, h2, _, h5⟩ := run_append_own_at (P := P) w B t op.type e i0 (.int kd 0) 1 bytes ht hi hz0 hz1 hz2 rfl (by decide) v l.length (numCells kd l).toList hown ⟨b, o, none⟩ m c (numCells kd l2).toList (by simp [numCells, hm])
    (fun j u hj => by have := hN j u hj; rwa [Addr.add_mid]) (fun u hu => by
      simp only [numCells, List.mem_map] at hu
      obtain ⟨c, _, rfl⟩ := hu
      rfl) h63' hbytes hB
  unfold Oper.wp execOp
  simp only [ho, resolve, invoke, builtin, Sem.run_bind, Sem.run_pure, Result.andThen_ok, List.map_toArray, List.map_cons, List.map_nil, hs, hx, hr]
  refine h v' w' ?_ (hbel.grown h2 hB (fun g hg => (World.ownsRow.lt hown g hg).1)) h2 h5
  unfold OwnN
  rw [List.length_append, hm]
  have e1 : (numCells kd (l ++ l2)).toList = (numCells kd l).toList ++ (numCells kd l2).toList := by simp [numCells]
  rw [e1]
  exact h1


set_option maxHeartbeats 8000000 in
set_option maxRecDepth 100000 in
theorem words_any (key : List Nat) (hl : key.length = 16) (hb : Byt key) (A : Option Addr) (cp : Nat) (w : World) (hA : At w A key) :
    Calls Tryz.prog 130 #[.slice A 16 cp] w fun e w' => (∃ v, e = .returned (.tuple #[v, .nilIface]) ∧ Own w' w.heap.size v (wordsG key)) ∧ Below w.heap.size w w' := by
  obtain ⟨ka, ko, rfl, hK⟩ := hA (by intro h; rw [h] at hl; cases hl)
  have hK1 : Bs (w.alloc (.cells #[] 5)) ka ko key := hK.alloc _
  have HOK := Lib.hid (fun n => wordsTo_ok hb n)
  have HKL := Lib.hid hl; clear hl hA
  have HR := Lib.hid (fun A cp W => rounds16 A cp W)
  have harr : ∀ a c W, (Instr.arrayAt 208 (.slice a 4 c)).run Tryz.prog W = .ok (.pointer a) W := fun a c W => run_arrayAt _ 5 4 Tryz.underlying208 a 4 c (Nat.le_refl _) W
  go_enter Tryz.func130, Tryz.ntmps130
  go_wp2_with fail
  refine (HR.out _ _ _).mono ?_
  rintro e w1 ⟨rfl, rfl⟩
  go_wp2_with (at_builtin; go_loud (refine wpList_append_nums rfl (.tmp 20) (.tmp 21) 31 rfl .u8 5 1 Tryz.underlying31 info_byte w.heap.size w _ [] rfl (OwnN.start 5 .u8 w w.heap.size (Nat.le_refl _)) ((Below.refl _ _).alloc (Nat.le_refl _) _) (by simp) _ 16 cp key rfl HKL.out ⟨_, _, rfl, hK1⟩ (by simp) (by omega) ?_); intro v5 w5 hown5 hbel5 hsz5)
  rw [List.nil_append] at hown5
  clear hK1 hK
  go_loopw [6, 7, 8] (fun v p i wr => ∃ n : Nat, n ≤ 40 ∧ i = .int .i64 (n + 4 : Nat) ∧ p = .int .u8 ((wordsTo key n).2 : Nat) ∧ OwnN 5 .u8 wr w.heap.size v (wordsTo key n).1 ∧ Below w.heap.size w wr) (fun _ _ i _ => 44 - (intOf i).toNat)
  case atStart => exact ⟨0, by omega, rfl, rfl, hown5, hbel5⟩
  case round =>
    obtain ⟨n, hn, rfl, rfl, hown, hbel⟩ := hrel
    obtain ⟨hWl, hWb, hPl⟩ := HOK.out n
    rw [HKL.out] at hWl
    have hnx : wordsTo key (n + 1) = (nextW (wordsTo key n).1 (tailG (wordsTo key n).1 n (wordsTo key n).2) 4, if n % 4 = 0 then mulG (wordsTo key n).2 2 else (wordsTo key n).2) := rfl
    by_cases hlt : n < 40
    · generalize (wordsTo key n).1 = W at *
      generalize (wordsTo key n).2 = P at *
      have HNX := Lib.hid hnx; clear hnx hown5 hbel5 hsz5
      obtain ⟨g, cap, rfl, hg, hcap, hgl, hBW⟩ := (OwnN.bytes hown).form (by intro h; rw [h] at hWl; simp at hWl; omega)
      obtain ⟨X, hX⟩ : ∃ X, W.length = X + 4 := ⟨W.length - 4, by omega⟩
      have hTl := lastT_len (w := W) (by omega)
      have hTb := lastT_byt hWb
      have hX12 : 12 ≤ X := by omega
      have hXle : X ≤ 168 := by omega
      have HXN : Hid (X = 12 + 4 * n) := by show X = 12 + 4 * n; omega
      rw [hX] at hown hcap ⊢
      clear hWl
      have hBT : Bs wr g X (lastT W) := by
        have := hBW.sub X 4
        rw [Nat.zero_add] at this
        rw [show (W.drop X).take 4 = lastT W by unfold lastT; rw [hX, show X + 4 - 4 = X by omega]; exact List.take_of_length_le (by simp; omega)] at this
        exact this
      have hTs := Lib.hid (size_byteCells (lastT W))
      have hsT : tailG W n P = if n % 4 = 0 then [boxG ((lastT W).getD 1 0) ^^^ P, boxG ((lastT W).getD 2 0), boxG ((lastT W).getD 3 0), boxG ((lastT W).getD 0 0)] else lastT W := rfl
      have HST := Lib.hid hsT; clear hsT
      have HTB := Lib.hid hTb; clear hTb
      have HTL := Lib.hid hTl; clear hTl
      have HWB := Lib.hid hWb; clear hWb
      have HXW := Lib.hid hX; clear hX
      obtain ⟨wo, rfl⟩ : ∃ wo, wo = wr := ⟨_, rfl⟩
      by_cases h4 : n % 4 = 0
      · have hTl2 := tailG_len (w := W) (by rw [HXW.out]; omega) n P
        have hTb2 := tailG_byt HWB.out n hPl
        have HX2 : Hid (wordsTo key (n + 1) = (nextW W (tailG W n P) 4, mulG P 2)) := by
          have h1 := HNX.out
          rw [if_pos h4] at h1
          exact h1
        have hst2 := HST.out
        rw [if_pos h4] at hst2
        clear HNX HST
        have hcc : ∀ V : World, Blk V wo.heap.size 208 (byteCells (lastT W)) → ∀ j, j < 4 → V.cell? ⟨wo.heap.size, j, none⟩ = some (.int .u8 ((lastT W).getD j 0 : Nat)) := fun V hV j hj => by
          rw [hV.cell j, cellD _ j (by rw [HTL.out]; exact hj)]
        have z0 := HTB.out.at_ 0
        have z1 := HTB.out.at_ 1
        have z2 := HTB.out.at_ 2
        have z3 := HTB.out.at_ 3
        have c0 := fun V hV => hcc V hV 0 (by omega)
        have c1 := fun V hV => hcc V hV 1 (by omega)
        have c2 := fun V hV => hcc V hV 2 (by omega)
        have c3 := fun V hV => hcc V hV 3 (by omega)
        clear hcc
        generalize (lastT W).getD 0 0 = y0 at *
        generalize (lastT W).getD 1 0 = y1 at *
        generalize (lastT W).getD 2 0 = y2 at *
        generalize (lastT W).getD 3 0 = y3 at *
        have B0 := Lib.hid (fun V => gfbox_any y0 z0 V)
        have B1 := Lib.hid (fun V => gfbox_any y1 z1 V)
        have B2 := Lib.hid (fun V => gfbox_any y2 z2 V)
        have B3 := Lib.hid (fun V => gfbox_any y3 z3 V)
        have hxx := u8_xor_nat (boxG y1) P (boxG_lt _ z1) hPl
        have hMU := Lib.hid (fun V => mul_any P 2 hPl (by omega) V)
        generalize boxG y0 = b0 at *
        generalize boxG y1 = b1 at *
        generalize boxG y2 = b2 at *
        generalize boxG y3 = b3 at *
        generalize b1 ^^^ P = b1x at *
        generalize mulG P 2 = P2 at *
        have HST2 := Lib.hid hst2; clear hst2
        have C0 := Lib.hid c0; clear c0
        have C1 := Lib.hid c1; clear c1
        have C2 := Lib.hid c2; clear c2
        have C3 := Lib.hid c3; clear c3
        go_wp2_with (first
          | (refine wpList_load_bs rfl 208 (.tmp 36) rfl g X rfl (lastT W) hBT _ Tryz.underlying208 rfl (by rw [info_4u8, HTL.out]) ?_)
          | (refine wpList_store_all rfl 208 (.tmp 9) (.tmp 37) rfl wo.heap.size (byteCells (lastT W)) rfl rfl 208 _ (Blk.new wo _ _) (by rw [info_4u8, hTs.out, HTL.out]) (by rw [hTs.out, HTL.out]; rfl) (bytes_one _) ?_; intro w6 hB6 hO6))
        have hb6 : Below wo.heap.size wo w6 := hO6.below ((Below.refl wo.heap.size wo).alloc (Nat.le_refl _) _) (Nat.le_refl _)
        have hs6 := hO6.size
        rw [World.size_alloc] at hs6
        have hmm : ((n : Int) + 4) % 4 = (n : Int) % 4 := by omega
        rw [hmm]
        clear hmm
        have hmz : (n : Int) % 4 = 0 := by omega
        rw [hmz]
        clear hmz
        have hzz : ((0 : Int) == 0) = true := rfl
        rw [hzz]
        clear hzz
        clear hO6
        refine wp_region_last (.q 0 (.q 1 (.q 3 (.q 5 (.q 6 (.q 8 (.q 9 (.q 11 (.q 12 (.e [2] fun _ => .q 4 (.e [7] fun _ => .e [10] fun _ => .e [13] fun _ => .q 14 (.e [15] fun _ => .done))))))))))))
          (fun V => Blk V wo.heap.size 208 (byteCells (lastT W))) 15 rfl (by kernel_rfl) (fun _ _ d _ _ h => by cases d <;> exact h) ?_
        change wpS _ _ _ _ _ _ _ w6.drew
        have hBd : Blk w6.drew wo.heap.size 208 (byteCells (lastT W)) := hB6
        refine s_q rfl rfl hB6 _ (fun V hV => by (go_simp; rfl)) ?_
        go_simp
        refine s_q rfl rfl hB6 (.int .u8 (y1 : Int)) (fun V hV => by (have hc := C1.out V hV; go_simp)) ?_
        go_simp
        refine s_q rfl rfl hB6 _ (fun V hV => by (go_simp; rfl)) ?_
        go_simp
        refine s_q rfl rfl hB6 _ (fun V hV => by (go_simp; rfl)) ?_
        go_simp
        refine s_q rfl rfl hB6 (.int .u8 (y2 : Int)) (fun V hV => by (have hc := C2.out V hV; go_simp)) ?_
        go_simp
        refine s_q rfl rfl hB6 _ (fun V hV => by (go_simp; rfl)) ?_
        go_simp
        refine s_q rfl rfl hB6 (.int .u8 (y3 : Int)) (fun V hV => by (have hc := C3.out V hV; go_simp)) ?_
        go_simp
        refine s_q rfl rfl hB6 _ (fun V hV => by (go_simp; rfl)) ?_
        go_simp
        refine s_q rfl rfl hB6 (.int .u8 (y0 : Int)) (fun V hV => by (have hc := C0.out V hV; go_simp)) ?_
        go_simp
        refine s_e rfl rfl fun K hK => ?_
        go_simp
        refine (B1.out _).mono ?_
        rintro e wx1 ⟨rfl, mx1, rfl⟩
        refine hK _ _ (fun _ => hB6) ?_
        clear hK K
        go_simp
        refine s_q rfl rfl hB6 _ (fun V hV => by (go_simp; rfl)) ?_
        go_simp
        refine s_e rfl rfl fun K hK => ?_
        go_simp
        refine (B2.out _).mono ?_
        rintro e wx2 ⟨rfl, mx2, rfl⟩
        refine hK _ _ (fun _ => hB6) ?_
        clear hK K
        go_simp
        refine s_e rfl rfl fun K hK => ?_
        go_simp
        refine (B3.out _).mono ?_
        rintro e wx3 ⟨rfl, mx3, rfl⟩
        refine hK _ _ (fun _ => hB6) ?_
        clear hK K
        go_simp
        refine s_e rfl rfl fun K hK => ?_
        go_simp
        refine (B0.out _).mono ?_
        rintro e wx4 ⟨rfl, mx4, rfl⟩
        refine hK _ _ (fun _ => hB6) ?_
        clear hK K
        go_simp
        refine s_q rfl rfl hB6 _ (fun V hV => by (go_simp; rfl)) ?_
        go_simp
        refine s_e rfl rfl fun K hK => ?_
        refine op_store_row 208 (.tmp 9) (.tmp 57) rfl wo.heap.size (byteCells [b1x, b2, b3, b0]) rfl rfl 208 _ (Blk.drewN hB6 _) (by rw [info_4u8]; rfl) (by rw [hTs.out, HTL.out]; rfl) (bytes_one _) fun w7 hB7 hO7 => ?_
        refine hK _ _ (fun h => absurd rfl h) ?_
        clear hK K
        refine s_done ?_
        go_wp2_with fail
        refine (hMU.out _).mono ?_
        rintro e w8 ⟨rfl, rfl⟩
        go_wp2
        have hb7 : Below wo.heap.size wo w7 := hO7.below (below_drewN hb6 _) (Nat.le_refl _)
        have hs7 : w7.heap.size = wo.heap.size + 1 := hO7.size.trans hs6
        clear hs6
        have hs6 := hs7
        have hown6 := OwnN.below hown hb7 (Nat.le_refl _)
        have hbel6 : Below w.heap.size w w7 := hbel.trans (hb7.mono hbel.size)
        have hap6 : (Value.slice (some ⟨g, 0, none⟩) (X + 4) cap).ownBlock ≠ some wo.heap.size := fun e => by have := (World.ownsRow.lt hown _ e).2; omega
        have hwo := hbel.size
        obtain ⟨T, hT⟩ : ∃ T, tailG W n P = T := ⟨_, rfl⟩
        rw [hT] at HX2 hTl2 hTb2
        rw [← HST2.out, hT] at hB7
        have HTL2 := Lib.hid hTl2; clear hTl2
        have HTB2 := Lib.hid hTb2; clear hTb2
        clear hT hown hbel hBW hBT hO7 hb6 hb7 hBd hcap hTs HTB HTL HST2 C0 C1 C2 C3 B0 B1 B2 B3 hMU hB6 hxx
        go_loopw [6, 78] (fun v i wv => ∃ k : Nat, k ≤ 4 ∧ i = .int .i64 k ∧ OwnN 5 .u8 wv w.heap.size v (nextW W T k) ∧ Hid (v.ownBlock ≠ some wo.heap.size) ∧ Blk wv wo.heap.size 208 (byteCells T) ∧ Below w.heap.size w wv ∧ wo.heap.size < wv.heap.size) (fun _ i _ => 4 - (intOf i).toNat)
        case atStart => exact ⟨0, by omega, rfl, hown6, hap6, hB7, hbel6, by omega⟩
        case round =>
          obtain ⟨k, hk, rfl, hown, hap, hBT, hbel, hws⟩ := hrel
          clear hown6 hap6 hB7 hbel6 hs6
          by_cases hkl : k < 4
          · have hnl := nextW_len W T k
            rw [HXW.out] at hnl
            obtain ⟨Z, hZ⟩ : ∃ Z, X + 4 - 16 + k = Z := ⟨_, rfl⟩
            have hnl2 : (nextW W T k).length = Z + 16 := by omega
            have hZl : Z ≤ 200 := by omega
            obtain ⟨g2, cap2, rfl, hg2, hcap2, hgl2, hBN⟩ := (OwnN.bytes hown).form (by intro h; rw [h] at hnl2; simp at hnl2)
            have hsn : nextW W T (k + 1) = nextW W T k ++ [(nextW W T k).getD Z 0 ^^^ T.getD k 0] := by rw [← hZ, ← HXW.out]; rfl
            rw [hnl2] at hcap2 hown hap ⊢
            have hc1 : wr.drew.cell? ⟨g2, Z, none⟩ = some (.int .u8 ((nextW W T k).getD Z 0 : Nat)) := by
              have := hBN.cellD Z (by omega)
              rw [Nat.zero_add] at this
              exact this
            have hc2 : wr.drew.cell? ⟨wo.heap.size, k, none⟩ = some (.int .u8 (T.getD k 0 : Nat)) := by
              have := hBT.cell k
              rw [cellD _ k (by rw [HTL2.out]; exact hkl)] at this
              exact this
            have hkI : (k : Int) < 4 := by omega
            have hZlt : Z < Z + 16 := by omega
            have hZlI : (Z : Int) < (Z : Int) + 16 := by omega
            have e5 : IntKind.i64.wrap 16 = 16 := IntWalk.i64_in _ (by omega)
            have e6 : IntKind.i64.wrap (Z : Int) = (Z : Int) := IntWalk.i64_in _ (by omega)
            have e7 : IntKind.i64.wrap ((Z : Int) + 16 - 16) = (Z : Int) := by rw [IntWalk.i64_in _ (by omega)]; omega
            have hxx := u8_xor_nat ((nextW W T k).getD Z 0) (T.getD k 0) ((nextW_byt HWB.out HTB2.out k).at_ Z) (HTB2.out.at_ k)
            have hxl : (nextW W T k).length + 1 ≤ 1000000000 := by omega
            generalize (nextW W T k).getD Z 0 = x1 at *
            generalize T.getD k 0 = x2 at *
            obtain ⟨NK, hNK⟩ : ∃ NK, nextW W T k = NK := ⟨_, rfl⟩
            rw [hNK] at hown hsn hxl
            have HSN := Lib.hid hsn; clear hsn hNK hnl hnl2 hBN hZ
            have hszr : w.heap.size ≤ wr.heap.size := hbel.size
            have hw2 : wr.drew.heap = wr.heap := rfl
            have hap1 : some wo.heap.size ≠ (Value.slice (some ⟨g2, 0, none⟩) (Z + 16) cap2).ownBlock := fun e => hap.out e.symm
            clear hap
            go_wp2_with fail
            refine wp_region_tree (.q 0 (.q 1 (.q 2 (.q 3 (.q 4 (.q 5 (.q 6 (.q 7 (.q 9 (.q 10 (.q 11 (.e [8] fun _ => .q 12 (.e [13] fun _ => .e [14] fun _ => .q 15 (.done))))))))))))))
              (fun W => W.cell? ⟨wo.heap.size, k, none⟩ = some (.int .u8 (x2 : Int))) rfl (by kernel_rfl) (fun _ _ d _ _ h => by cases d <;> exact h) ?_
            change wpT _ _ _ _ _ _ wr.drew
            iterate 10 (refine t_q rfl rfl hc2 _ (fun W hW => by (go_simp; rfl)) ?_; go_simp)
            refine t_q rfl rfl hc2 (.int .u8 (x2 : Int)) (fun W hW => by (go_simp)) ?_
            go_simp
            refine t_e rfl rfl fun K hK => ?_
            go_simp
            refine hK _ _ hc2 ?_
            clear hK K
            go_simp
            refine t_q rfl rfl hc2 _ (fun W hW => by (go_simp; rfl)) ?_
            go_simp
            refine t_e rfl rfl fun K hK => ?_
            go_simp
            have hc3 : (wr.drew.alloc (.cells #[.int .u8 ((x1 ^^^ x2 : Nat) : Int)] 5)).cell? ⟨wo.heap.size, k, none⟩ = some (.int .u8 (x2 : Int)) := by
              rw [World.cell?_alloc_lt _ _ _ (by show wo.heap.size < wr.heap.size; exact hws)]
              exact hc2
            refine hK _ _ hc3 ?_
            clear hK K
            change wpT _ _ _ _ _ _ (wr.drew.alloc (.cells #[.int .u8 ((x1 ^^^ x2 : Nat) : Int)] 5))
            have hown4 : OwnN 5 .u8 (wr.drew.alloc (.cells #[.int .u8 ((x1 ^^^ x2 : Nat) : Int)] 5)) w.heap.size _ NK := OwnN.below hown ((below_drewN (Below.refl wr.heap.size wr) 1).alloc (Nat.le_refl _) _) (Nat.le_refl _)
            refine t_e rfl rfl fun K hK => ?_
            refine op_append_numsW (.tmp 81) (.tmp 94) 31 rfl .u8 5 1 Tryz.underlying31 info_byte w.heap.size w _ NK rfl hown4 ((below_drewN hbel 1).alloc hszr _) (by simp; omega) _ 1 1 [x1 ^^^ x2] rfl rfl ⟨_, _, rfl, Ns.new .u8 wr.drew 5 (x1 ^^^ x2)⟩ hxl (by omega) fun v6 w6 hown6 hbel6 hgr6 hob6 => ?_
            rw [← HSN.out] at hown6
            have hgs := hgr6.size
            rw [World.size_alloc] at hgs
            have hblk : ∀ i, i = wo.heap.size → w6.heap[i]? = (wr.drew.alloc (.cells #[.int .u8 ((x1 ^^^ x2 : Nat) : Int)] 5)).heap[i]? := fun i hi => hgr6.block i (by rw [World.size_alloc, hi]; show wo.heap.size < wr.heap.size + 1; omega) (by rw [hi]; exact hap1)
            have hc4 : w6.cell? ⟨wo.heap.size, k, none⟩ = some (.int .u8 (x2 : Int)) := (World.cell?_of_block (a := ⟨wo.heap.size, k, none⟩) (hblk _ rfl)).trans hc3
            have hBT6 : Blk w6 wo.heap.size 208 (byteCells T) := (hblk _ rfl).trans ((hBT.drewN 1).alloc _)
            have hap6 : v6.ownBlock ≠ some wo.heap.size := fun e => by
              rcases hob6 with h | h
              · exact hap1 (h.symm.trans e).symm
              · rw [h] at e; injection e with e; rw [World.size_alloc] at e; have : wr.drew.heap.size = wr.heap.size := rfl; omega
            have hws6 : wo.heap.size < w6.heap.size := by have : wr.drew.heap.size = wr.heap.size := rfl; omega
            have HB6 := Lib.hid hBT6
            clear hgr6 hob6 hblk hBT6 hc1 hc2 hc3 hap1 hown hown4 hgs
            refine hK _ _ hc4 ?_
            clear hK K
            go_simp
            refine t_q rfl rfl hc4 _ (fun W hW => by (go_simp; rfl)) ?_
            go_simp
            refine t_done ?_
            go_wp2
            go_roundw
            case rel => exact ⟨k + 1, by omega, by go_num, hown6, hap6, HB6.out, hbel6, hws6⟩
            case measure => simp [intOf]; omega
          · obtain rfl : k = 4 := by omega
            have hfin : (wordsTo key (n + 1)).1 = nextW W T 4 := by rw [HX2.out]
            have hfin2 : (wordsTo key (n + 1)).2 = P2 := by rw [HX2.out]
            go_wp2
            go_roundw
            case rel => exact ⟨n + 1, by omega, by go_num, by rw [hfin2], by rw [hfin]; exact hown, hbel⟩
            case measure => simp [intOf]; omega
      · have HX2 : Hid (wordsTo key (n + 1) = (nextW W (lastT W) 4, P)) := by
          have h1 := HNX.out
          have h2 := HST.out
          rw [if_neg h4] at h1 h2
          rw [h2] at h1
          exact h1
        clear HNX HST
        go_wp2_with (first
          | (refine wpList_load_bs rfl 208 (.tmp 36) rfl g X rfl (lastT W) hBT _ Tryz.underlying208 rfl (by rw [info_4u8, HTL.out]) ?_)
          | (refine wpList_store_all rfl 208 (.tmp 9) (.tmp 37) rfl wo.heap.size (byteCells (lastT W)) rfl rfl 208 _ (Blk.new wo _ _) (by rw [info_4u8, hTs.out, HTL.out]) (by rw [hTs.out, HTL.out]; rfl) (bytes_one _) ?_; intro w6 hB6 hO6))
        have hb6 : Below wo.heap.size wo w6 := hO6.below ((Below.refl wo.heap.size wo).alloc (Nat.le_refl _) _) (Nat.le_refl _)
        have hs6 := hO6.size
        rw [World.size_alloc] at hs6
        have hown6 := OwnN.below hown hb6 (Nat.le_refl _)
        have hbel6 : Below w.heap.size w w6 := hbel.trans (hb6.mono hbel.size)
        have hap6 : (Value.slice (some ⟨g, 0, none⟩) (X + 4) cap).ownBlock ≠ some wo.heap.size := fun e => by have := (World.ownsRow.lt hown _ e).2; omega
        have hwo := hbel.size
        obtain ⟨T, hT⟩ : ∃ T, lastT W = T := ⟨_, rfl⟩
        rw [hT] at hB6 HX2 HTB HTL
        clear hT hown hbel hBW hBT hO6 hb6 hcap hTs
        have hmm : ((n : Int) + 4) % 4 = (n : Int) % 4 := by omega
        rw [hmm]
        clear hmm
        have hmz : ((n : Int) % 4 == 0) = false := by rw [beq_eq_false_iff_ne]; omega
        rw [hmz]
        clear hmz
        go_loopw [6, 78] (fun v i wv => ∃ k : Nat, k ≤ 4 ∧ i = .int .i64 k ∧ OwnN 5 .u8 wv w.heap.size v (nextW W T k) ∧ Hid (v.ownBlock ≠ some wo.heap.size) ∧ Blk wv wo.heap.size 208 (byteCells T) ∧ Below w.heap.size w wv ∧ wo.heap.size < wv.heap.size) (fun _ i _ => 4 - (intOf i).toNat)
        case atStart => exact ⟨0, by omega, rfl, hown6, hap6, hB6, hbel6, by omega⟩
        case round =>
          obtain ⟨k, hk, rfl, hown, hap, hBT, hbel, hws⟩ := hrel
          clear hown6 hap6 hB6 hbel6 hs6
          by_cases hkl : k < 4
          · have hnl := nextW_len W T k
            rw [HXW.out] at hnl
            obtain ⟨Z, hZ⟩ : ∃ Z, X + 4 - 16 + k = Z := ⟨_, rfl⟩
            have hnl2 : (nextW W T k).length = Z + 16 := by omega
            have hZl : Z ≤ 200 := by omega
            obtain ⟨g2, cap2, rfl, hg2, hcap2, hgl2, hBN⟩ := (OwnN.bytes hown).form (by intro h; rw [h] at hnl2; simp at hnl2)
            have hsn : nextW W T (k + 1) = nextW W T k ++ [(nextW W T k).getD Z 0 ^^^ T.getD k 0] := by rw [← hZ, ← HXW.out]; rfl
            rw [hnl2] at hcap2 hown hap ⊢
            have hc1 : wr.drew.cell? ⟨g2, Z, none⟩ = some (.int .u8 ((nextW W T k).getD Z 0 : Nat)) := by
              have := hBN.cellD Z (by omega)
              rw [Nat.zero_add] at this
              exact this
            have hc2 : wr.drew.cell? ⟨wo.heap.size, k, none⟩ = some (.int .u8 (T.getD k 0 : Nat)) := by
              have := hBT.cell k
              rw [cellD _ k (by rw [HTL.out]; exact hkl)] at this
              exact this
            have hkI : (k : Int) < 4 := by omega
            have hZlt : Z < Z + 16 := by omega
            have hZlI : (Z : Int) < (Z : Int) + 16 := by omega
            have e5 : IntKind.i64.wrap 16 = 16 := IntWalk.i64_in _ (by omega)
            have e6 : IntKind.i64.wrap (Z : Int) = (Z : Int) := IntWalk.i64_in _ (by omega)
            have e7 : IntKind.i64.wrap ((Z : Int) + 16 - 16) = (Z : Int) := by rw [IntWalk.i64_in _ (by omega)]; omega
            have hxx := u8_xor_nat ((nextW W T k).getD Z 0) (T.getD k 0) ((nextW_byt HWB.out HTB.out k).at_ Z) (HTB.out.at_ k)
            have hxl : (nextW W T k).length + 1 ≤ 1000000000 := by omega
            generalize (nextW W T k).getD Z 0 = x1 at *
            generalize T.getD k 0 = x2 at *
            obtain ⟨NK, hNK⟩ : ∃ NK, nextW W T k = NK := ⟨_, rfl⟩
            rw [hNK] at hown hsn hxl
            have HSN := Lib.hid hsn; clear hsn hNK hnl hnl2 hBN hZ
            have hszr : w.heap.size ≤ wr.heap.size := hbel.size
            have hw2 : wr.drew.heap = wr.heap := rfl
            have hap1 : some wo.heap.size ≠ (Value.slice (some ⟨g2, 0, none⟩) (Z + 16) cap2).ownBlock := fun e => hap.out e.symm
            clear hap
            go_wp2_with fail
            refine wp_region_tree (.q 0 (.q 1 (.q 2 (.q 3 (.q 4 (.q 5 (.q 6 (.q 7 (.q 9 (.q 10 (.q 11 (.e [8] fun _ => .q 12 (.e [13] fun _ => .e [14] fun _ => .q 15 (.done))))))))))))))
              (fun W => W.cell? ⟨wo.heap.size, k, none⟩ = some (.int .u8 (x2 : Int))) rfl (by kernel_rfl) (fun _ _ d _ _ h => by cases d <;> exact h) ?_
            change wpT _ _ _ _ _ _ wr.drew
            iterate 10 (refine t_q rfl rfl hc2 _ (fun W hW => by (go_simp; rfl)) ?_; go_simp)
            refine t_q rfl rfl hc2 (.int .u8 (x2 : Int)) (fun W hW => by (go_simp)) ?_
            go_simp
            refine t_e rfl rfl fun K hK => ?_
            go_simp
            refine hK _ _ hc2 ?_
            clear hK K
            go_simp
            refine t_q rfl rfl hc2 _ (fun W hW => by (go_simp; rfl)) ?_
            go_simp
            refine t_e rfl rfl fun K hK => ?_
            go_simp
            have hc3 : (wr.drew.alloc (.cells #[.int .u8 ((x1 ^^^ x2 : Nat) : Int)] 5)).cell? ⟨wo.heap.size, k, none⟩ = some (.int .u8 (x2 : Int)) := by
              rw [World.cell?_alloc_lt _ _ _ (by show wo.heap.size < wr.heap.size; exact hws)]
              exact hc2
            refine hK _ _ hc3 ?_
            clear hK K
            change wpT _ _ _ _ _ _ (wr.drew.alloc (.cells #[.int .u8 ((x1 ^^^ x2 : Nat) : Int)] 5))
            have hown4 : OwnN 5 .u8 (wr.drew.alloc (.cells #[.int .u8 ((x1 ^^^ x2 : Nat) : Int)] 5)) w.heap.size _ NK := OwnN.below hown ((below_drewN (Below.refl wr.heap.size wr) 1).alloc (Nat.le_refl _) _) (Nat.le_refl _)
            refine t_e rfl rfl fun K hK => ?_
            refine op_append_numsW (.tmp 81) (.tmp 94) 31 rfl .u8 5 1 Tryz.underlying31 info_byte w.heap.size w _ NK rfl hown4 ((below_drewN hbel 1).alloc hszr _) (by simp; omega) _ 1 1 [x1 ^^^ x2] rfl rfl ⟨_, _, rfl, Ns.new .u8 wr.drew 5 (x1 ^^^ x2)⟩ hxl (by omega) fun v6 w6 hown6 hbel6 hgr6 hob6 => ?_
            rw [← HSN.out] at hown6
            have hgs := hgr6.size
            rw [World.size_alloc] at hgs
            have hblk : ∀ i, i = wo.heap.size → w6.heap[i]? = (wr.drew.alloc (.cells #[.int .u8 ((x1 ^^^ x2 : Nat) : Int)] 5)).heap[i]? := fun i hi => hgr6.block i (by rw [World.size_alloc, hi]; show wo.heap.size < wr.heap.size + 1; omega) (by rw [hi]; exact hap1)
            have hc4 : w6.cell? ⟨wo.heap.size, k, none⟩ = some (.int .u8 (x2 : Int)) := (World.cell?_of_block (a := ⟨wo.heap.size, k, none⟩) (hblk _ rfl)).trans hc3
            have hBT6 : Blk w6 wo.heap.size 208 (byteCells T) := (hblk _ rfl).trans ((hBT.drewN 1).alloc _)
            have hap6 : v6.ownBlock ≠ some wo.heap.size := fun e => by
              rcases hob6 with h | h
              · exact hap1 (h.symm.trans e).symm
              · rw [h] at e; injection e with e; rw [World.size_alloc] at e; have : wr.drew.heap.size = wr.heap.size := rfl; omega
            have hws6 : wo.heap.size < w6.heap.size := by have : wr.drew.heap.size = wr.heap.size := rfl; omega
            have HB6 := Lib.hid hBT6
            clear hgr6 hob6 hblk hBT6 hc1 hc2 hc3 hap1 hown hown4 hgs
            refine hK _ _ hc4 ?_
            clear hK K
            go_simp
            refine t_q rfl rfl hc4 _ (fun W hW => by (go_simp; rfl)) ?_
            go_simp
            refine t_done ?_
            go_wp2
            go_roundw
            case rel => exact ⟨k + 1, by omega, by go_num, hown6, hap6, HB6.out, hbel6, hws6⟩
            case measure => simp [intOf]; omega
          · obtain rfl : k = 4 := by omega
            have hfin : (wordsTo key (n + 1)).1 = nextW W T 4 := by rw [HX2.out]
            have hfin2 : (wordsTo key (n + 1)).2 = P := by rw [HX2.out]
            go_wp2
            go_roundw
            case rel => exact ⟨n + 1, by omega, by go_num, by rw [hfin2], by rw [hfin]; exact hown, hbel⟩
            case measure => simp [intOf]; omega
    · obtain rfl : n = 40 := by omega
      have hfin : (wordsTo key 40).1 = wordsG key := rfl
      rw [hfin] at hown
      go_wp2
      go_ret2
      exact ⟨⟨_, rfl, hown⟩, hbel⟩
end Go.Proofs.YtnkgglmfoimbhaaGreatDoor
