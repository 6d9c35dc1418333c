/- The words of an AES key, plain; append at one block of one's own beside others. The contract of aes.Words, of a key of 16 bytes. The contract of aes.Words, of a key of 24 bytes. The contract of aes.Words, of a key of 32 bytes. -/
import Derived.Test.YthodpjcdmdbnoaaGreatDoorNAesR
import Derived.Test.YthodpjcdmdbnoaaGreatDoorNBlk
/- The words of an AES key, plain; append at one block of one's own beside others. -/
namespace Go.Proofs.YthodpjcdmdbnoaaGreatDoor.Pr

def lastT (w : List Nat) : List Nat := w.drop (w.length - 4)
def tailG (nk : Nat) (w : List Nat) (n p : Nat) : List Nat := if n % nk = 0 then [boxG ((lastT w).getD 1 0) ^^^ p, boxG ((lastT w).getD 2 0), boxG ((lastT w).getD 3 0), boxG ((lastT w).getD 0 0)] else if nk = 8 ∧ n % 8 = 4 then (lastT w).map boxG else lastT w
def nextW (nk : Nat) (w t : List Nat) : Nat → List Nat
 | 0 => w
 | k + 1 => nextW nk w t k ++ [(nextW nk w t k).getD (w.length - 4 * nk + k) 0 ^^^ t.getD k 0]
def wordsTo (nk : Nat) (key : List Nat) : Nat → List Nat × Nat
 | 0 => (key, 1)
 | n + 1 => (nextW nk (wordsTo nk key n).1 (tailG nk (wordsTo nk key n).1 n (wordsTo nk key n).2) 4, if n % nk = 0 then mulG (wordsTo nk key n).2 2 else (wordsTo nk key n).2)
def wordsG (key : List Nat) : List Nat := (wordsTo (key.length / 4) key (3 * (key.length / 4) + 28)).1
theorem nextW_len (nk : Nat) (w t : List Nat) : ∀ k, (nextW nk w t k).length = w.length + k
 | 0 => rfl
 | k + 1 => by unfold nextW; rw [List.length_append, nextW_len nk w t k]; rfl
theorem nextW_byt (nk : Nat) {w t : List Nat} (hw : Byt w) (ht : Byt t) : ∀ k, Byt (nextW nk w t k)
 | 0 => hw
 | k + 1 => by
  have ih := nextW_byt nk hw ht k
  intro c hc
  unfold nextW at hc
  rcases List.mem_append.1 hc with hc | hc
  ·
   exact ih c hc
  ·
   obtain rfl := List.mem_singleton.1 hc
   exact xor_lt8 (ih.at_ _) (ht.at_ _)
theorem lastT_len {w : List Nat} (h : 4 ≤ w.length) : (lastT w).length = 4 := by simp [lastT]; omega
theorem lastT_byt {w : List Nat} (h : Byt w) : Byt (lastT w) := fun c hc => h c (List.mem_of_mem_drop hc)
theorem tailG_byt (nk : Nat) {w : List Nat} (h : Byt w) (n : Nat) {p : Nat} (hp : p < 256) : Byt (tailG nk w n p) := by
 unfold tailG
 split
 ·
  have hl := lastT_byt h
  intro c hc
  simp only [List.mem_cons, List.not_mem_nil, or_false] at hc
  rcases hc with rfl | rfl | rfl | rfl
  ·
   exact xor_lt8 (boxG_lt _ (hl.at_ _)) hp
  ·
   exact boxG_lt _ (hl.at_ _)
  ·
   exact boxG_lt _ (hl.at_ _)
  ·
   exact boxG_lt _ (hl.at_ _)
 ·
  split
  ·
   exact box_byt (lastT_byt h)
  ·
   exact lastT_byt h
theorem tailG_len (nk : Nat) {w : List Nat} (h : 4 ≤ w.length) (n p : Nat) : (tailG nk w n p).length = 4 := by
 unfold tailG
 split
 ·
  rfl
 ·
  split
  ·
   rw [List.length_map]; exact lastT_len h
  ·
   exact lastT_len h
theorem wordsTo_ok (nk : Nat) {key : List Nat} (hb : Byt key) : ∀ n, (wordsTo nk key n).1.length = key.length + 4 * n ∧ Byt (wordsTo nk key n).1 ∧ (wordsTo nk key n).2 < 256
 | 0 => ⟨rfl, hb, by show 1 < 256; omega⟩
 | n + 1 => by
  obtain ⟨h1, h2, h3⟩ := wordsTo_ok nk hb n
  unfold wordsTo
  refine ⟨by rw [nextW_len, h1]; omega, nextW_byt nk h2 (tailG_byt nk h2 n h3) 4, ?_⟩
  show (if n % nk = 0 then mulG (wordsTo nk key n).2 2 else (wordsTo nk key n).2) < 256
  split
  ·
   exact mulG_lt _ _ h3
  ·
   exact h3
/-- the lengths of a key, and how many rounds each has -/
def AesK (kl nr : Nat) : Prop := (kl = 16 ∧ nr = 10) ∨ (kl = 24 ∧ nr = 12) ∨ (kl = 32 ∧ nr = 14)
theorem AesK.nr {kl nr : Nat} (h : AesK kl nr) : nr = kl / 4 + 6 ∧ 16 ≤ kl ∧ kl ≤ 32 ∧ kl % 4 = 0 := by unfold AesK at h; omega
theorem wordsG_len {key : List Nat} (hb : Byt key) {kl nr : Nat} (hk : AesK kl nr) (h : key.length = kl) : (wordsG key).length = 16 * nr + 16 := by
 rw [wordsG, (wordsTo_ok _ hb _).1, h]
 have := hk.nr
 omega
theorem wordsG_byt {key : List Nat} (hb : Byt key) : Byt (wordsG key) := (wordsTo_ok _ hb _).2.1
end Go.Proofs.YthodpjcdmdbnoaaGreatDoor.Pr
namespace Go.Proofs.YthodpjcdmdbnoaaGreatDoor
open Go Go.RowKit Pr

theorem Ns.grownW {kd : IntKind} {w w' : World} {b o : Nat} {l : List Nat} {row : Option Nat} (h : Ns kd w b o l) (hg : w.grownBy w' row) (hb : b < w.heap.size) (hne : some b ≠ row) : Ns kd w' b o l :=
 fun j v hv => (World.cell?_of_block (a := ⟨b, o + j, none⟩) (hg.block b hb hne)).trans (h j v hv)
theorem op_append_numsW {P : Program} {Q : Exit → Act → World → Prop} {K : Act → World → Prop} {op : Oper} {a : Act} {w : World} (s x : Operand) (t : TypeId) (ho : op.op = .call { callee := .builtin .append, args := #[s, x], argTypes := #[t, t] })
    (kd : IntKind) (e : TypeId) (bytes : Nat) (ht : P.underlying t = some (.slice e)) (hinfo : (P.info? e).map (fun i => (i.zero, i.size, i.bytes)) = some (some (.int kd 0), 1, bytes))
    (B : Nat) (w0 : World) (v : Value) (l : List Nat) (hs : a.eval s = v) (hown : OwnN e kd w B v l) (hbel : Below B w0 w) (hB : B ≤ w.heap.size)
    (A : Option Addr) (m c : Nat) (l2 : List Nat) (hx : a.eval x = .slice A m c) (hm : l2.length = m) (hA : ∃ b o, A = some ⟨b, o, none⟩ ∧ Ns kd w b o l2)
    (h63 : l.length + m ≤ 1000000000) (hby : bytes ≤ 1000)
    (h : ∀ v' w', OwnN e kd w' B v' (l ++ l2) → Below B w0 w' → w.grownBy w' v.ownBlock → (v'.ownBlock = v.ownBlock ∨ v'.ownBlock = some w.heap.size) → K (a.put op.dst v') w') : op.wp P a w K Q := by
 obtain ⟨b, o, rfl, hN⟩ := hA
 obtain ⟨i0, hi, hz0, hz1, hz2⟩ := info_parts hinfo
 have h63' : l.length + m ≤ maxLen := by unfold maxLen; omega
 have hbytes : (l.length + m) * bytes ≤ 140737488355328 := by have := Nat.mul_le_mul h63 hby; omega
 obtain ⟨v', w', hr, h1, h2, _, h5⟩ := run_append_own_at (P := P) w B t op.type e i0 (.int kd 0) 1 bytes ht hi hz0 hz1 hz2 rfl (by decide) v l.length (numCells kd l).toList hown ⟨b, o, none⟩ m c (numCells kd l2).toList (by simp [numCells, hm])
  (fun j u hj => by have := hN j u hj; rwa [Addr.add_mid]) (fun u hu => by
   simp only [numCells, List.mem_map] at hu
   obtain ⟨c, _, rfl⟩ := hu
   rfl) h63' hbytes hB
 unfold Oper.wp execOp
 simp only [ho, resolve, invoke, builtin, Sem.run_bind, Sem.run_pure, Result.andThen_ok, List.map_toArray, List.map_cons, List.map_nil, hs, hx, hr]
 refine h v' w' ?_ (hbel.grown h2 hB (fun g hg => (World.ownsRow.lt hown g hg).1)) h2 h5
 unfold OwnN
 rw [List.length_append, hm]
 have e1 : (numCells kd (l ++ l2)).toList = (numCells kd l).toList ++ (numCells kd l2).toList := by simp [numCells]
 rw [e1]
 exact h1
theorem OwnN.keepW {e : TypeId} {kd : IntKind} {w w' : World} {B g : Nat} {v : Value} {l : List Nat} (h : OwnN e kd w B v l) (hk : Keep g w w') (hne : v.ownBlock ≠ some g) : OwnN e kd w' B v l := by
 rcases h with ⟨h1, h2⟩
 refine ⟨h1, ?_⟩
 rcases h2 with h2 | ⟨g', cap, cur, rfl, hg, hgb, r⟩
 ·
  exact .inl h2
 ·
  refine .inr ⟨g', cap, cur, rfl, hg, (hk.block g' ?_ (fun e => hne (by rw [e]; rfl))).trans hgb, r⟩
  rcases Nat.lt_or_ge g' w.heap.size with hlt | hge
  ·
   exact hlt
  ·
   rw [Array.getElem?_eq_none hge] at hgb; cases hgb
theorem rounds24 (A : Option Addr) (cp : Nat) (w : World) : Calls Tryz.prog 108 #[.slice A 24 cp] w fun e w' => e = .returned (.int .i64 12) ∧ w = w' := by
 go_enter Tryz.func108, Tryz.ntmps108
 go_wp2
 go_ret
 exact ⟨rfl, rfl⟩
theorem rounds32 (A : Option Addr) (cp : Nat) (w : World) : Calls Tryz.prog 108 #[.slice A 32 cp] w fun e w' => e = .returned (.int .i64 14) ∧ w = w' := by
 go_enter Tryz.func108, Tryz.ntmps108
 go_wp2
 go_ret
 exact ⟨rfl, rfl⟩
theorem aesRounds_any (kl nr : Nat) (h : AesK kl nr) (A : Option Addr) (cp : Nat) (w : World) : Calls Tryz.prog 108 #[.slice A kl cp] w fun e w' => e = .returned (.int .i64 nr) ∧ w = w' := by
 rcases h with ⟨rfl, rfl⟩ | ⟨rfl, rfl⟩ | ⟨rfl, rfl⟩
 ·
  exact rounds16 A cp w
 ·
  exact rounds24 A cp w
 ·
  exact rounds32 A cp w
end Go.Proofs.YthodpjcdmdbnoaaGreatDoor

/- The contract of aes.Words, of a key of 16 bytes. -/
namespace Go.Proofs.YthodpjcdmdbnoaaGreatDoor
open Go Go.RowKit Pr

set_option maxHeartbeats 8000000 in
set_option maxRecDepth 100000 in
theorem words16 (key : List Nat) (hl : key.length = 16) (hb : Byt key) (A : Option Addr) (cp : Nat) (w : World) (hA : At w A key) :
    Calls Tryz.prog 107 #[.slice A 16 cp] w fun e w' => (∃ v, e = .returned (.tuple #[v, .nilIface]) ∧ Own w' w.heap.size v (wordsG key)) ∧ Below w.heap.size w w' := by
 obtain ⟨ka, ko, rfl, hK⟩ := hA (by intro h; rw [h] at hl; cases hl)
 have hK1 : Bs (w.alloc (.cells #[] 5)) ka ko key := hK.alloc _
 have HOK := Lib.hid (fun n => wordsTo_ok 4 hb n)
 have HKL := Lib.hid hl; clear hl hA
 have HR := Lib.hid (fun A cp W => rounds16 A cp W)
 have harr : ∀ a c W, (Instr.arrayAt 190 (.slice a 4 c)).run Tryz.prog W = .ok (.pointer a) W := fun a c W => run_arrayAt _ 5 4 Tryz.underlying190 a 4 c (Nat.le_refl _) W
 go_enter Tryz.func107, Tryz.ntmps107
 go_wp2_with fail
 refine (HR.out _ _ _).mono ?_
 rintro e w1 ⟨rfl, rfl⟩
 go_wp2_with (at_builtin; go_loud (refine wpList_append_nums rfl (.tmp 20) (.tmp 21) 22 rfl .u8 5 1 Tryz.underlying22 info_byte w.heap.size w _ [] rfl (OwnN.start 5 .u8 w w.heap.size (Nat.le_refl _)) ((Below.refl _ _).alloc (Nat.le_refl _) _) (by simp) _ 16 cp key rfl HKL.out ⟨_, _, rfl, hK1⟩ (by simp) (by omega) ?_); intro v5 w5 hown5 hbel5 hsz5)
 rw [List.nil_append] at hown5
 clear hK1 hK
 go_loopw [6, 7, 8] (fun v p i wr => ∃ n : Nat, n ≤ 40 ∧ i = .int .i64 (n + 4 : Nat) ∧ p = .int .u8 ((wordsTo 4 key n).2 : Nat) ∧ OwnN 5 .u8 wr w.heap.size v (wordsTo 4 key n).1 ∧ Below w.heap.size w wr) (fun _ _ i _ => 44 - (intOf i).toNat)
 case atStart => exact ⟨0, by omega, rfl, rfl, hown5, hbel5⟩
 case round =>
  obtain ⟨n, hn, rfl, rfl, hown, hbel⟩ := hrel
  obtain ⟨hWl, hWb, hPl⟩ := HOK.out n
  rw [HKL.out] at hWl
  have hnx : wordsTo 4 key (n + 1) = (nextW 4 (wordsTo 4 key n).1 (tailG 4 (wordsTo 4 key n).1 n (wordsTo 4 key n).2) 4, if n % 4 = 0 then mulG (wordsTo 4 key n).2 2 else (wordsTo 4 key n).2) := rfl
  by_cases hlt : n < 40
  ·
   generalize (wordsTo 4 key n).1 = W at *
   generalize (wordsTo 4 key n).2 = P at *
   have HNX := Lib.hid hnx; clear hnx hown5 hbel5 hsz5
   obtain ⟨g, cap, rfl, hg, hcap, hgl, hBW⟩ := (OwnN.bytes hown).form (by intro h; rw [h] at hWl; simp at hWl; omega)
   obtain ⟨X, hX⟩ : ∃ X, W.length = X + 4 := ⟨W.length - 4, by omega⟩
   have hTl := lastT_len (w := W) (by omega)
   have hTb := lastT_byt hWb
   have hX12 : 12 ≤ X := by omega
   have hXle : X ≤ 172 := by omega
   have HXN : Hid (X = 12 + 4 * n) := by show X = 12 + 4 * n; omega
   rw [hX] at hown hcap ⊢
   clear hWl
   have hBT : Bs wr g X (lastT W) := by
    have := hBW.sub X 4
    rw [Nat.zero_add] at this
    rw [show (W.drop X).take 4 = lastT W by unfold lastT; rw [hX, show X + 4 - 4 = X by omega]; exact List.take_of_length_le (by simp; omega)] at this
    exact this
   have hTs := Lib.hid (size_byteCells (lastT W))
   have hsT : tailG 4 W n P = if n % 4 = 0 then [boxG ((lastT W).getD 1 0) ^^^ P, boxG ((lastT W).getD 2 0), boxG ((lastT W).getD 3 0), boxG ((lastT W).getD 0 0)] else lastT W := rfl
   have HST := Lib.hid hsT; clear hsT
   have HTB := Lib.hid hTb; clear hTb
   have HTL := Lib.hid hTl; clear hTl
   have HWB := Lib.hid hWb; clear hWb
   have HXW := Lib.hid hX; clear hX
   obtain ⟨wo, rfl⟩ : ∃ wo, wo = wr := ⟨_, rfl⟩
   by_cases h4 : n % 4 = 0
   rotate_left
   focus
    have HX2 : Hid (wordsTo 4 key (n + 1) = (nextW 4 W (lastT W) 4, P)) := by
     have h1 := HNX.out
     have h2 := HST.out
     rw [if_neg h4] at h1 h2
     rw [h2] at h1
     exact h1
    clear HNX HST
    go_wp2_with (first
     | (refine wpList_load_bs rfl 190 (.tmp 36) rfl g X rfl (lastT W) hBT _ Tryz.underlying190 rfl (by rw [info_4u8, HTL.out]) ?_)
     | (refine wpList_store_all rfl 190 (.tmp 9) (.tmp 37) rfl wo.heap.size (byteCells (lastT W)) rfl rfl 190 _ (Blk.new wo _ _) (by rw [info_4u8, hTs.out, HTL.out]) (by rw [hTs.out, HTL.out]; rfl) (bytes_one _) ?_; intro w6 hB6 hO6))
    have hb6 : Below wo.heap.size wo w6 := hO6.below ((Below.refl wo.heap.size wo).alloc (Nat.le_refl _) _) (Nat.le_refl _)
    have hs6 := hO6.size
    rw [World.size_alloc] at hs6
    have hown6 := OwnN.below hown hb6 (Nat.le_refl _)
    have hbel6 : Below w.heap.size w w6 := hbel.trans (hb6.mono hbel.size)
    have hap6 : (Value.slice (some ⟨g, 0, none⟩) (X + 4) cap).ownBlock ≠ some wo.heap.size := fun e => by have := (World.ownsRow.lt hown _ e).2; omega
    have hwo := hbel.size
    obtain ⟨T, hT⟩ : ∃ T, lastT W = T := ⟨_, rfl⟩
    rw [hT] at hB6 HX2 HTB HTL
    have hB6b := hB6; clear hB6
    have HTL2 := HTL; have HTB2 := HTB
    obtain ⟨P2, rfl⟩ : ∃ P2, P2 = P := ⟨_, rfl⟩
    clear hT hown hbel hBW hBT hO6 hb6 hcap hTs HTL HTB
    have hmm : ((n : Int) + 4) % 4 = (n : Int) % 4 := by omega
    rw [hmm]
    clear hmm
    have hmz : ((n : Int) % 4 == 0) = false := by rw [beq_eq_false_iff_ne]; omega
    rw [hmz]
    clear hmz
   rotate_left
   focus
    have hTl2 := tailG_len 4 (w := W) (by rw [HXW.out]; omega) n P
    have hTb2 := tailG_byt 4 HWB.out n hPl
    have HX2 : Hid (wordsTo 4 key (n + 1) = (nextW 4 W (tailG 4 W n P) 4, mulG P 2)) := by
     have h1 := HNX.out
     rw [if_pos h4] at h1
     exact h1
    have hst2 := HST.out
    rw [if_pos h4] at hst2
    clear HNX HST
    have hcc : ∀ V : World, Blk V wo.heap.size 190 (byteCells (lastT W)) → ∀ j, j < 4 → V.cell? ⟨wo.heap.size, j, none⟩ = some (.int .u8 ((lastT W).getD j 0 : Nat)) := fun V hV j hj => by
     rw [hV.cell j, cellD _ j (by rw [HTL.out]; exact hj)]
    have z0 := HTB.out.at_ 0
    have z1 := HTB.out.at_ 1
    have z2 := HTB.out.at_ 2
    have z3 := HTB.out.at_ 3
    have c0 := fun V hV => hcc V hV 0 (by omega)
    have c1 := fun V hV => hcc V hV 1 (by omega)
    have c2 := fun V hV => hcc V hV 2 (by omega)
    have c3 := fun V hV => hcc V hV 3 (by omega)
    clear hcc
    generalize (lastT W).getD 0 0 = y0 at *
    generalize (lastT W).getD 1 0 = y1 at *
    generalize (lastT W).getD 2 0 = y2 at *
    generalize (lastT W).getD 3 0 = y3 at *
    have B0 := Lib.hid (fun V => gfbox_any y0 z0 V)
    have B1 := Lib.hid (fun V => gfbox_any y1 z1 V)
    have B2 := Lib.hid (fun V => gfbox_any y2 z2 V)
    have B3 := Lib.hid (fun V => gfbox_any y3 z3 V)
    have hxx := u8_xor_nat (boxG y1) P (boxG_lt _ z1) hPl
    have hMU := Lib.hid (fun V => mul_any P 2 hPl (by omega) V)
    generalize boxG y0 = b0 at *
    generalize boxG y1 = b1 at *
    generalize boxG y2 = b2 at *
    generalize boxG y3 = b3 at *
    generalize b1 ^^^ P = b1x at *
    generalize mulG P 2 = P2 at *
    have HST2 := Lib.hid hst2; clear hst2
    have C0 := Lib.hid c0; clear c0
    have C1 := Lib.hid c1; clear c1
    have C2 := Lib.hid c2; clear c2
    have C3 := Lib.hid c3; clear c3
    go_wp2_with (first
     | (refine wpList_load_bs rfl 190 (.tmp 36) rfl g X rfl (lastT W) hBT _ Tryz.underlying190 rfl (by rw [info_4u8, HTL.out]) ?_)
     | (refine wpList_store_all rfl 190 (.tmp 9) (.tmp 37) rfl wo.heap.size (byteCells (lastT W)) rfl rfl 190 _ (Blk.new wo _ _) (by rw [info_4u8, hTs.out, HTL.out]) (by rw [hTs.out, HTL.out]; rfl) (bytes_one _) ?_; intro w6 hB6 hO6))
    have hb6 : Below wo.heap.size wo w6 := hO6.below ((Below.refl wo.heap.size wo).alloc (Nat.le_refl _) _) (Nat.le_refl _)
    have hs6 := hO6.size
    rw [World.size_alloc] at hs6
    have hmm : ((n : Int) + 4) % 4 = (n : Int) % 4 := by omega
    rw [hmm]
    clear hmm
    have hmz : (n : Int) % 4 = 0 := by omega
    rw [hmz]
    clear hmz
    have hzz : ((0 : Int) == 0) = true := rfl
    rw [hzz]
    clear hzz
    clear hO6
    refine wp_region_last (.q 0 (.q 1 (.q 3 (.q 5 (.q 6 (.q 8 (.q 9 (.q 11 (.q 12 (.e [2] fun _ => .q 4 (.e [7] fun _ => .e [10] fun _ => .e [13] fun _ => .q 14 (.e [15] fun _ => .done))))))))))))
     (fun V => Blk V wo.heap.size 190 (byteCells (lastT W))) 15 rfl (by kernel_rfl) (fun _ _ d _ _ h => by cases d <;> exact h) ?_
    change wpS _ _ _ _ _ _ _ w6.drew
    have hBd : Blk w6.drew wo.heap.size 190 (byteCells (lastT W)) := hB6
    refine s_q rfl rfl hB6 _ (fun V hV => by (go_simp; rfl)) ?_
    go_simp
    refine s_q rfl rfl hB6 (.int .u8 (y1 : Int)) (fun V hV => by (have hc := C1.out V hV; go_simp)) ?_
    go_simp
    refine s_q rfl rfl hB6 _ (fun V hV => by (go_simp; rfl)) ?_
    go_simp
    refine s_q rfl rfl hB6 _ (fun V hV => by (go_simp; rfl)) ?_
    go_simp
    refine s_q rfl rfl hB6 (.int .u8 (y2 : Int)) (fun V hV => by (have hc := C2.out V hV; go_simp)) ?_
    go_simp
    refine s_q rfl rfl hB6 _ (fun V hV => by (go_simp; rfl)) ?_
    go_simp
    refine s_q rfl rfl hB6 (.int .u8 (y3 : Int)) (fun V hV => by (have hc := C3.out V hV; go_simp)) ?_
    go_simp
    refine s_q rfl rfl hB6 _ (fun V hV => by (go_simp; rfl)) ?_
    go_simp
    refine s_q rfl rfl hB6 (.int .u8 (y0 : Int)) (fun V hV => by (have hc := C0.out V hV; go_simp)) ?_
    go_simp
    refine s_e rfl rfl fun K hK => ?_
    go_simp
    refine (B1.out _).mono ?_
    rintro e wx1 ⟨rfl, mx1, rfl⟩
    refine hK _ _ (fun _ => hB6) ?_
    clear hK K
    go_simp
    refine s_q rfl rfl hB6 _ (fun V hV => by (go_simp; rfl)) ?_
    go_simp
    refine s_e rfl rfl fun K hK => ?_
    go_simp
    refine (B2.out _).mono ?_
    rintro e wx2 ⟨rfl, mx2, rfl⟩
    refine hK _ _ (fun _ => hB6) ?_
    clear hK K
    go_simp
    refine s_e rfl rfl fun K hK => ?_
    go_simp
    refine (B3.out _).mono ?_
    rintro e wx3 ⟨rfl, mx3, rfl⟩
    refine hK _ _ (fun _ => hB6) ?_
    clear hK K
    go_simp
    refine s_e rfl rfl fun K hK => ?_
    go_simp
    refine (B0.out _).mono ?_
    rintro e wx4 ⟨rfl, mx4, rfl⟩
    refine hK _ _ (fun _ => hB6) ?_
    clear hK K
    go_simp
    refine s_q rfl rfl hB6 _ (fun V hV => by (go_simp; rfl)) ?_
    go_simp
    refine s_e rfl rfl fun K hK => ?_
    refine op_store_row 190 (.tmp 9) (.tmp 57) rfl wo.heap.size (byteCells [b1x, b2, b3, b0]) rfl rfl 190 _ (Blk.drewN hB6 _) (by rw [info_4u8]; rfl) (by rw [hTs.out, HTL.out]; rfl) (bytes_one _) fun w7 hB7 hO7 => ?_
    refine hK _ _ (fun h => absurd rfl h) ?_
    clear hK K
    refine s_done ?_
    go_wp2_with fail
    refine (hMU.out _).mono ?_
    rintro e w8 ⟨rfl, rfl⟩
    go_wp2
    have hb7 : Below wo.heap.size wo w7 := hO7.below (below_drewN hb6 _) (Nat.le_refl _)
    have hs7 : w7.heap.size = wo.heap.size + 1 := hO7.size.trans hs6
    clear hs6
    have hs6 := hs7
    have hown6 := OwnN.below hown hb7 (Nat.le_refl _)
    have hbel6 : Below w.heap.size w w7 := hbel.trans (hb7.mono hbel.size)
    have hap6 : (Value.slice (some ⟨g, 0, none⟩) (X + 4) cap).ownBlock ≠ some wo.heap.size := fun e => by have := (World.ownsRow.lt hown _ e).2; omega
    have hwo := hbel.size
    obtain ⟨T, hT⟩ : ∃ T, tailG 4 W n P = T := ⟨_, rfl⟩
    rw [hT] at HX2 hTl2 hTb2
    rw [← HST2.out, hT] at hB7
    have hB6b := hB7; clear hB7
    have HTL2 := Lib.hid hTl2; clear hTl2
    have HTB2 := Lib.hid hTb2; clear hTb2
    clear hT hown hbel hBW hBT hO7 hb6 hb7 hBd hcap hTs HTB HTL HST2 C0 C1 C2 C3 B0 B1 B2 B3 hMU hB6 hxx hs7
   all_goals
    go_loopw [6, 78] (fun v i wv => ∃ k : Nat, k ≤ 4 ∧ i = .int .i64 k ∧ OwnN 5 .u8 wv w.heap.size v (nextW 4 W T k) ∧ Hid (v.ownBlock ≠ some wo.heap.size) ∧ Blk wv wo.heap.size 190 (byteCells T) ∧ Below w.heap.size w wv ∧ wo.heap.size < wv.heap.size) (fun _ i _ => 4 - (intOf i).toNat)
    case atStart => exact ⟨0, by omega, rfl, hown6, hap6, hB6b, hbel6, by omega⟩
    case round =>
     obtain ⟨k, hk, rfl, hown, hap, hBT, hbel, hws⟩ := hrel
     clear hown6 hap6 hB6b hbel6 hs6
     by_cases hkl : k < 4
     ·
      have hnl := nextW_len 4 W T k
      rw [HXW.out] at hnl
      obtain ⟨Z, hZ⟩ : ∃ Z, X + 4 - 16 + k = Z := ⟨_, rfl⟩
      have hnl2 : (nextW 4 W T k).length = Z + 16 := by omega
      have hZl : Z ≤ 300 := by omega
      obtain ⟨g2, cap2, rfl, hg2, hcap2, hgl2, hBN⟩ := (OwnN.bytes hown).form (by intro h; rw [h] at hnl2; simp at hnl2)
      have hsn : nextW 4 W T (k + 1) = nextW 4 W T k ++ [(nextW 4 W T k).getD Z 0 ^^^ T.getD k 0] := by rw [← hZ, ← HXW.out]; rfl
      rw [hnl2] at hcap2 hown hap ⊢
      have hc1 : wr.drew.cell? ⟨g2, Z, none⟩ = some (.int .u8 ((nextW 4 W T k).getD Z 0 : Nat)) := by
       have := hBN.cellD Z (by omega)
       rw [Nat.zero_add] at this
       exact this
      have hc2 : wr.drew.cell? ⟨wo.heap.size, k, none⟩ = some (.int .u8 (T.getD k 0 : Nat)) := by
       have := hBT.cell k
       rw [cellD _ k (by rw [HTL2.out]; exact hkl)] at this
       exact this
      have hkI : (k : Int) < 4 := by omega
      have hZlt : Z < Z + 16 := by omega
      have hZlI : (Z : Int) < (Z : Int) + 16 := by omega
      have e5 : IntKind.i64.wrap 16 = 16 := IntWalk.i64_in _ (by omega)
      have e6 : IntKind.i64.wrap (Z : Int) = (Z : Int) := IntWalk.i64_in _ (by omega)
      have e7 : IntKind.i64.wrap ((Z : Int) + 16 - 16) = (Z : Int) := by rw [IntWalk.i64_in _ (by omega)]; omega
      have hxx := u8_xor_nat ((nextW 4 W T k).getD Z 0) (T.getD k 0) ((nextW_byt 4 HWB.out HTB2.out k).at_ Z) (HTB2.out.at_ k)
      have hxl : (nextW 4 W T k).length + 1 ≤ 1000000000 := by omega
      generalize (nextW 4 W T k).getD Z 0 = x1 at *
      generalize T.getD k 0 = x2 at *
      obtain ⟨NK, hNK⟩ : ∃ NK, nextW 4 W T k = NK := ⟨_, rfl⟩
      rw [hNK] at hown hsn hxl
      have HSN := Lib.hid hsn; clear hsn hNK hnl hnl2 hBN hZ
      have hszr : w.heap.size ≤ wr.heap.size := hbel.size
      have hw2 : wr.drew.heap = wr.heap := rfl
      have hap1 : some wo.heap.size ≠ (Value.slice (some ⟨g2, 0, none⟩) (Z + 16) cap2).ownBlock := fun e => hap.out e.symm
      clear hap
      go_wp2_with fail
      refine wp_region_tree (.q 0 (.q 1 (.q 2 (.q 3 (.q 4 (.q 5 (.q 6 (.q 7 (.q 9 (.q 10 (.q 11 (.e [8] fun _ => .q 12 (.e [13] fun _ => .e [14] fun _ => .q 15 (.done))))))))))))))
       (fun W => W.cell? ⟨wo.heap.size, k, none⟩ = some (.int .u8 (x2 : Int))) rfl (by kernel_rfl) (fun _ _ d _ _ h => by cases d <;> exact h) ?_
      change wpT _ _ _ _ _ _ wr.drew
      iterate 10 (refine t_q rfl rfl hc2 _ (fun W hW => by (go_simp; rfl)) ?_; go_simp)
      refine t_q rfl rfl hc2 (.int .u8 (x2 : Int)) (fun W hW => by (go_simp)) ?_
      go_simp
      refine t_e rfl rfl fun K hK => ?_
      go_simp
      refine hK _ _ hc2 ?_
      clear hK K
      go_simp
      refine t_q rfl rfl hc2 _ (fun W hW => by (go_simp; rfl)) ?_
      go_simp
      refine t_e rfl rfl fun K hK => ?_
      go_simp
      have hc3 : (wr.drew.alloc (.cells #[.int .u8 ((x1 ^^^ x2 : Nat) : Int)] 5)).cell? ⟨wo.heap.size, k, none⟩ = some (.int .u8 (x2 : Int)) := by
       rw [World.cell?_alloc_lt _ _ _ (by show wo.heap.size < wr.heap.size; exact hws)]
       exact hc2
      refine hK _ _ hc3 ?_
      clear hK K
      change wpT _ _ _ _ _ _ (wr.drew.alloc (.cells #[.int .u8 ((x1 ^^^ x2 : Nat) : Int)] 5))
      have hown4 : OwnN 5 .u8 (wr.drew.alloc (.cells #[.int .u8 ((x1 ^^^ x2 : Nat) : Int)] 5)) w.heap.size _ NK := OwnN.below hown ((below_drewN (Below.refl wr.heap.size wr) 1).alloc (Nat.le_refl _) _) (Nat.le_refl _)
      refine t_e rfl rfl fun K hK => ?_
      refine op_append_numsW (.tmp 81) (.tmp 94) 22 rfl .u8 5 1 Tryz.underlying22 info_byte w.heap.size w _ NK rfl hown4 ((below_drewN hbel 1).alloc hszr _) (by simp; omega) _ 1 1 [x1 ^^^ x2] rfl rfl ⟨_, _, rfl, Ns.new .u8 wr.drew 5 (x1 ^^^ x2)⟩ hxl (by omega) fun v6 w6 hown6 hbel6 hgr6 hob6 => ?_
      rw [← HSN.out] at hown6
      have hgs := hgr6.size
      rw [World.size_alloc] at hgs
      have hblk : ∀ i, i = wo.heap.size → w6.heap[i]? = (wr.drew.alloc (.cells #[.int .u8 ((x1 ^^^ x2 : Nat) : Int)] 5)).heap[i]? := fun i hi => hgr6.block i (by rw [World.size_alloc, hi]; show wo.heap.size < wr.heap.size + 1; omega) (by rw [hi]; exact hap1)
      have hc4 : w6.cell? ⟨wo.heap.size, k, none⟩ = some (.int .u8 (x2 : Int)) := (World.cell?_of_block (a := ⟨wo.heap.size, k, none⟩) (hblk _ rfl)).trans hc3
      have hBT6 : Blk w6 wo.heap.size 190 (byteCells T) := (hblk _ rfl).trans ((hBT.drewN 1).alloc _)
      have hap6 : v6.ownBlock ≠ some wo.heap.size := fun e => by
       rcases hob6 with h | h
       ·
        exact hap1 (h.symm.trans e).symm
       ·
        rw [h] at e; injection e with e; rw [World.size_alloc] at e; have : wr.drew.heap.size = wr.heap.size := rfl; omega
      have hws6 : wo.heap.size < w6.heap.size := by have : wr.drew.heap.size = wr.heap.size := rfl; omega
      have HB6 := Lib.hid hBT6
      clear hgr6 hob6 hblk hBT6 hc1 hc2 hc3 hap1 hown hown4 hgs
      refine hK _ _ hc4 ?_
      clear hK K
      go_simp
      refine t_q rfl rfl hc4 _ (fun W hW => by (go_simp; rfl)) ?_
      go_simp
      refine t_done ?_
      go_wp2
      go_roundw
      case rel => exact ⟨k + 1, by omega, by go_num, hown6, hap6, HB6.out, hbel6, hws6⟩
      case measure => simp [intOf]; omega
     ·
      obtain rfl : k = 4 := by omega
      have hfin : (wordsTo 4 key (n + 1)).1 = nextW 4 W T 4 := by rw [HX2.out]
      have hfin2 : (wordsTo 4 key (n + 1)).2 = P2 := by rw [HX2.out]
      go_wp2
      go_roundw
      case rel => exact ⟨n + 1, by omega, by go_num, by rw [hfin2], by rw [hfin]; exact hown, hbel⟩
      case measure => simp [intOf]; omega
  ·
   obtain rfl : n = 40 := by omega
   have hfin : (wordsTo 4 key 40).1 = wordsG key := by rw [wordsG, HKL.out]
   rw [hfin] at hown
   go_wp2
   go_ret2
   exact ⟨⟨_, rfl, hown⟩, hbel⟩
end Go.Proofs.YthodpjcdmdbnoaaGreatDoor


/- The contract of aes.Words, of a key of 24 bytes. -/
namespace Go.Proofs.YthodpjcdmdbnoaaGreatDoor
open Go Go.RowKit Pr

set_option maxHeartbeats 8000000 in
set_option maxRecDepth 100000 in
theorem words24 (key : List Nat) (hl : key.length = 24) (hb : Byt key) (A : Option Addr) (cp : Nat) (w : World) (hA : At w A key) :
    Calls Tryz.prog 107 #[.slice A 24 cp] w fun e w' => (∃ v, e = .returned (.tuple #[v, .nilIface]) ∧ Own w' w.heap.size v (wordsG key)) ∧ Below w.heap.size w w' := by
 obtain ⟨ka, ko, rfl, hK⟩ := hA (by intro h; rw [h] at hl; cases hl)
 have hK1 : Bs (w.alloc (.cells #[] 5)) ka ko key := hK.alloc _
 have HOK := Lib.hid (fun n => wordsTo_ok 6 hb n)
 have HKL := Lib.hid hl; clear hl hA
 have HR := Lib.hid (fun A cp W => rounds24 A cp W)
 have harr : ∀ a c W, (Instr.arrayAt 190 (.slice a 4 c)).run Tryz.prog W = .ok (.pointer a) W := fun a c W => run_arrayAt _ 5 4 Tryz.underlying190 a 4 c (Nat.le_refl _) W
 go_enter Tryz.func107, Tryz.ntmps107
 go_wp2_with fail
 refine (HR.out _ _ _).mono ?_
 rintro e w1 ⟨rfl, rfl⟩
 go_wp2_with (at_builtin; go_loud (refine wpList_append_nums rfl (.tmp 20) (.tmp 21) 22 rfl .u8 5 1 Tryz.underlying22 info_byte w.heap.size w _ [] rfl (OwnN.start 5 .u8 w w.heap.size (Nat.le_refl _)) ((Below.refl _ _).alloc (Nat.le_refl _) _) (by simp) _ 24 cp key rfl HKL.out ⟨_, _, rfl, hK1⟩ (by simp) (by omega) ?_); intro v5 w5 hown5 hbel5 hsz5)
 rw [List.nil_append] at hown5
 clear hK1 hK
 go_loopw [6, 7, 8] (fun v p i wr => ∃ n : Nat, n ≤ 46 ∧ i = .int .i64 (n + 6 : Nat) ∧ p = .int .u8 ((wordsTo 6 key n).2 : Nat) ∧ OwnN 5 .u8 wr w.heap.size v (wordsTo 6 key n).1 ∧ Below w.heap.size w wr) (fun _ _ i _ => 52 - (intOf i).toNat)
 case atStart => exact ⟨0, by omega, rfl, rfl, hown5, hbel5⟩
 case round =>
  obtain ⟨n, hn, rfl, rfl, hown, hbel⟩ := hrel
  obtain ⟨hWl, hWb, hPl⟩ := HOK.out n
  rw [HKL.out] at hWl
  have hnx : wordsTo 6 key (n + 1) = (nextW 6 (wordsTo 6 key n).1 (tailG 6 (wordsTo 6 key n).1 n (wordsTo 6 key n).2) 4, if n % 6 = 0 then mulG (wordsTo 6 key n).2 2 else (wordsTo 6 key n).2) := rfl
  by_cases hlt : n < 46
  ·
   generalize (wordsTo 6 key n).1 = W at *
   generalize (wordsTo 6 key n).2 = P at *
   have HNX := Lib.hid hnx; clear hnx hown5 hbel5 hsz5
   obtain ⟨g, cap, rfl, hg, hcap, hgl, hBW⟩ := (OwnN.bytes hown).form (by intro h; rw [h] at hWl; simp at hWl; omega)
   obtain ⟨X, hX⟩ : ∃ X, W.length = X + 4 := ⟨W.length - 4, by omega⟩
   have hTl := lastT_len (w := W) (by omega)
   have hTb := lastT_byt hWb
   have hX12 : 20 ≤ X := by omega
   have hXle : X ≤ 204 := by omega
   have HXN : Hid (X = 20 + 4 * n) := by show X = 20 + 4 * n; omega
   rw [hX] at hown hcap ⊢
   clear hWl
   have hBT : Bs wr g X (lastT W) := by
    have := hBW.sub X 4
    rw [Nat.zero_add] at this
    rw [show (W.drop X).take 4 = lastT W by unfold lastT; rw [hX, show X + 4 - 4 = X by omega]; exact List.take_of_length_le (by simp; omega)] at this
    exact this
   have hTs := Lib.hid (size_byteCells (lastT W))
   have hsT : tailG 6 W n P = if n % 6 = 0 then [boxG ((lastT W).getD 1 0) ^^^ P, boxG ((lastT W).getD 2 0), boxG ((lastT W).getD 3 0), boxG ((lastT W).getD 0 0)] else lastT W := rfl
   have HST := Lib.hid hsT; clear hsT
   have HTB := Lib.hid hTb; clear hTb
   have HTL := Lib.hid hTl; clear hTl
   have HWB := Lib.hid hWb; clear hWb
   have HXW := Lib.hid hX; clear hX
   obtain ⟨wo, rfl⟩ : ∃ wo, wo = wr := ⟨_, rfl⟩
   by_cases h4 : n % 6 = 0
   rotate_left
   focus
    have HX2 : Hid (wordsTo 6 key (n + 1) = (nextW 6 W (lastT W) 4, P)) := by
     have h1 := HNX.out
     have h2 := HST.out
     rw [if_neg h4] at h1 h2
     rw [h2] at h1
     exact h1
    clear HNX HST
    go_wp2_with (first
     | (refine wpList_load_bs rfl 190 (.tmp 36) rfl g X rfl (lastT W) hBT _ Tryz.underlying190 rfl (by rw [info_4u8, HTL.out]) ?_)
     | (refine wpList_store_all rfl 190 (.tmp 9) (.tmp 37) rfl wo.heap.size (byteCells (lastT W)) rfl rfl 190 _ (Blk.new wo _ _) (by rw [info_4u8, hTs.out, HTL.out]) (by rw [hTs.out, HTL.out]; rfl) (bytes_one _) ?_; intro w6 hB6 hO6))
    have hb6 : Below wo.heap.size wo w6 := hO6.below ((Below.refl wo.heap.size wo).alloc (Nat.le_refl _) _) (Nat.le_refl _)
    have hs6 := hO6.size
    rw [World.size_alloc] at hs6
    have hown6 := OwnN.below hown hb6 (Nat.le_refl _)
    have hbel6 : Below w.heap.size w w6 := hbel.trans (hb6.mono hbel.size)
    have hap6 : (Value.slice (some ⟨g, 0, none⟩) (X + 4) cap).ownBlock ≠ some wo.heap.size := fun e => by have := (World.ownsRow.lt hown _ e).2; omega
    have hwo := hbel.size
    obtain ⟨T, hT⟩ : ∃ T, lastT W = T := ⟨_, rfl⟩
    rw [hT] at hB6 HX2 HTB HTL
    have hB6b := hB6; clear hB6
    have HTL2 := HTL; have HTB2 := HTB
    obtain ⟨P2, rfl⟩ : ∃ P2, P2 = P := ⟨_, rfl⟩
    clear hT hown hbel hBW hBT hO6 hb6 hcap hTs HTL HTB
    have hmm : ((n : Int) + 6) % 6 = (n : Int) % 6 := by omega
    rw [hmm]
    clear hmm
    have hmz : ((n : Int) % 6 == 0) = false := by rw [beq_eq_false_iff_ne]; omega
    rw [hmz]
    clear hmz
   rotate_left
   focus
    have hTl2 := tailG_len 6 (w := W) (by rw [HXW.out]; omega) n P
    have hTb2 := tailG_byt 6 HWB.out n hPl
    have HX2 : Hid (wordsTo 6 key (n + 1) = (nextW 6 W (tailG 6 W n P) 4, mulG P 2)) := by
     have h1 := HNX.out
     rw [if_pos h4] at h1
     exact h1
    have hst2 := HST.out
    rw [if_pos h4] at hst2
    clear HNX HST
    have hcc : ∀ V : World, Blk V wo.heap.size 190 (byteCells (lastT W)) → ∀ j, j < 4 → V.cell? ⟨wo.heap.size, j, none⟩ = some (.int .u8 ((lastT W).getD j 0 : Nat)) := fun V hV j hj => by
     rw [hV.cell j, cellD _ j (by rw [HTL.out]; exact hj)]
    have z0 := HTB.out.at_ 0
    have z1 := HTB.out.at_ 1
    have z2 := HTB.out.at_ 2
    have z3 := HTB.out.at_ 3
    have c0 := fun V hV => hcc V hV 0 (by omega)
    have c1 := fun V hV => hcc V hV 1 (by omega)
    have c2 := fun V hV => hcc V hV 2 (by omega)
    have c3 := fun V hV => hcc V hV 3 (by omega)
    clear hcc
    generalize (lastT W).getD 0 0 = y0 at *
    generalize (lastT W).getD 1 0 = y1 at *
    generalize (lastT W).getD 2 0 = y2 at *
    generalize (lastT W).getD 3 0 = y3 at *
    have B0 := Lib.hid (fun V => gfbox_any y0 z0 V)
    have B1 := Lib.hid (fun V => gfbox_any y1 z1 V)
    have B2 := Lib.hid (fun V => gfbox_any y2 z2 V)
    have B3 := Lib.hid (fun V => gfbox_any y3 z3 V)
    have hxx := u8_xor_nat (boxG y1) P (boxG_lt _ z1) hPl
    have hMU := Lib.hid (fun V => mul_any P 2 hPl (by omega) V)
    generalize boxG y0 = b0 at *
    generalize boxG y1 = b1 at *
    generalize boxG y2 = b2 at *
    generalize boxG y3 = b3 at *
    generalize b1 ^^^ P = b1x at *
    generalize mulG P 2 = P2 at *
    have HST2 := Lib.hid hst2; clear hst2
    have C0 := Lib.hid c0; clear c0
    have C1 := Lib.hid c1; clear c1
    have C2 := Lib.hid c2; clear c2
    have C3 := Lib.hid c3; clear c3
    go_wp2_with (first
     | (refine wpList_load_bs rfl 190 (.tmp 36) rfl g X rfl (lastT W) hBT _ Tryz.underlying190 rfl (by rw [info_4u8, HTL.out]) ?_)
     | (refine wpList_store_all rfl 190 (.tmp 9) (.tmp 37) rfl wo.heap.size (byteCells (lastT W)) rfl rfl 190 _ (Blk.new wo _ _) (by rw [info_4u8, hTs.out, HTL.out]) (by rw [hTs.out, HTL.out]; rfl) (bytes_one _) ?_; intro w6 hB6 hO6))
    have hb6 : Below wo.heap.size wo w6 := hO6.below ((Below.refl wo.heap.size wo).alloc (Nat.le_refl _) _) (Nat.le_refl _)
    have hs6 := hO6.size
    rw [World.size_alloc] at hs6
    have hmm : ((n : Int) + 6) % 6 = (n : Int) % 6 := by omega
    rw [hmm]
    clear hmm
    have hmz : (n : Int) % 6 = 0 := by omega
    rw [hmz]
    clear hmz
    have hzz : ((0 : Int) == 0) = true := rfl
    rw [hzz]
    clear hzz
    clear hO6
    refine wp_region_last (.q 0 (.q 1 (.q 3 (.q 5 (.q 6 (.q 8 (.q 9 (.q 11 (.q 12 (.e [2] fun _ => .q 4 (.e [7] fun _ => .e [10] fun _ => .e [13] fun _ => .q 14 (.e [15] fun _ => .done))))))))))))
     (fun V => Blk V wo.heap.size 190 (byteCells (lastT W))) 15 rfl (by kernel_rfl) (fun _ _ d _ _ h => by cases d <;> exact h) ?_
    change wpS _ _ _ _ _ _ _ w6.drew
    have hBd : Blk w6.drew wo.heap.size 190 (byteCells (lastT W)) := hB6
    refine s_q rfl rfl hB6 _ (fun V hV => by (go_simp; rfl)) ?_
    go_simp
    refine s_q rfl rfl hB6 (.int .u8 (y1 : Int)) (fun V hV => by (have hc := C1.out V hV; go_simp)) ?_
    go_simp
    refine s_q rfl rfl hB6 _ (fun V hV => by (go_simp; rfl)) ?_
    go_simp
    refine s_q rfl rfl hB6 _ (fun V hV => by (go_simp; rfl)) ?_
    go_simp
    refine s_q rfl rfl hB6 (.int .u8 (y2 : Int)) (fun V hV => by (have hc := C2.out V hV; go_simp)) ?_
    go_simp
    refine s_q rfl rfl hB6 _ (fun V hV => by (go_simp; rfl)) ?_
    go_simp
    refine s_q rfl rfl hB6 (.int .u8 (y3 : Int)) (fun V hV => by (have hc := C3.out V hV; go_simp)) ?_
    go_simp
    refine s_q rfl rfl hB6 _ (fun V hV => by (go_simp; rfl)) ?_
    go_simp
    refine s_q rfl rfl hB6 (.int .u8 (y0 : Int)) (fun V hV => by (have hc := C0.out V hV; go_simp)) ?_
    go_simp
    refine s_e rfl rfl fun K hK => ?_
    go_simp
    refine (B1.out _).mono ?_
    rintro e wx1 ⟨rfl, mx1, rfl⟩
    refine hK _ _ (fun _ => hB6) ?_
    clear hK K
    go_simp
    refine s_q rfl rfl hB6 _ (fun V hV => by (go_simp; rfl)) ?_
    go_simp
    refine s_e rfl rfl fun K hK => ?_
    go_simp
    refine (B2.out _).mono ?_
    rintro e wx2 ⟨rfl, mx2, rfl⟩
    refine hK _ _ (fun _ => hB6) ?_
    clear hK K
    go_simp
    refine s_e rfl rfl fun K hK => ?_
    go_simp
    refine (B3.out _).mono ?_
    rintro e wx3 ⟨rfl, mx3, rfl⟩
    refine hK _ _ (fun _ => hB6) ?_
    clear hK K
    go_simp
    refine s_e rfl rfl fun K hK => ?_
    go_simp
    refine (B0.out _).mono ?_
    rintro e wx4 ⟨rfl, mx4, rfl⟩
    refine hK _ _ (fun _ => hB6) ?_
    clear hK K
    go_simp
    refine s_q rfl rfl hB6 _ (fun V hV => by (go_simp; rfl)) ?_
    go_simp
    refine s_e rfl rfl fun K hK => ?_
    refine op_store_row 190 (.tmp 9) (.tmp 57) rfl wo.heap.size (byteCells [b1x, b2, b3, b0]) rfl rfl 190 _ (Blk.drewN hB6 _) (by rw [info_4u8]; rfl) (by rw [hTs.out, HTL.out]; rfl) (bytes_one _) fun w7 hB7 hO7 => ?_
    refine hK _ _ (fun h => absurd rfl h) ?_
    clear hK K
    refine s_done ?_
    go_wp2_with fail
    refine (hMU.out _).mono ?_
    rintro e w8 ⟨rfl, rfl⟩
    go_wp2
    have hb7 : Below wo.heap.size wo w7 := hO7.below (below_drewN hb6 _) (Nat.le_refl _)
    have hs7 : w7.heap.size = wo.heap.size + 1 := hO7.size.trans hs6
    clear hs6
    have hs6 := hs7
    have hown6 := OwnN.below hown hb7 (Nat.le_refl _)
    have hbel6 : Below w.heap.size w w7 := hbel.trans (hb7.mono hbel.size)
    have hap6 : (Value.slice (some ⟨g, 0, none⟩) (X + 4) cap).ownBlock ≠ some wo.heap.size := fun e => by have := (World.ownsRow.lt hown _ e).2; omega
    have hwo := hbel.size
    obtain ⟨T, hT⟩ : ∃ T, tailG 6 W n P = T := ⟨_, rfl⟩
    rw [hT] at HX2 hTl2 hTb2
    rw [← HST2.out, hT] at hB7
    have hB6b := hB7; clear hB7
    have HTL2 := Lib.hid hTl2; clear hTl2
    have HTB2 := Lib.hid hTb2; clear hTb2
    clear hT hown hbel hBW hBT hO7 hb6 hb7 hBd hcap hTs HTB HTL HST2 C0 C1 C2 C3 B0 B1 B2 B3 hMU hB6 hxx hs7
   all_goals
    go_loopw [6, 78] (fun v i wv => ∃ k : Nat, k ≤ 4 ∧ i = .int .i64 k ∧ OwnN 5 .u8 wv w.heap.size v (nextW 6 W T k) ∧ Hid (v.ownBlock ≠ some wo.heap.size) ∧ Blk wv wo.heap.size 190 (byteCells T) ∧ Below w.heap.size w wv ∧ wo.heap.size < wv.heap.size) (fun _ i _ => 4 - (intOf i).toNat)
    case atStart => exact ⟨0, by omega, rfl, hown6, hap6, hB6b, hbel6, by omega⟩
    case round =>
     obtain ⟨k, hk, rfl, hown, hap, hBT, hbel, hws⟩ := hrel
     clear hown6 hap6 hB6b hbel6 hs6
     by_cases hkl : k < 4
     ·
      have hnl := nextW_len 6 W T k
      rw [HXW.out] at hnl
      obtain ⟨Z, hZ⟩ : ∃ Z, X + 4 - 24 + k = Z := ⟨_, rfl⟩
      have hnl2 : (nextW 6 W T k).length = Z + 24 := by omega
      have hZl : Z ≤ 300 := by omega
      obtain ⟨g2, cap2, rfl, hg2, hcap2, hgl2, hBN⟩ := (OwnN.bytes hown).form (by intro h; rw [h] at hnl2; simp at hnl2)
      have hsn : nextW 6 W T (k + 1) = nextW 6 W T k ++ [(nextW 6 W T k).getD Z 0 ^^^ T.getD k 0] := by rw [← hZ, ← HXW.out]; rfl
      rw [hnl2] at hcap2 hown hap ⊢
      have hc1 : wr.drew.cell? ⟨g2, Z, none⟩ = some (.int .u8 ((nextW 6 W T k).getD Z 0 : Nat)) := by
       have := hBN.cellD Z (by omega)
       rw [Nat.zero_add] at this
       exact this
      have hc2 : wr.drew.cell? ⟨wo.heap.size, k, none⟩ = some (.int .u8 (T.getD k 0 : Nat)) := by
       have := hBT.cell k
       rw [cellD _ k (by rw [HTL2.out]; exact hkl)] at this
       exact this
      have hkI : (k : Int) < 4 := by omega
      have hZlt : Z < Z + 24 := by omega
      have hZlI : (Z : Int) < (Z : Int) + 24 := by omega
      have e5 : IntKind.i64.wrap 24 = 24 := IntWalk.i64_in _ (by omega)
      have e6 : IntKind.i64.wrap (Z : Int) = (Z : Int) := IntWalk.i64_in _ (by omega)
      have e7 : IntKind.i64.wrap ((Z : Int) + 24 - 24) = (Z : Int) := by rw [IntWalk.i64_in _ (by omega)]; omega
      have hxx := u8_xor_nat ((nextW 6 W T k).getD Z 0) (T.getD k 0) ((nextW_byt 6 HWB.out HTB2.out k).at_ Z) (HTB2.out.at_ k)
      have hxl : (nextW 6 W T k).length + 1 ≤ 1000000000 := by omega
      generalize (nextW 6 W T k).getD Z 0 = x1 at *
      generalize T.getD k 0 = x2 at *
      obtain ⟨NK, hNK⟩ : ∃ NK, nextW 6 W T k = NK := ⟨_, rfl⟩
      rw [hNK] at hown hsn hxl
      have HSN := Lib.hid hsn; clear hsn hNK hnl hnl2 hBN hZ
      have hszr : w.heap.size ≤ wr.heap.size := hbel.size
      have hw2 : wr.drew.heap = wr.heap := rfl
      have hap1 : some wo.heap.size ≠ (Value.slice (some ⟨g2, 0, none⟩) (Z + 24) cap2).ownBlock := fun e => hap.out e.symm
      clear hap
      go_wp2_with fail
      refine wp_region_tree (.q 0 (.q 1 (.q 2 (.q 3 (.q 4 (.q 5 (.q 6 (.q 7 (.q 9 (.q 10 (.q 11 (.e [8] fun _ => .q 12 (.e [13] fun _ => .e [14] fun _ => .q 15 (.done))))))))))))))
       (fun W => W.cell? ⟨wo.heap.size, k, none⟩ = some (.int .u8 (x2 : Int))) rfl (by kernel_rfl) (fun _ _ d _ _ h => by cases d <;> exact h) ?_
      change wpT _ _ _ _ _ _ wr.drew
      iterate 10 (refine t_q rfl rfl hc2 _ (fun W hW => by (go_simp; rfl)) ?_; go_simp)
      refine t_q rfl rfl hc2 (.int .u8 (x2 : Int)) (fun W hW => by (go_simp)) ?_
      go_simp
      refine t_e rfl rfl fun K hK => ?_
      go_simp
      refine hK _ _ hc2 ?_
      clear hK K
      go_simp
      refine t_q rfl rfl hc2 _ (fun W hW => by (go_simp; rfl)) ?_
      go_simp
      refine t_e rfl rfl fun K hK => ?_
      go_simp
      have hc3 : (wr.drew.alloc (.cells #[.int .u8 ((x1 ^^^ x2 : Nat) : Int)] 5)).cell? ⟨wo.heap.size, k, none⟩ = some (.int .u8 (x2 : Int)) := by
       rw [World.cell?_alloc_lt _ _ _ (by show wo.heap.size < wr.heap.size; exact hws)]
       exact hc2
      refine hK _ _ hc3 ?_
      clear hK K
      change wpT _ _ _ _ _ _ (wr.drew.alloc (.cells #[.int .u8 ((x1 ^^^ x2 : Nat) : Int)] 5))
      have hown4 : OwnN 5 .u8 (wr.drew.alloc (.cells #[.int .u8 ((x1 ^^^ x2 : Nat) : Int)] 5)) w.heap.size _ NK := OwnN.below hown ((below_drewN (Below.refl wr.heap.size wr) 1).alloc (Nat.le_refl _) _) (Nat.le_refl _)
      refine t_e rfl rfl fun K hK => ?_
      refine op_append_numsW (.tmp 81) (.tmp 94) 22 rfl .u8 5 1 Tryz.underlying22 info_byte w.heap.size w _ NK rfl hown4 ((below_drewN hbel 1).alloc hszr _) (by simp; omega) _ 1 1 [x1 ^^^ x2] rfl rfl ⟨_, _, rfl, Ns.new .u8 wr.drew 5 (x1 ^^^ x2)⟩ hxl (by omega) fun v6 w6 hown6 hbel6 hgr6 hob6 => ?_
      rw [← HSN.out] at hown6
      have hgs := hgr6.size
      rw [World.size_alloc] at hgs
      have hblk : ∀ i, i = wo.heap.size → w6.heap[i]? = (wr.drew.alloc (.cells #[.int .u8 ((x1 ^^^ x2 : Nat) : Int)] 5)).heap[i]? := fun i hi => hgr6.block i (by rw [World.size_alloc, hi]; show wo.heap.size < wr.heap.size + 1; omega) (by rw [hi]; exact hap1)
      have hc4 : w6.cell? ⟨wo.heap.size, k, none⟩ = some (.int .u8 (x2 : Int)) := (World.cell?_of_block (a := ⟨wo.heap.size, k, none⟩) (hblk _ rfl)).trans hc3
      have hBT6 : Blk w6 wo.heap.size 190 (byteCells T) := (hblk _ rfl).trans ((hBT.drewN 1).alloc _)
      have hap6 : v6.ownBlock ≠ some wo.heap.size := fun e => by
       rcases hob6 with h | h
       ·
        exact hap1 (h.symm.trans e).symm
       ·
        rw [h] at e; injection e with e; rw [World.size_alloc] at e; have : wr.drew.heap.size = wr.heap.size := rfl; omega
      have hws6 : wo.heap.size < w6.heap.size := by have : wr.drew.heap.size = wr.heap.size := rfl; omega
      have HB6 := Lib.hid hBT6
      clear hgr6 hob6 hblk hBT6 hc1 hc2 hc3 hap1 hown hown4 hgs
      refine hK _ _ hc4 ?_
      clear hK K
      go_simp
      refine t_q rfl rfl hc4 _ (fun W hW => by (go_simp; rfl)) ?_
      go_simp
      refine t_done ?_
      go_wp2
      go_roundw
      case rel => exact ⟨k + 1, by omega, by go_num, hown6, hap6, HB6.out, hbel6, hws6⟩
      case measure => simp [intOf]; omega
     ·
      obtain rfl : k = 4 := by omega
      have hfin : (wordsTo 6 key (n + 1)).1 = nextW 6 W T 4 := by rw [HX2.out]
      have hfin2 : (wordsTo 6 key (n + 1)).2 = P2 := by rw [HX2.out]
      go_wp2
      go_roundw
      case rel => exact ⟨n + 1, by omega, by go_num, by rw [hfin2], by rw [hfin]; exact hown, hbel⟩
      case measure => simp [intOf]; omega
  ·
   obtain rfl : n = 46 := by omega
   have hfin : (wordsTo 6 key 46).1 = wordsG key := by rw [wordsG, HKL.out]
   rw [hfin] at hown
   go_wp2
   go_ret2
   exact ⟨⟨_, rfl, hown⟩, hbel⟩
end Go.Proofs.YthodpjcdmdbnoaaGreatDoor


/- The contract of aes.Words, of a key of 32 bytes. -/
namespace Go.Proofs.YthodpjcdmdbnoaaGreatDoor
open Go Go.RowKit Pr

set_option maxHeartbeats 8000000 in
set_option maxRecDepth 100000 in
theorem words32 (key : List Nat) (hl : key.length = 32) (hb : Byt key) (A : Option Addr) (cp : Nat) (w : World) (hA : At w A key) :
    Calls Tryz.prog 107 #[.slice A 32 cp] w fun e w' => (∃ v, e = .returned (.tuple #[v, .nilIface]) ∧ Own w' w.heap.size v (wordsG key)) ∧ Below w.heap.size w w' := by
 obtain ⟨ka, ko, rfl, hK⟩ := hA (by intro h; rw [h] at hl; cases hl)
 have hK1 : Bs (w.alloc (.cells #[] 5)) ka ko key := hK.alloc _
 have HOK := Lib.hid (fun n => wordsTo_ok 8 hb n)
 have HKL := Lib.hid hl; clear hl hA
 have HR := Lib.hid (fun A cp W => rounds32 A cp W)
 have harr : ∀ a c W, (Instr.arrayAt 190 (.slice a 4 c)).run Tryz.prog W = .ok (.pointer a) W := fun a c W => run_arrayAt _ 5 4 Tryz.underlying190 a 4 c (Nat.le_refl _) W
 go_enter Tryz.func107, Tryz.ntmps107
 go_wp2_with fail
 refine (HR.out _ _ _).mono ?_
 rintro e w1 ⟨rfl, rfl⟩
 go_wp2_with (at_builtin; go_loud (refine wpList_append_nums rfl (.tmp 20) (.tmp 21) 22 rfl .u8 5 1 Tryz.underlying22 info_byte w.heap.size w _ [] rfl (OwnN.start 5 .u8 w w.heap.size (Nat.le_refl _)) ((Below.refl _ _).alloc (Nat.le_refl _) _) (by simp) _ 32 cp key rfl HKL.out ⟨_, _, rfl, hK1⟩ (by simp) (by omega) ?_); intro v5 w5 hown5 hbel5 hsz5)
 rw [List.nil_append] at hown5
 clear hK1 hK
 go_loopw [6, 7, 8] (fun v p i wr => ∃ n : Nat, n ≤ 52 ∧ i = .int .i64 (n + 8 : Nat) ∧ p = .int .u8 ((wordsTo 8 key n).2 : Nat) ∧ OwnN 5 .u8 wr w.heap.size v (wordsTo 8 key n).1 ∧ Below w.heap.size w wr) (fun _ _ i _ => 60 - (intOf i).toNat)
 case atStart => exact ⟨0, by omega, rfl, rfl, hown5, hbel5⟩
 case round =>
  obtain ⟨n, hn, rfl, rfl, hown, hbel⟩ := hrel
  obtain ⟨hWl, hWb, hPl⟩ := HOK.out n
  rw [HKL.out] at hWl
  have hnx : wordsTo 8 key (n + 1) = (nextW 8 (wordsTo 8 key n).1 (tailG 8 (wordsTo 8 key n).1 n (wordsTo 8 key n).2) 4, if n % 8 = 0 then mulG (wordsTo 8 key n).2 2 else (wordsTo 8 key n).2) := rfl
  by_cases hlt : n < 52
  ·
   generalize (wordsTo 8 key n).1 = W at *
   generalize (wordsTo 8 key n).2 = P at *
   have HNX := Lib.hid hnx; clear hnx hown5 hbel5 hsz5
   obtain ⟨g, cap, rfl, hg, hcap, hgl, hBW⟩ := (OwnN.bytes hown).form (by intro h; rw [h] at hWl; simp at hWl; omega)
   obtain ⟨X, hX⟩ : ∃ X, W.length = X + 4 := ⟨W.length - 4, by omega⟩
   have hTl := lastT_len (w := W) (by omega)
   have hTb := lastT_byt hWb
   have hX12 : 28 ≤ X := by omega
   have hXle : X ≤ 236 := by omega
   have HXN : Hid (X = 28 + 4 * n) := by show X = 28 + 4 * n; omega
   rw [hX] at hown hcap ⊢
   clear hWl
   have hBT : Bs wr g X (lastT W) := by
    have := hBW.sub X 4
    rw [Nat.zero_add] at this
    rw [show (W.drop X).take 4 = lastT W by unfold lastT; rw [hX, show X + 4 - 4 = X by omega]; exact List.take_of_length_le (by simp; omega)] at this
    exact this
   have hTs := Lib.hid (size_byteCells (lastT W))
   have hsT : tailG 8 W n P = if n % 8 = 0 then [boxG ((lastT W).getD 1 0) ^^^ P, boxG ((lastT W).getD 2 0), boxG ((lastT W).getD 3 0), boxG ((lastT W).getD 0 0)] else if 8 = 8 ∧ n % 8 = 4 then (lastT W).map boxG else lastT W := rfl
   have HST := Lib.hid hsT; clear hsT
   have HTB := Lib.hid hTb; clear hTb
   have HTL := Lib.hid hTl; clear hTl
   have HWB := Lib.hid hWb; clear hWb
   have HXW := Lib.hid hX; clear hX
   obtain ⟨wo, rfl⟩ : ∃ wo, wo = wr := ⟨_, rfl⟩
   by_cases h4 : n % 8 = 0
   rotate_left
   by_cases h8 : n % 8 = 4
   focus
    have HX2 : Hid (wordsTo 8 key (n + 1) = (nextW 8 W ((lastT W).map boxG) 4, P)) := by
     have h1 := HNX.out
     have h2 := HST.out
     rw [if_neg h4] at h1 h2
     rw [if_pos ⟨rfl, h8⟩] at h2
     rw [h2] at h1
     exact h1
    clear HNX HST
    go_wp2_with (first
     | (refine wpList_load_bs rfl 190 (.tmp 36) rfl g X rfl (lastT W) hBT _ Tryz.underlying190 rfl (by rw [info_4u8, HTL.out]) ?_)
     | (refine wpList_store_all rfl 190 (.tmp 9) (.tmp 37) rfl wo.heap.size (byteCells (lastT W)) rfl rfl 190 _ (Blk.new wo _ _) (by rw [info_4u8, hTs.out, HTL.out]) (by rw [hTs.out, HTL.out]; rfl) (bytes_one _) ?_; intro w6 hB6 hO6))
    have hb6 : Below wo.heap.size wo w6 := hO6.below ((Below.refl wo.heap.size wo).alloc (Nat.le_refl _) _) (Nat.le_refl _)
    have hs6 := hO6.size
    rw [World.size_alloc] at hs6
    have hown6 := OwnN.below hown hb6 (Nat.le_refl _)
    have hbel6 : Below w.heap.size w w6 := hbel.trans (hb6.mono hbel.size)
    have hap6 : (Value.slice (some ⟨g, 0, none⟩) (X + 4) cap).ownBlock ≠ some wo.heap.size := fun e => by have := (World.ownsRow.lt hown _ e).2; omega
    have hwo := hbel.size
    obtain ⟨U, hU⟩ : ∃ U, lastT W = U := ⟨_, rfl⟩
    rw [hU] at hB6 HX2 HTB HTL
    clear hU hBW hBT hO6 hcap hTs
    obtain ⟨T, hT⟩ : ∃ T, U.map boxG = T := ⟨_, rfl⟩
    have hTl : T.length = 4 := by rw [← hT, List.length_map, HTL.out]
    have hTb : Byt T := by rw [← hT]; exact box_byt HTB.out
    have hmk : ∀ k, k < 4 → T.getD k 0 = boxG (U.getD k 0) := fun k hk => by
     rw [← hT, getD_of _ _ (by rw [List.length_map, HTL.out]; exact hk), getD_of _ _ (by rw [HTL.out]; exact hk), List.getElem_map]
    rw [hT] at HX2
    have HTL2 := Lib.hid hTl; clear hTl
    have HTB2 := Lib.hid hTb; clear hTb
    have HMK := Lib.hid hmk; clear hmk hT
    obtain ⟨P2, rfl⟩ : ∃ P2, P2 = P := ⟨_, rfl⟩
    have hmm : ((n : Int) + 8) % 8 = (n : Int) % 8 := by omega
    rw [hmm]
    clear hmm
    have hmz : ((n : Int) % 8 == 0) = false := by rw [beq_eq_false_iff_ne]; omega
    rw [hmz]
    clear hmz
    have hm4 : ((n : Int) % 8 == 4) = true := by rw [beq_iff_eq]; omega
    first | rw [hm4] | skip
    clear hm4
    go_loopw [68] (fun i wv => ∃ k : Nat, k ≤ 4 ∧ i = .int .i64 k ∧ Blk wv wo.heap.size 190 (byteCells (partN T U k)) ∧ Keep wo.heap.size w6 wv) (fun i _ => 4 - (intOf i).toNat)
    case atStart => exact ⟨0, by omega, rfl, by simpa [partN] using hB6, Keep.refl _ _⟩
    case' round =>
     obtain ⟨k, hk, rfl, hBr, hbr⟩ := hrel
     clear hB6
     by_cases hkl : k < 4
     rotate_left
     focus
      obtain rfl : k = 4 := by omega
      rw [show ((4 : Nat) : Int) = 4 from rfl]
      rw [partN_end T U 4 HTL2.out HTL.out] at hBr
      have hown6 := OwnN.keepW hown6 hbr hap6
      have hbel6 := hbr.below hbel6 (by have := hbel6.size; omega) hwo
      have hs6 : wr.heap.size ≥ wo.heap.size + 1 := by have := hbr.size; omega
      have hB6b := hBr; clear hBr
      obtain ⟨wz, rfl⟩ : ∃ wz, wz = wr := ⟨_, rfl⟩
      clear hown hbel hb6 hbr HTL HTB HMK
      go_wp2
     rotate_left
     focus
      have hpl := partN_len T U k 4 HTL2.out HTL.out hk
      have hfr : wr.frozen? ⟨wo.heap.size, k, none⟩ = false := hBr.frozen k
      have hcell : wr.cell? ⟨wo.heap.size, k, none⟩ = some (.int .u8 (U.getD k 0 : Nat)) := by
       have := hBr.cell k
       rw [cellD _ k (by omega), partN_at T U k 4 HTL2.out hkl] at this
       exact this
      have hC := Lib.hid (fun V => gfbox_any (U.getD k 0) (HTB.out.at_ k) V)
      have hst := partN_set T U k 4 HTL2.out HTL.out hkl
      rw [HMK.out k hkl] at hst
      have hnx := fun m => (hBr.drewN m).set_ k (.int .u8 ((boxG (U.getD k 0) : Nat) : Int))
      rw [set_byteCells, hst] at hnx
      have hfr2 : ∀ m, (wr.drewN m).frozen? ⟨wo.heap.size, k, none⟩ = false := fun m => (hBr.drewN m).frozen k
      generalize boxG (U.getD k 0) = y1 at *
      generalize U.getD k 0 = x1 at *
      have HNX := Lib.hid hnx; clear hnx hst hpl hBr
      have hkI : (k : Int) < 4 := by omega
      have hcell2 : ∀ m, (wr.drewN m).cell? ⟨wo.heap.size, k, none⟩ = some (.int .u8 (x1 : Int)) := fun m => hcell
      have HC2 := Lib.hid hcell2; clear hcell2
      have HF2 := Lib.hid hfr2; clear hfr2
      go_wp2_with fail
      refine (hC.out _).mono ?_
      rintro e w3 ⟨rfl, n3, rfl⟩
      have hfr3 := HF2.out n3
      have hcell3 := HC2.out n3
      have HB2 := Lib.hid (HNX.out n3)
      have HK2 := Lib.hid ((hbr.drewN n3).setCell k (.int .u8 (y1 : Int)))
      clear hbr HNX hfr hcell
      go_wp2
      go_roundw
      case rel => exact ⟨k + 1, by omega, by go_num, HB2.out, HK2.out⟩
      case measure => simp [intOf]; omega

   rotate_left
   focus
    have HX2 : Hid (wordsTo 8 key (n + 1) = (nextW 8 W (lastT W) 4, P)) := by
     have h1 := HNX.out
     have h2 := HST.out
     rw [if_neg h4] at h1 h2
     rw [if_neg (by omega)] at h2
     rw [h2] at h1
     exact h1
    clear HNX HST
    go_wp2_with (first
     | (refine wpList_load_bs rfl 190 (.tmp 36) rfl g X rfl (lastT W) hBT _ Tryz.underlying190 rfl (by rw [info_4u8, HTL.out]) ?_)
     | (refine wpList_store_all rfl 190 (.tmp 9) (.tmp 37) rfl wo.heap.size (byteCells (lastT W)) rfl rfl 190 _ (Blk.new wo _ _) (by rw [info_4u8, hTs.out, HTL.out]) (by rw [hTs.out, HTL.out]; rfl) (bytes_one _) ?_; intro w6 hB6 hO6))
    have hb6 : Below wo.heap.size wo w6 := hO6.below ((Below.refl wo.heap.size wo).alloc (Nat.le_refl _) _) (Nat.le_refl _)
    have hs6 := hO6.size
    rw [World.size_alloc] at hs6
    have hown6 := OwnN.below hown hb6 (Nat.le_refl _)
    have hbel6 : Below w.heap.size w w6 := hbel.trans (hb6.mono hbel.size)
    have hap6 : (Value.slice (some ⟨g, 0, none⟩) (X + 4) cap).ownBlock ≠ some wo.heap.size := fun e => by have := (World.ownsRow.lt hown _ e).2; omega
    have hwo := hbel.size
    obtain ⟨T, hT⟩ : ∃ T, lastT W = T := ⟨_, rfl⟩
    rw [hT] at hB6 HX2 HTB HTL
    have hB6b := hB6; clear hB6
    have HTL2 := HTL; have HTB2 := HTB
    obtain ⟨P2, rfl⟩ : ∃ P2, P2 = P := ⟨_, rfl⟩
    clear hT hown hbel hBW hBT hO6 hb6 hcap hTs HTL HTB
    have hmm : ((n : Int) + 8) % 8 = (n : Int) % 8 := by omega
    rw [hmm]
    clear hmm
    have hmz : ((n : Int) % 8 == 0) = false := by rw [beq_eq_false_iff_ne]; omega
    rw [hmz]
    clear hmz
    have hm4 : ((n : Int) % 8 == 4) = false := by rw [beq_eq_false_iff_ne]; omega
    first | rw [hm4] | skip
    clear hm4
   rotate_left
   focus
    have hTl2 := tailG_len 8 (w := W) (by rw [HXW.out]; omega) n P
    have hTb2 := tailG_byt 8 HWB.out n hPl
    have HX2 : Hid (wordsTo 8 key (n + 1) = (nextW 8 W (tailG 8 W n P) 4, mulG P 2)) := by
     have h1 := HNX.out
     rw [if_pos h4] at h1
     exact h1
    have hst2 := HST.out
    rw [if_pos h4] at hst2
    clear HNX HST
    have hcc : ∀ V : World, Blk V wo.heap.size 190 (byteCells (lastT W)) → ∀ j, j < 4 → V.cell? ⟨wo.heap.size, j, none⟩ = some (.int .u8 ((lastT W).getD j 0 : Nat)) := fun V hV j hj => by
     rw [hV.cell j, cellD _ j (by rw [HTL.out]; exact hj)]
    have z0 := HTB.out.at_ 0
    have z1 := HTB.out.at_ 1
    have z2 := HTB.out.at_ 2
    have z3 := HTB.out.at_ 3
    have c0 := fun V hV => hcc V hV 0 (by omega)
    have c1 := fun V hV => hcc V hV 1 (by omega)
    have c2 := fun V hV => hcc V hV 2 (by omega)
    have c3 := fun V hV => hcc V hV 3 (by omega)
    clear hcc
    generalize (lastT W).getD 0 0 = y0 at *
    generalize (lastT W).getD 1 0 = y1 at *
    generalize (lastT W).getD 2 0 = y2 at *
    generalize (lastT W).getD 3 0 = y3 at *
    have B0 := Lib.hid (fun V => gfbox_any y0 z0 V)
    have B1 := Lib.hid (fun V => gfbox_any y1 z1 V)
    have B2 := Lib.hid (fun V => gfbox_any y2 z2 V)
    have B3 := Lib.hid (fun V => gfbox_any y3 z3 V)
    have hxx := u8_xor_nat (boxG y1) P (boxG_lt _ z1) hPl
    have hMU := Lib.hid (fun V => mul_any P 2 hPl (by omega) V)
    generalize boxG y0 = b0 at *
    generalize boxG y1 = b1 at *
    generalize boxG y2 = b2 at *
    generalize boxG y3 = b3 at *
    generalize b1 ^^^ P = b1x at *
    generalize mulG P 2 = P2 at *
    have HST2 := Lib.hid hst2; clear hst2
    have C0 := Lib.hid c0; clear c0
    have C1 := Lib.hid c1; clear c1
    have C2 := Lib.hid c2; clear c2
    have C3 := Lib.hid c3; clear c3
    go_wp2_with (first
     | (refine wpList_load_bs rfl 190 (.tmp 36) rfl g X rfl (lastT W) hBT _ Tryz.underlying190 rfl (by rw [info_4u8, HTL.out]) ?_)
     | (refine wpList_store_all rfl 190 (.tmp 9) (.tmp 37) rfl wo.heap.size (byteCells (lastT W)) rfl rfl 190 _ (Blk.new wo _ _) (by rw [info_4u8, hTs.out, HTL.out]) (by rw [hTs.out, HTL.out]; rfl) (bytes_one _) ?_; intro w6 hB6 hO6))
    have hb6 : Below wo.heap.size wo w6 := hO6.below ((Below.refl wo.heap.size wo).alloc (Nat.le_refl _) _) (Nat.le_refl _)
    have hs6 := hO6.size
    rw [World.size_alloc] at hs6
    have hmm : ((n : Int) + 8) % 8 = (n : Int) % 8 := by omega
    rw [hmm]
    clear hmm
    have hmz : (n : Int) % 8 = 0 := by omega
    rw [hmz]
    clear hmz
    have hzz : ((0 : Int) == 0) = true := rfl
    rw [hzz]
    clear hzz
    clear hO6
    refine wp_region_last (.q 0 (.q 1 (.q 3 (.q 5 (.q 6 (.q 8 (.q 9 (.q 11 (.q 12 (.e [2] fun _ => .q 4 (.e [7] fun _ => .e [10] fun _ => .e [13] fun _ => .q 14 (.e [15] fun _ => .done))))))))))))
     (fun V => Blk V wo.heap.size 190 (byteCells (lastT W))) 15 rfl (by kernel_rfl) (fun _ _ d _ _ h => by cases d <;> exact h) ?_
    change wpS _ _ _ _ _ _ _ w6.drew
    have hBd : Blk w6.drew wo.heap.size 190 (byteCells (lastT W)) := hB6
    refine s_q rfl rfl hB6 _ (fun V hV => by (go_simp; rfl)) ?_
    go_simp
    refine s_q rfl rfl hB6 (.int .u8 (y1 : Int)) (fun V hV => by (have hc := C1.out V hV; go_simp)) ?_
    go_simp
    refine s_q rfl rfl hB6 _ (fun V hV => by (go_simp; rfl)) ?_
    go_simp
    refine s_q rfl rfl hB6 _ (fun V hV => by (go_simp; rfl)) ?_
    go_simp
    refine s_q rfl rfl hB6 (.int .u8 (y2 : Int)) (fun V hV => by (have hc := C2.out V hV; go_simp)) ?_
    go_simp
    refine s_q rfl rfl hB6 _ (fun V hV => by (go_simp; rfl)) ?_
    go_simp
    refine s_q rfl rfl hB6 (.int .u8 (y3 : Int)) (fun V hV => by (have hc := C3.out V hV; go_simp)) ?_
    go_simp
    refine s_q rfl rfl hB6 _ (fun V hV => by (go_simp; rfl)) ?_
    go_simp
    refine s_q rfl rfl hB6 (.int .u8 (y0 : Int)) (fun V hV => by (have hc := C0.out V hV; go_simp)) ?_
    go_simp
    refine s_e rfl rfl fun K hK => ?_
    go_simp
    refine (B1.out _).mono ?_
    rintro e wx1 ⟨rfl, mx1, rfl⟩
    refine hK _ _ (fun _ => hB6) ?_
    clear hK K
    go_simp
    refine s_q rfl rfl hB6 _ (fun V hV => by (go_simp; rfl)) ?_
    go_simp
    refine s_e rfl rfl fun K hK => ?_
    go_simp
    refine (B2.out _).mono ?_
    rintro e wx2 ⟨rfl, mx2, rfl⟩
    refine hK _ _ (fun _ => hB6) ?_
    clear hK K
    go_simp
    refine s_e rfl rfl fun K hK => ?_
    go_simp
    refine (B3.out _).mono ?_
    rintro e wx3 ⟨rfl, mx3, rfl⟩
    refine hK _ _ (fun _ => hB6) ?_
    clear hK K
    go_simp
    refine s_e rfl rfl fun K hK => ?_
    go_simp
    refine (B0.out _).mono ?_
    rintro e wx4 ⟨rfl, mx4, rfl⟩
    refine hK _ _ (fun _ => hB6) ?_
    clear hK K
    go_simp
    refine s_q rfl rfl hB6 _ (fun V hV => by (go_simp; rfl)) ?_
    go_simp
    refine s_e rfl rfl fun K hK => ?_
    refine op_store_row 190 (.tmp 9) (.tmp 57) rfl wo.heap.size (byteCells [b1x, b2, b3, b0]) rfl rfl 190 _ (Blk.drewN hB6 _) (by rw [info_4u8]; rfl) (by rw [hTs.out, HTL.out]; rfl) (bytes_one _) fun w7 hB7 hO7 => ?_
    refine hK _ _ (fun h => absurd rfl h) ?_
    clear hK K
    refine s_done ?_
    go_wp2_with fail
    refine (hMU.out _).mono ?_
    rintro e w8 ⟨rfl, rfl⟩
    go_wp2
    have hb7 : Below wo.heap.size wo w7 := hO7.below (below_drewN hb6 _) (Nat.le_refl _)
    have hs7 : w7.heap.size = wo.heap.size + 1 := hO7.size.trans hs6
    clear hs6
    have hs6 := hs7
    have hown6 := OwnN.below hown hb7 (Nat.le_refl _)
    have hbel6 : Below w.heap.size w w7 := hbel.trans (hb7.mono hbel.size)
    have hap6 : (Value.slice (some ⟨g, 0, none⟩) (X + 4) cap).ownBlock ≠ some wo.heap.size := fun e => by have := (World.ownsRow.lt hown _ e).2; omega
    have hwo := hbel.size
    obtain ⟨T, hT⟩ : ∃ T, tailG 8 W n P = T := ⟨_, rfl⟩
    rw [hT] at HX2 hTl2 hTb2
    rw [← HST2.out, hT] at hB7
    have hB6b := hB7; clear hB7
    have HTL2 := Lib.hid hTl2; clear hTl2
    have HTB2 := Lib.hid hTb2; clear hTb2
    clear hT hown hbel hBW hBT hO7 hb6 hb7 hBd hcap hTs HTB HTL HST2 C0 C1 C2 C3 B0 B1 B2 B3 hMU hB6 hxx hs7
   all_goals
    go_loopw [6, 78] (fun v i wv => ∃ k : Nat, k ≤ 4 ∧ i = .int .i64 k ∧ OwnN 5 .u8 wv w.heap.size v (nextW 8 W T k) ∧ Hid (v.ownBlock ≠ some wo.heap.size) ∧ Blk wv wo.heap.size 190 (byteCells T) ∧ Below w.heap.size w wv ∧ wo.heap.size < wv.heap.size) (fun _ i _ => 4 - (intOf i).toNat)
    case atStart => exact ⟨0, by omega, rfl, hown6, hap6, hB6b, hbel6, by omega⟩
    case round =>
     obtain ⟨k, hk, rfl, hown, hap, hBT, hbel, hws⟩ := hrel
     clear hown6 hap6 hB6b hbel6 hs6
     by_cases hkl : k < 4
     ·
      have hnl := nextW_len 8 W T k
      rw [HXW.out] at hnl
      obtain ⟨Z, hZ⟩ : ∃ Z, X + 4 - 32 + k = Z := ⟨_, rfl⟩
      have hnl2 : (nextW 8 W T k).length = Z + 32 := by omega
      have hZl : Z ≤ 300 := by omega
      obtain ⟨g2, cap2, rfl, hg2, hcap2, hgl2, hBN⟩ := (OwnN.bytes hown).form (by intro h; rw [h] at hnl2; simp at hnl2)
      have hsn : nextW 8 W T (k + 1) = nextW 8 W T k ++ [(nextW 8 W T k).getD Z 0 ^^^ T.getD k 0] := by rw [← hZ, ← HXW.out]; rfl
      rw [hnl2] at hcap2 hown hap ⊢
      have hc1 : wr.drew.cell? ⟨g2, Z, none⟩ = some (.int .u8 ((nextW 8 W T k).getD Z 0 : Nat)) := by
       have := hBN.cellD Z (by omega)
       rw [Nat.zero_add] at this
       exact this
      have hc2 : wr.drew.cell? ⟨wo.heap.size, k, none⟩ = some (.int .u8 (T.getD k 0 : Nat)) := by
       have := hBT.cell k
       rw [cellD _ k (by rw [HTL2.out]; exact hkl)] at this
       exact this
      have hkI : (k : Int) < 4 := by omega
      have hZlt : Z < Z + 32 := by omega
      have hZlI : (Z : Int) < (Z : Int) + 32 := by omega
      have e5 : IntKind.i64.wrap 32 = 32 := IntWalk.i64_in _ (by omega)
      have e6 : IntKind.i64.wrap (Z : Int) = (Z : Int) := IntWalk.i64_in _ (by omega)
      have e7 : IntKind.i64.wrap ((Z : Int) + 32 - 32) = (Z : Int) := by rw [IntWalk.i64_in _ (by omega)]; omega
      have hxx := u8_xor_nat ((nextW 8 W T k).getD Z 0) (T.getD k 0) ((nextW_byt 8 HWB.out HTB2.out k).at_ Z) (HTB2.out.at_ k)
      have hxl : (nextW 8 W T k).length + 1 ≤ 1000000000 := by omega
      generalize (nextW 8 W T k).getD Z 0 = x1 at *
      generalize T.getD k 0 = x2 at *
      obtain ⟨NK, hNK⟩ : ∃ NK, nextW 8 W T k = NK := ⟨_, rfl⟩
      rw [hNK] at hown hsn hxl
      have HSN := Lib.hid hsn; clear hsn hNK hnl hnl2 hBN hZ
      have hszr : w.heap.size ≤ wr.heap.size := hbel.size
      have hw2 : wr.drew.heap = wr.heap := rfl
      have hap1 : some wo.heap.size ≠ (Value.slice (some ⟨g2, 0, none⟩) (Z + 32) cap2).ownBlock := fun e => hap.out e.symm
      clear hap
      go_wp2_with fail
      refine wp_region_tree (.q 0 (.q 1 (.q 2 (.q 3 (.q 4 (.q 5 (.q 6 (.q 7 (.q 9 (.q 10 (.q 11 (.e [8] fun _ => .q 12 (.e [13] fun _ => .e [14] fun _ => .q 15 (.done))))))))))))))
       (fun W => W.cell? ⟨wo.heap.size, k, none⟩ = some (.int .u8 (x2 : Int))) rfl (by kernel_rfl) (fun _ _ d _ _ h => by cases d <;> exact h) ?_
      change wpT _ _ _ _ _ _ wr.drew
      iterate 10 (refine t_q rfl rfl hc2 _ (fun W hW => by (go_simp; rfl)) ?_; go_simp)
      refine t_q rfl rfl hc2 (.int .u8 (x2 : Int)) (fun W hW => by (go_simp)) ?_
      go_simp
      refine t_e rfl rfl fun K hK => ?_
      go_simp
      refine hK _ _ hc2 ?_
      clear hK K
      go_simp
      refine t_q rfl rfl hc2 _ (fun W hW => by (go_simp; rfl)) ?_
      go_simp
      refine t_e rfl rfl fun K hK => ?_
      go_simp
      have hc3 : (wr.drew.alloc (.cells #[.int .u8 ((x1 ^^^ x2 : Nat) : Int)] 5)).cell? ⟨wo.heap.size, k, none⟩ = some (.int .u8 (x2 : Int)) := by
       rw [World.cell?_alloc_lt _ _ _ (by show wo.heap.size < wr.heap.size; exact hws)]
       exact hc2
      refine hK _ _ hc3 ?_
      clear hK K
      change wpT _ _ _ _ _ _ (wr.drew.alloc (.cells #[.int .u8 ((x1 ^^^ x2 : Nat) : Int)] 5))
      have hown4 : OwnN 5 .u8 (wr.drew.alloc (.cells #[.int .u8 ((x1 ^^^ x2 : Nat) : Int)] 5)) w.heap.size _ NK := OwnN.below hown ((below_drewN (Below.refl wr.heap.size wr) 1).alloc (Nat.le_refl _) _) (Nat.le_refl _)
      refine t_e rfl rfl fun K hK => ?_
      refine op_append_numsW (.tmp 81) (.tmp 94) 22 rfl .u8 5 1 Tryz.underlying22 info_byte w.heap.size w _ NK rfl hown4 ((below_drewN hbel 1).alloc hszr _) (by simp; omega) _ 1 1 [x1 ^^^ x2] rfl rfl ⟨_, _, rfl, Ns.new .u8 wr.drew 5 (x1 ^^^ x2)⟩ hxl (by omega) fun v6 w6 hown6 hbel6 hgr6 hob6 => ?_
      rw [← HSN.out] at hown6
      have hgs := hgr6.size
      rw [World.size_alloc] at hgs
      have hblk : ∀ i, i = wo.heap.size → w6.heap[i]? = (wr.drew.alloc (.cells #[.int .u8 ((x1 ^^^ x2 : Nat) : Int)] 5)).heap[i]? := fun i hi => hgr6.block i (by rw [World.size_alloc, hi]; show wo.heap.size < wr.heap.size + 1; omega) (by rw [hi]; exact hap1)
      have hc4 : w6.cell? ⟨wo.heap.size, k, none⟩ = some (.int .u8 (x2 : Int)) := (World.cell?_of_block (a := ⟨wo.heap.size, k, none⟩) (hblk _ rfl)).trans hc3
      have hBT6 : Blk w6 wo.heap.size 190 (byteCells T) := (hblk _ rfl).trans ((hBT.drewN 1).alloc _)
      have hap6 : v6.ownBlock ≠ some wo.heap.size := fun e => by
       rcases hob6 with h | h
       ·
        exact hap1 (h.symm.trans e).symm
       ·
        rw [h] at e; injection e with e; rw [World.size_alloc] at e; have : wr.drew.heap.size = wr.heap.size := rfl; omega
      have hws6 : wo.heap.size < w6.heap.size := by have : wr.drew.heap.size = wr.heap.size := rfl; omega
      have HB6 := Lib.hid hBT6
      clear hgr6 hob6 hblk hBT6 hc1 hc2 hc3 hap1 hown hown4 hgs
      refine hK _ _ hc4 ?_
      clear hK K
      go_simp
      refine t_q rfl rfl hc4 _ (fun W hW => by (go_simp; rfl)) ?_
      go_simp
      refine t_done ?_
      go_wp2
      go_roundw
      case rel => exact ⟨k + 1, by omega, by go_num, hown6, hap6, HB6.out, hbel6, hws6⟩
      case measure => simp [intOf]; omega
     ·
      obtain rfl : k = 4 := by omega
      have hfin : (wordsTo 8 key (n + 1)).1 = nextW 8 W T 4 := by rw [HX2.out]
      have hfin2 : (wordsTo 8 key (n + 1)).2 = P2 := by rw [HX2.out]
      go_wp2
      go_roundw
      case rel => exact ⟨n + 1, by omega, by go_num, by rw [hfin2], by rw [hfin]; exact hown, hbel⟩
      case measure => simp [intOf]; omega
  ·
   obtain rfl : n = 52 := by omega
   have hfin : (wordsTo 8 key 52).1 = wordsG key := by rw [wordsG, HKL.out]
   rw [hfin] at hown
   go_wp2
   go_ret2
   exact ⟨⟨_, rfl, hown⟩, hbel⟩
end Go.Proofs.YthodpjcdmdbnoaaGreatDoor

