/- The contracts of Cipher.wide, Cipher.Do, of AES with a key of 16 bytes. -/
import Derived.Test.YtnkgglmfoimbhaaGreatDoorAesD
namespace Go.Proofs.YtnkgglmfoimbhaaGreatDoor
open Go Go.RowKit Pr

def aesN (key x : List Nat) (back : Bool) : List Nat := if back then decG x (wordsG key) 10 else encG x (wordsG key) 10
theorem aesN_len (key x : List Nat) (back : Bool) : (aesN key x back).length = 16 := by
  unfold aesN
  split
  · exact decG_len _ _ _
  · exact encG_len _ _ _

theorem aes_calls (key x : List Nat) (hkl : key.length = 16) (hkb : Byt key) (hx : x.length = 16) (gx : Byt x) (A : Option Addr) (cp : Nat) (W : World) (hA : At W A key) :
    (Calls Tryz.prog 100 #[.slice A 16 cp, .agg (byteCells x)] W fun e w' => e = .returned (.tuple #[.agg (byteCells (aesN key x true)), .nilIface]) ∧ Below W.heap.size W w') ∧
    Calls Tryz.prog 101 #[.slice A 16 cp, .agg (byteCells x)] W fun e w' => e = .returned (.tuple #[.agg (byteCells (aesN key x false)), .nilIface]) ∧ Below W.heap.size W w' :=
  ⟨decrypt_any key x hkl hkb hx gx A cp W hA, encrypt_any key x hkl hkb hx gx A cp W hA⟩

set_option maxHeartbeats 4000000 in
set_option maxRecDepth 100000 in
theorem wide_any (g : Nat) (key : List Nat) (hkl : key.length = 16) (hkb : Byt key) (bk : Value) (x : List Nat) (hx : x.length = 16) (gx : Byt x) (back : Bool) (w : World) (hC : CipherAt w g 1 key bk) :
    Calls Tryz.prog 78 #[.pointer (some ⟨g, 0, none⟩), .agg (byteCells x), .bool back] w fun e w' => e = .returned (.tuple #[.agg (byteCells (aesN key x back)), .nilIface]) ∧ Below w.heap.size w w' := by
  obtain ⟨gk, cp, hB, hcp, hK, hgk⟩ := hC
  have hgl := hB.lt
  have c0 : ∀ o1 o2, ((w.alloc o1).alloc o2).cell? ⟨g, 0, none⟩ = some (.int .i64 1) := fun o1 o2 => ((hB.alloc o1).alloc o2).cell 0
  have c1 : ∀ W, Below w.heap.size w W → W.cell? ⟨g, 1, none⟩ = some (.slice (some ⟨gk, 0, none⟩) 16 cp) := fun W hW => by
    have := (hB.below hW hgl).cell 1
    rw [hkl] at this
    exact this
  have hKA : ∀ W, Below w.heap.size w W → At W (some ⟨gk, 0, none⟩) key := fun W hW _ => ⟨_, _, rfl, hK.below hW hgk⟩
  have HC := Lib.hid (fun W hA => aes_calls key x hkl hkb hx gx (some ⟨gk, 0, none⟩) cp W hA)
  have hvl := aesN_len key x
  have C1 := Lib.hid c1; clear c1
  have KA := Lib.hid hKA; clear hKA
  have hsz := Lib.hid (size_byteCells x)
  have HXL := Lib.hid hx; clear hx gx hkl hkb hB hK
  obtain ⟨cx, hcx⟩ : ∃ cx, byteCells x = cx := ⟨_, rfl⟩
  have HCX := Lib.hid hcx
  have hbx : ∀ W, Blk W w.heap.size 39 cx → Bs W w.heap.size 0 x := fun W hW => by
    rw [← HCX.out] at hW
    exact Bs.of_blk hW (fun j c hj => by rw [Nat.zero_add]; exact hj)
  have HBX := Lib.hid hbx; clear hbx
  cases back with
  | true =>
    have hvl := hvl true
    generalize aesN key x true = V at *
    have HVL := Lib.hid hvl; clear hvl
    rw [hcx]
    clear hcx
    go_enter Tryz.func78, Tryz.ntmps78
    have c00 := c0 (.cells cx 39) (.cells #[Value.int IntKind.u8 0, Value.int IntKind.u8 0, Value.int IntKind.u8 0, Value.int IntKind.u8 0, Value.int IntKind.u8 0, Value.int IntKind.u8 0, Value.int IntKind.u8 0, Value.int IntKind.u8 0, Value.int IntKind.u8 0, Value.int IntKind.u8 0, Value.int IntKind.u8 0, Value.int IntKind.u8 0, Value.int IntKind.u8 0, Value.int IntKind.u8 0, Value.int IntKind.u8 0, Value.int IntKind.u8 0] 39)
    have hz := Blk.new2 w (.cells cx 39) 39 #[Value.int IntKind.u8 0, Value.int IntKind.u8 0, Value.int IntKind.u8 0, Value.int IntKind.u8 0, Value.int IntKind.u8 0, Value.int IntKind.u8 0, Value.int IntKind.u8 0, Value.int IntKind.u8 0, Value.int IntKind.u8 0, Value.int IntKind.u8 0, Value.int IntKind.u8 0, Value.int IntKind.u8 0, Value.int IntKind.u8 0, Value.int IntKind.u8 0, Value.int IntKind.u8 0, Value.int IntKind.u8 0]
    have hxw := (Blk.new w 39 cx).alloc (.cells #[Value.int IntKind.u8 0, Value.int IntKind.u8 0, Value.int IntKind.u8 0, Value.int IntKind.u8 0, Value.int IntKind.u8 0, Value.int IntKind.u8 0, Value.int IntKind.u8 0, Value.int IntKind.u8 0, Value.int IntKind.u8 0, Value.int IntKind.u8 0, Value.int IntKind.u8 0, Value.int IntKind.u8 0, Value.int IntKind.u8 0, Value.int IntKind.u8 0, Value.int IntKind.u8 0, Value.int IntKind.u8 0] 39)
    have hbel := ((Below.refl w.heap.size w).alloc (Nat.le_refl _) (.cells cx 39)).alloc (by simp) (.cells #[Value.int IntKind.u8 0, Value.int IntKind.u8 0, Value.int IntKind.u8 0, Value.int IntKind.u8 0, Value.int IntKind.u8 0, Value.int IntKind.u8 0, Value.int IntKind.u8 0, Value.int IntKind.u8 0, Value.int IntKind.u8 0, Value.int IntKind.u8 0, Value.int IntKind.u8 0, Value.int IntKind.u8 0, Value.int IntKind.u8 0, Value.int IntKind.u8 0, Value.int IntKind.u8 0, Value.int IntKind.u8 0] 39)
    go_wp2_with fail
    generalize hw1 : (w.alloc (.cells cx 39)).alloc (.cells #[Value.int IntKind.u8 0, Value.int IntKind.u8 0, Value.int IntKind.u8 0, Value.int IntKind.u8 0, Value.int IntKind.u8 0, Value.int IntKind.u8 0, Value.int IntKind.u8 0, Value.int IntKind.u8 0, Value.int IntKind.u8 0, Value.int IntKind.u8 0, Value.int IntKind.u8 0, Value.int IntKind.u8 0, Value.int IntKind.u8 0, Value.int IntKind.u8 0, Value.int IntKind.u8 0, Value.int IntKind.u8 0] 39) = w1 at *
    obtain ⟨Z, hZ⟩ : ∃ Z : Array Value, Z = #[Value.int IntKind.u8 0, Value.int IntKind.u8 0, Value.int IntKind.u8 0, Value.int IntKind.u8 0, Value.int IntKind.u8 0, Value.int IntKind.u8 0, Value.int IntKind.u8 0, Value.int IntKind.u8 0, Value.int IntKind.u8 0, Value.int IntKind.u8 0, Value.int IntKind.u8 0, Value.int IntKind.u8 0, Value.int IntKind.u8 0, Value.int IntKind.u8 0, Value.int IntKind.u8 0, Value.int IntKind.u8 0] := ⟨_, rfl⟩
    rw [← hZ] at hz
    have hZs : Z.size = 16 := by rw [hZ]; rfl
    clear hZ hw1 c00 c0
    refine wp_region_tree (.q 0 (.q 1 (.q 2 (.q 3 (.q 4 (.e [5] fun _ => .q 6 (.q 7 (.e [8] fun _ => .q 9 (.done)))))))))
      (fun W => Below w.heap.size w W ∧ Blk W w.heap.size 39 cx) rfl (by kernel_rfl) (fun _ _ d _ _ h => by cases d <;> exact h) ?_
    change wpT _ _ _ _ _ _ w1.drew
    have hS : Below w.heap.size w w1.drew ∧ Blk w1.drew w.heap.size 39 cx := ⟨below_drewN hbel 1, hxw⟩
    have hz1 : Blk w1.drew (w.heap.size + 1) 39 Z := hz
    clear hbel hxw hz
    generalize w1.drew = w2 at *
    iterate 3 (refine t_q rfl rfl hS _ (fun W hW => by (go_simp; rfl)) ?_; go_simp)
    refine t_q rfl rfl hS (.slice (some ⟨gk, 0, none⟩) 16 cp) (fun W hW => by (have hc := C1.out W hW.1; go_simp)) ?_
    go_simp
    refine t_load_bs rfl rfl 39 (.tmp 4) rfl w.heap.size 0 rfl x hS (fun W hW => HBX.out W hW.2) _ Tryz.underlying39 rfl (by rw [info_16u8, HXL.out]) ?_
    go_simp
    refine t_e rfl rfl fun K hK => ?_
    go_simp
    refine ((HC.out _ (KA.out _ hS.1)).1).mono ?_
    rintro e w3 ⟨rfl, hb3⟩
    have hS3 : Below w.heap.size w w3 ∧ Blk w3 w.heap.size 39 cx := ⟨hS.1.trans (hb3.mono hS.1.size), hS.2.below hb3 hS.2.lt⟩
    have hz3 := hz1.below hb3 hz1.lt
    refine hK _ _ hS3 ?_
    clear hK K hb3 hz1 hS
    go_simp
    iterate 2 (refine t_q rfl rfl hS3 _ (fun W hW => by (go_simp; rfl)) ?_; go_simp)
    refine t_e rfl rfl fun K hK => ?_
    refine op_store_row 39 (.tmp 6) (.tmp 36) rfl (w.heap.size + 1) (byteCells V) rfl rfl 39 _ hz3 (by rw [info_16u8, size_byteCells, HVL.out]) (by rw [size_byteCells, HVL.out, hZs]) (bytes_one _) fun w5 hB5 hO5 => ?_
    have hS5 : Below w.heap.size w w5 ∧ Blk w5 w.heap.size 39 cx := ⟨hO5.below hS3.1 (by omega), hS3.2.only hO5 (by omega)⟩
    refine hK _ _ hS5 ?_
    clear hK K hO5 hS3 hz3
    go_simp
    refine t_q rfl rfl hS5 _ (fun W hW => by (go_simp; rfl)) ?_
    go_simp
    refine t_done ?_
    go_wp2
    refine bodyPost_ret (v := .tuple #[.agg (byteCells V), .nilIface]) (results_agg_tmp rfl _ _ (w.heap.size + 1) 39 (byteCells V) _ (by rfl) hB5 Tryz.underlying39 rfl (by rw [info_16u8, size_byteCells, HVL.out]) _ (by rfl)) rfl ⟨rfl, hS5.1⟩
  | false =>
    have hvl := hvl false
    generalize aesN key x false = V at *
    have HVL := Lib.hid hvl; clear hvl
    rw [hcx]
    clear hcx
    go_enter Tryz.func78, Tryz.ntmps78
    have c00 := c0 (.cells cx 39) (.cells #[Value.int IntKind.u8 0, Value.int IntKind.u8 0, Value.int IntKind.u8 0, Value.int IntKind.u8 0, Value.int IntKind.u8 0, Value.int IntKind.u8 0, Value.int IntKind.u8 0, Value.int IntKind.u8 0, Value.int IntKind.u8 0, Value.int IntKind.u8 0, Value.int IntKind.u8 0, Value.int IntKind.u8 0, Value.int IntKind.u8 0, Value.int IntKind.u8 0, Value.int IntKind.u8 0, Value.int IntKind.u8 0] 39)
    have hz := Blk.new2 w (.cells cx 39) 39 #[Value.int IntKind.u8 0, Value.int IntKind.u8 0, Value.int IntKind.u8 0, Value.int IntKind.u8 0, Value.int IntKind.u8 0, Value.int IntKind.u8 0, Value.int IntKind.u8 0, Value.int IntKind.u8 0, Value.int IntKind.u8 0, Value.int IntKind.u8 0, Value.int IntKind.u8 0, Value.int IntKind.u8 0, Value.int IntKind.u8 0, Value.int IntKind.u8 0, Value.int IntKind.u8 0, Value.int IntKind.u8 0]
    have hxw := (Blk.new w 39 cx).alloc (.cells #[Value.int IntKind.u8 0, Value.int IntKind.u8 0, Value.int IntKind.u8 0, Value.int IntKind.u8 0, Value.int IntKind.u8 0, Value.int IntKind.u8 0, Value.int IntKind.u8 0, Value.int IntKind.u8 0, Value.int IntKind.u8 0, Value.int IntKind.u8 0, Value.int IntKind.u8 0, Value.int IntKind.u8 0, Value.int IntKind.u8 0, Value.int IntKind.u8 0, Value.int IntKind.u8 0, Value.int IntKind.u8 0] 39)
    have hbel := ((Below.refl w.heap.size w).alloc (Nat.le_refl _) (.cells cx 39)).alloc (by simp) (.cells #[Value.int IntKind.u8 0, Value.int IntKind.u8 0, Value.int IntKind.u8 0, Value.int IntKind.u8 0, Value.int IntKind.u8 0, Value.int IntKind.u8 0, Value.int IntKind.u8 0, Value.int IntKind.u8 0, Value.int IntKind.u8 0, Value.int IntKind.u8 0, Value.int IntKind.u8 0, Value.int IntKind.u8 0, Value.int IntKind.u8 0, Value.int IntKind.u8 0, Value.int IntKind.u8 0, Value.int IntKind.u8 0] 39)
    go_wp2_with fail
    generalize hw1 : (w.alloc (.cells cx 39)).alloc (.cells #[Value.int IntKind.u8 0, Value.int IntKind.u8 0, Value.int IntKind.u8 0, Value.int IntKind.u8 0, Value.int IntKind.u8 0, Value.int IntKind.u8 0, Value.int IntKind.u8 0, Value.int IntKind.u8 0, Value.int IntKind.u8 0, Value.int IntKind.u8 0, Value.int IntKind.u8 0, Value.int IntKind.u8 0, Value.int IntKind.u8 0, Value.int IntKind.u8 0, Value.int IntKind.u8 0, Value.int IntKind.u8 0] 39) = w1 at *
    obtain ⟨Z, hZ⟩ : ∃ Z : Array Value, Z = #[Value.int IntKind.u8 0, Value.int IntKind.u8 0, Value.int IntKind.u8 0, Value.int IntKind.u8 0, Value.int IntKind.u8 0, Value.int IntKind.u8 0, Value.int IntKind.u8 0, Value.int IntKind.u8 0, Value.int IntKind.u8 0, Value.int IntKind.u8 0, Value.int IntKind.u8 0, Value.int IntKind.u8 0, Value.int IntKind.u8 0, Value.int IntKind.u8 0, Value.int IntKind.u8 0, Value.int IntKind.u8 0] := ⟨_, rfl⟩
    rw [← hZ] at hz
    have hZs : Z.size = 16 := by rw [hZ]; rfl
    clear hZ hw1 c00 c0
    refine wp_region_tree (.q 0 (.q 1 (.q 2 (.q 3 (.q 4 (.e [5] fun _ => .q 6 (.q 7 (.e [8] fun _ => .q 9 (.done)))))))))
      (fun W => Below w.heap.size w W ∧ Blk W w.heap.size 39 cx) rfl (by kernel_rfl) (fun _ _ d _ _ h => by cases d <;> exact h) ?_
    change wpT _ _ _ _ _ _ w1.drew
    have hS : Below w.heap.size w w1.drew ∧ Blk w1.drew w.heap.size 39 cx := ⟨below_drewN hbel 1, hxw⟩
    have hz1 : Blk w1.drew (w.heap.size + 1) 39 Z := hz
    clear hbel hxw hz
    generalize w1.drew = w2 at *
    iterate 3 (refine t_q rfl rfl hS _ (fun W hW => by (go_simp; rfl)) ?_; go_simp)
    refine t_q rfl rfl hS (.slice (some ⟨gk, 0, none⟩) 16 cp) (fun W hW => by (have hc := C1.out W hW.1; go_simp)) ?_
    go_simp
    refine t_load_bs rfl rfl 39 (.tmp 4) rfl w.heap.size 0 rfl x hS (fun W hW => HBX.out W hW.2) _ Tryz.underlying39 rfl (by rw [info_16u8, HXL.out]) ?_
    go_simp
    refine t_e rfl rfl fun K hK => ?_
    go_simp
    refine ((HC.out _ (KA.out _ hS.1)).2).mono ?_
    rintro e w3 ⟨rfl, hb3⟩
    have hS3 : Below w.heap.size w w3 ∧ Blk w3 w.heap.size 39 cx := ⟨hS.1.trans (hb3.mono hS.1.size), hS.2.below hb3 hS.2.lt⟩
    have hz3 := hz1.below hb3 hz1.lt
    refine hK _ _ hS3 ?_
    clear hK K hb3 hz1 hS
    go_simp
    iterate 2 (refine t_q rfl rfl hS3 _ (fun W hW => by (go_simp; rfl)) ?_; go_simp)
    refine t_e rfl rfl fun K hK => ?_
    refine op_store_row 39 (.tmp 6) (.tmp 44) rfl (w.heap.size + 1) (byteCells V) rfl rfl 39 _ hz3 (by rw [info_16u8, size_byteCells, HVL.out]) (by rw [size_byteCells, HVL.out, hZs]) (bytes_one _) fun w5 hB5 hO5 => ?_
    have hS5 : Below w.heap.size w w5 ∧ Blk w5 w.heap.size 39 cx := ⟨hO5.below hS3.1 (by omega), hS3.2.only hO5 (by omega)⟩
    refine hK _ _ hS5 ?_
    clear hK K hO5 hS3 hz3
    go_simp
    refine t_q rfl rfl hS5 _ (fun W hW => by (go_simp; rfl)) ?_
    go_simp
    refine t_done ?_
    go_wp2
    refine bodyPost_ret (v := .tuple #[.agg (byteCells V), .nilIface]) (results_agg_tmp rfl _ _ (w.heap.size + 1) 39 (byteCells V) _ (by rfl) hB5 Tryz.underlying39 rfl (by rw [info_16u8, size_byteCells, HVL.out]) _ (by rfl)) rfl ⟨rfl, hS5.1⟩

set_option maxHeartbeats 4000000 in
set_option maxRecDepth 100000 in
/-- one block of AES, with a key of 16 bytes -/
theorem doA_any (g : Nat) (key : List Nat) (hkl : key.length = 16) (hkb : Byt key) (bk : Value) (x : List Nat) (hx : x.length = 16) (gx : Byt x) (back : Bool) (A : Option Addr) (cx : Nat) (w : World) (hC : CipherAt w g 1 key bk) (hA : At w A x) :
    Calls Tryz.prog 42 #[.pointer (some ⟨g, 0, none⟩), .slice A 16 cx, .bool back] w fun e w' => (∃ gv, e = .returned (.tuple #[.slice (some ⟨gv, 0, none⟩) 16 16, .nilIface]) ∧ w.heap.size ≤ gv ∧ Blk w' gv 39 (byteCells (aesN key x back))) ∧ Below w.heap.size w w' := by
  have HSZ := Lib.hid (fun W hC => size_any 1 g (by omega) key bk W hC)
  obtain ⟨bx, ox, rfl, hBx⟩ := hA (by intro h; rw [h] at hx; cases hx)
  have hbx := hBx.lt (by intro h; rw [h] at hx; cases hx)
  have c0 : w.cell? ⟨g, 0, none⟩ = some (.int .i64 1) := by
    obtain ⟨gk, cp, hB, _⟩ := hC
    exact hB.cell 0
  have HW := Lib.hid (fun W hC => wide_any g key hkl hkb bk x hx gx back W hC)
  have hcc : ∀ W, Below w.heap.size w W → CipherAt W g 1 key bk := fun W hW => hC.below hW (Nat.le_refl _)
  have HCC := Lib.hid hcc; clear hcc
  have hvl := aesN_len key x back
  generalize aesN key x back = V at *
  have HVL := Lib.hid hvl; clear hvl
  have HX := Lib.hid hx; clear hx
  have hfx : ∀ W, Below w.heap.size w W → Bs W bx ox x := fun W hW => hBx.below hW hbx
  have HFX := Lib.hid hfx; clear hfx
  have HC0 := Lib.hid hC; clear hC
  clear hkl hkb hBx gx hA
  have harr : ∀ a c W, (Instr.arrayAt 39 (.slice a 16 c)).run Tryz.prog W = .ok (.pointer a) W := fun a c W => run_arrayAt _ 5 16 Tryz.underlying39 a 16 c (Nat.le_refl _) W
  go_enter Tryz.func42, Tryz.ntmps42
  go_wp2_with fail
  refine (HSZ.out _ HC0.out).mono ?_
  rintro e w1 ⟨rfl, rfl⟩
  have f16 : sizeN 1 = 16 := rfl
  rw [f16]
  have hBx := HFX.out w (Below.refl _ _)
  go_wp2_with (refine wpList_load_bs rfl 39 (.tmp 42) rfl bx ox rfl x hBx _ Tryz.underlying39 rfl (by rw [info_16u8, HX.out]) ?_)
  refine (HW.out _ HC0.out).mono ?_
  rintro e w3 ⟨rfl, hb3⟩
  go_wp2_with (refine wpList_store_all rfl 39 (.tmp 10) (.tmp 46) rfl w3.heap.size (byteCells V) rfl rfl 39 _ (Blk.new w3 _ _) (by rw [info_16u8, size_byteCells, HVL.out]) (by rw [size_byteCells, HVL.out]; rfl) (bytes_one _) ?_; intro w5 hB5 hO5)
  go_ret2
  exact ⟨⟨_, rfl, hb3.size, hB5⟩, hO5.below (hb3.alloc hb3.size _) hb3.size⟩
end Go.Proofs.YtnkgglmfoimbhaaGreatDoor
