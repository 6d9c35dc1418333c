/- head.Print. -/
import Derived.Test.YtcjnkobddeiahaaDoorHeadD
import Derived.Lib.AppendIntMem
import Derived.Laws.Runes
namespace Go.Proofs.YtcjnkobddeiahaaDoor
open Go Go.RowKit Pr

def str (L : List UInt8) : ByteArray := ⟨L.toArray⟩
theorem str_list (L : List UInt8) : (str L).data.toList = L := rfl
theorem str_size (L : List UInt8) : (str L).size = L.length := by simp [str, ByteArray.size]
theorem str_add (L M : List UInt8) : str L ++ str M = str (L ++ M) := by
  apply ByteArray.ext
  rw [ByteArray.data_append]
  simp [str]
theorem str_of (s : ByteArray) : str s.data.toList = s := rfl
theorem enc_ascii (c : UInt8) (h : c.toNat < 128) : Utf8.encode (c.toNat : Int) = str [c] := by
  have := all_u8 (p := fun c => c.toNat < 128 → (Utf8.encode (c.toNat : Int)).data = #[c]) (by decide +kernel) c h
  apply ByteArray.ext
  rw [this]
  rfl
/-- a head, printed -/
def printL (h : Hd) (n : Nat) : List UInt8 := [h.ver] ++ dig4 n ++ h.usage.data.toList ++ [h.alg] ++ [h.mode] ++ h.serial.data.toList ++ [h.exp] ++ [48, 48, 48, 48]
def TabOk (w : World) : Prop := Lib.TabIs Tryd.prog w "internal/strconv.uint64pow10" .u64 Lib.pow10Tab
theorem letB_size {s : ByteArray} (h : letB s.data.toList = true) : s.size = 2 := by
  have hlist : s.data.toList.length = s.size := by simp
  unfold letB at h
  rw [Bool.and_eq_true, decide_eq_true_eq, hlist] at h
  exact h.1
theorem isIn_lt {l : List UInt8} {c : UInt8} (h : isIn l c = true) (hl : ∀ x ∈ l, x.toNat < 128) : c.toNat < 128 := by
  rw [isIn_mem, decide_eq_true_eq] at h
  exact hl c h
theorem right_ok {h : Hd} (hr : rightEr h = .ok) : h.ver.toNat < 128 ∧ h.alg.toNat < 128 ∧ h.mode.toNat < 128 ∧ h.exp.toNat < 128 ∧ h.usage.size = 2 ∧ h.serial.size = 2 := by
  unfold rightEr rE at hr
  split at hr
  · rename_i b0
    split at hr
    · rename_i b1
      split at hr
      · rename_i b2
        split at hr
        · rename_i b3
          split at hr
          · rename_i b4
            split at hr
            · rename_i b5
              exact ⟨isIn_lt b0 (by decide), isIn_lt b2 (by decide), isIn_lt b3 (by decide), isIn_lt b5 (by decide), letB_size b1, letB_size b4⟩
            · cases hr
          · cases hr
        · cases hr
      · cases hr
    · cases hr
  · cases hr

set_option maxHeartbeats 4000000 in
set_option maxRecDepth 100000 in
theorem print_ok (h : Hd) (hr : rightEr h = .ok) (n : Nat) (h16 : 16 ≤ n) (h99 : n ≤ 9999) (w : World) (hT : ∀ W, Below w.heap.size w W → TabOk W) :
    Calls Tryd.prog 9 #[.agg h.cells, .int .i64 n] w fun e w' => e = .returned (.tuple #[.string (str (printL h n)), .nilIface]) ∧ Below w.heap.size w w' := by
  obtain ⟨c1, c2, c3, c4, z1, z2⟩ := right_ok hr
  have HRI := Lib.hid (fun W => right_any h (by omega) (by omega) W)
  rw [hr] at HRI
  have HIT := Lib.hid (fun W hW => Tryd.strconv_Itoa (n : Int) (by omega) (by omega) W (hT W hW))
  obtain ⟨i1, i2⟩ := itoa4 n h16 h99
  have HRP := Lib.hid (fun W => Tryd.strings_Repeat ⟨#[48]⟩ (4 - (Lib.itoa (n : Int)).length) W (by omega) (by show 1 * _ ≤ _; omega))
  have hpl : printL h n = [h.ver] ++ Lib.repeatL [48] (4 - (Lib.itoa (n : Int)).length) ++ Lib.itoa (n : Int) ++ h.usage.data.toList ++ [h.alg] ++ [h.mode] ++ h.serial.data.toList ++ [h.exp] ++ [48, 48, 48, 48] := by
    unfold printL
    rw [← i2, ← List.append_assoc]
  rw [hpl]
  clear hpl i2
  unfold Hd.cells at *
  generalize Lib.itoa (n : Int) = I at *
  have hI : (⟨I.toArray⟩ : ByteArray) = str I := rfl
  rw [hI] at HIT
  have hRp : (⟨(Lib.repeatL (⟨#[48]⟩ : ByteArray).data.toList (4 - I.length)).toArray⟩ : ByteArray) = str (Lib.repeatL [48] (4 - I.length)) := rfl
  rw [hRp] at HRP
  have hrl : (Lib.repeatL [48] (4 - I.length) : List UInt8).length = 4 - I.length := by rw [Lib.repeatL_length]; simp
  generalize Lib.repeatL [48] (4 - I.length) = Z at *
  clear hI hRp
  have hb0 : ∀ cs, Below w.heap.size w (w.alloc (.cells cs 23)) := fun cs => (Below.refl _ _).alloc (Nat.le_refl _) _
  clear hr
  generalize h.ver = ve at *
  generalize h.alg = al at *
  generalize h.mode = mo at *
  generalize h.exp = ex at *
  obtain ⟨UL, hUL⟩ : ∃ L, h.usage = str L := ⟨h.usage.data.toList, rfl⟩
  obtain ⟨SL, hSL⟩ : ∃ L, h.serial = str L := ⟨h.serial.data.toList, rfl⟩
  rw [hUL] at z1 HRI ⊢
  rw [hSL] at z2 HRI ⊢
  rw [str_list, str_list]
  rw [str_size] at z1 z2
  have hcells := Blk.new w 23 #[.int .u8 (ve.toNat : Int), .string (str UL), .int .u8 (al.toNat : Int), .int .u8 (mo.toNat : Int), .string (str SL), .int .u8 (ex.toNat : Int)]
  have hbw := hb0 #[.int .u8 (ve.toNat : Int), .string (str UL), .int .u8 (al.toNat : Int), .int .u8 (mo.toNat : Int), .string (str SL), .int .u8 (ex.toNat : Int)]
  clear hb0 hUL hSL
  obtain ⟨cs, hcs⟩ : ∃ cs, #[Value.int .u8 (ve.toNat : Int), .string (str UL), .int .u8 (al.toNat : Int), .int .u8 (mo.toNat : Int), .string (str SL), .int .u8 (ex.toNat : Int)] = cs := ⟨_, rfl⟩
  have hcell : ∀ W, Blk W w.heap.size 23 cs → W.cell? ⟨w.heap.size, 0, none⟩ = some (.int .u8 (ve.toNat : Int)) ∧ W.cell? ⟨w.heap.size, 1, none⟩ = some (.string (str UL)) ∧ W.cell? ⟨w.heap.size, 2, none⟩ = some (.int .u8 (al.toNat : Int)) ∧ W.cell? ⟨w.heap.size, 3, none⟩ = some (.int .u8 (mo.toNat : Int)) ∧ W.cell? ⟨w.heap.size, 4, none⟩ = some (.string (str SL)) ∧ W.cell? ⟨w.heap.size, 5, none⟩ = some (.int .u8 (ex.toNat : Int)) := fun W hW => by
    subst hcs
    exact ⟨hW.cell 0, hW.cell 1, hW.cell 2, hW.cell 3, hW.cell 4, hW.cell 5⟩
  rw [hcs] at hcells hbw
  have HCELL := Lib.hid hcell; clear hcell
  have HCS := Lib.hid hcs; clear hcs
  have e4 : IntKind.i64.wrap (4 - (I.length : Int)) = ((4 - I.length : Nat) : Int) := by rw [IntWalk.i64_in _ (by omega)]; omega
  obtain ⟨qz, hqz⟩ : ∃ q, 4 - I.length = q := ⟨_, rfl⟩
  rw [hqz] at HRP hrl e4
  have HQ := Lib.hid hqz; clear hqz
  have hz4 : qz ≤ 4 := by have := HQ.out; omega
  have HRL := Lib.hid hrl; clear hrl
  have HZ1 := Lib.hid z1; clear z1
  have HZ2 := Lib.hid z2; clear z2
  have HE := Lib.hid e4; clear e4
  go_enter Tryd.func9, Tryd.ntmps9
  go_wp2_with fail
  refine (HRI.out _).mono ?_
  rintro e w1 ⟨⟨v, rfl, hv⟩, hb1⟩
  obtain rfl : v = _ := hv
  rw [HCS.out] at hb1
  have hK1 := hcells.below hb1 (by simp)
  have hbel1 := hbw.trans (hb1.mono (by simp))
  go_wp2_with fail
  refine (HIT.out _ hbel1).mono ?_
  rintro e w2 ⟨rfl, k2, os2, hw2⟩
  have hb2 : Below w1.heap.size w1 w2 := by rw [hw2]; exact Lib.below_grow _ _ (Nat.le_refl _) _ _
  have hK2 := hK1.below hb2 hK1.lt
  have hbel2 := hbel1.trans (hb2.mono hbel1.size)
  clear hw2 hK1 hb1 hb2
  go_wp2_with fail
  refine wp_region_tree (.q 0 (.q 1 (.q 2 (.q 3 (.q 4 (.q 5 (.q 8 (.q 10 (.q 11 (.q 13 (.q 14 (.q 15 (.q 17 (.q 18 (.q 19 (.q 21 (.q 22 (.q 24 (.q 25 (.q 26 (.e [6] fun _ => .q 7 (.q 9 (.q 12 (.q 16 (.q 20 (.q 23 (.q 27 (.q 28 (.q 29 (.q 30 (.done))))))))))))))))))))))))))))))) (fun W => Blk W w.heap.size 23 cs) rfl (by kernel_rfl) (fun _ _ d _ _ h => by cases d <;> exact h) ?_
  have hrl := HRL.out
  have z1 := HZ1.out
  have z2 := HZ2.out
  have e4 := HE.out
  have hq48 : (⟨#[48, 48, 48, 48]⟩ : ByteArray).size = 4 := rfl
  have hs48 : (⟨#[48, 48, 48, 48]⟩ : ByteArray) = str [48, 48, 48, 48] := rfl
  have hS : Blk w2.drew w.heap.size 23 cs := hK2.drewN 1
  refine t_q rfl rfl hS _ (fun W hW => by (go_simp; rfl)) ?_
  go_simp
  refine t_q rfl rfl hS (.int .u8 (ve.toNat : Int)) (fun W hW => by (have hc := (HCELL.out W hW).1; go_simp)) ?_
  go_simp
  refine t_q rfl rfl hS (.string (str [ve])) (fun W hW => by (go_simp; rw [enc_ascii ve c1])) ?_
  go_simp
  refine t_q rfl rfl hS _ (fun W hW => by (go_simp; rfl)) ?_
  go_simp
  refine t_q rfl rfl hS (.int .i64 (I.length : Int)) (fun W hW => by (go_simp; rw [str_size])) ?_
  go_simp
  refine t_q rfl rfl hS (.int .i64 (qz : Int)) (fun W hW => by (go_simp)) ?_
  go_simp
  iterate 2 (refine t_q rfl rfl hS _ (fun W hW => by (go_simp; rfl)) ?_; go_simp)
  refine t_q rfl rfl hS (.string (str UL)) (fun W hW => by (have hc := (HCELL.out W hW).2.1; go_simp)) ?_
  go_simp
  refine t_q rfl rfl hS _ (fun W hW => by (go_simp; rfl)) ?_
  go_simp
  refine t_q rfl rfl hS (.int .u8 (al.toNat : Int)) (fun W hW => by (have hc := (HCELL.out W hW).2.2.1; go_simp)) ?_
  go_simp
  refine t_q rfl rfl hS (.string (str [al])) (fun W hW => by (go_simp; rw [enc_ascii al c2])) ?_
  go_simp
  refine t_q rfl rfl hS _ (fun W hW => by (go_simp; rfl)) ?_
  go_simp
  refine t_q rfl rfl hS (.int .u8 (mo.toNat : Int)) (fun W hW => by (have hc := (HCELL.out W hW).2.2.2.1; go_simp)) ?_
  go_simp
  refine t_q rfl rfl hS (.string (str [mo])) (fun W hW => by (go_simp; rw [enc_ascii mo c3])) ?_
  go_simp
  refine t_q rfl rfl hS _ (fun W hW => by (go_simp; rfl)) ?_
  go_simp
  refine t_q rfl rfl hS (.string (str SL)) (fun W hW => by (have hc := (HCELL.out W hW).2.2.2.2.1; go_simp)) ?_
  go_simp
  refine t_q rfl rfl hS _ (fun W hW => by (go_simp; rfl)) ?_
  go_simp
  refine t_q rfl rfl hS (.int .u8 (ex.toNat : Int)) (fun W hW => by (have hc := (HCELL.out W hW).2.2.2.2.2; go_simp)) ?_
  go_simp
  refine t_q rfl rfl hS (.string (str [ex])) (fun W hW => by (go_simp; rw [enc_ascii ex c4])) ?_
  go_simp
  refine t_e rfl rfl fun K hK => ?_
  go_simp
  refine (HRP.out _).mono ?_
  rintro e w3 ⟨rfl, hb3⟩
  have hS3 := hS.below hb3 hS.lt
  have hbel3 := (below_drewN hbel2 1).trans (hb3.mono hbel2.size)
  refine hK _ _ hS3 ?_
  clear hK K
  go_simp
  refine t_q rfl rfl hS3 (.string (str ([ve] ++ Z))) (fun W hW => by (go_simp; rw [if_neg (by simp only [str_size, List.length_cons, List.length_nil]; omega), str_add]; simp)) ?_
  go_simp
  refine t_q rfl rfl hS3 (.string (str ([ve] ++ Z ++ I))) (fun W hW => by (go_simp; rw [if_neg (by simp only [str_size, List.length_cons]; omega), str_add]; simp)) ?_
  go_simp
  refine t_q rfl rfl hS3 (.string (str ([ve] ++ Z ++ I ++ UL))) (fun W hW => by (go_simp; rw [if_neg (by simp only [str_size, List.length_append, List.length_cons]; omega), str_add]; simp [List.append_assoc])) ?_
  go_simp
  refine t_q rfl rfl hS3 (.string (str ([ve] ++ Z ++ I ++ UL ++ [al]))) (fun W hW => by (go_simp; rw [if_neg (by simp only [str_size, List.length_append, List.length_cons, List.length_nil]; omega), str_add]; simp [List.append_assoc])) ?_
  go_simp
  refine t_q rfl rfl hS3 (.string (str ([ve] ++ Z ++ I ++ UL ++ [al] ++ [mo]))) (fun W hW => by (go_simp; rw [if_neg (by simp only [str_size, List.length_append, List.length_cons, List.length_nil]; omega), str_add]; simp [List.append_assoc])) ?_
  go_simp
  refine t_q rfl rfl hS3 (.string (str ([ve] ++ Z ++ I ++ UL ++ [al] ++ [mo] ++ SL))) (fun W hW => by (go_simp; rw [if_neg (by simp only [str_size, List.length_append, List.length_cons, List.length_nil]; omega), str_add]; simp [List.append_assoc])) ?_
  go_simp
  refine t_q rfl rfl hS3 (.string (str ([ve] ++ Z ++ I ++ UL ++ [al] ++ [mo] ++ SL ++ [ex]))) (fun W hW => by (go_simp; rw [if_neg (by simp only [str_size, List.length_append, List.length_cons, List.length_nil]; omega), str_add]; simp [List.append_assoc])) ?_
  go_simp
  refine t_q rfl rfl hS3 (.string (str ([ve] ++ Z ++ I ++ UL ++ [al] ++ [mo] ++ SL ++ [ex] ++ [48, 48, 48, 48]))) (fun W hW => by (go_simp; rw [if_neg (by simp only [str_size, List.length_append, List.length_cons, List.length_nil]; omega), str_add]; simp [List.append_assoc])) ?_
  go_simp
  iterate 2 (refine t_q rfl rfl hS3 _ (fun W hW => by (go_simp; rfl)) ?_; go_simp)
  refine t_done ?_
  go_wp2
  go_ret2
  refine ⟨?_, hbel3⟩
  show Ending.returned (.tuple #[.string _, .nilIface]) = _
  simp [List.append_assoc]
end Go.Proofs.YtcjnkobddeiahaaDoor
