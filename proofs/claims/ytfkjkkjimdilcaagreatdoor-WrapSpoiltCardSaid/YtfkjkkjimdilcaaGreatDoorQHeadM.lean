/- head.Print. head.Print of whatever head and length. head.Parse. head.Parse of whatever text; lockboxref10.Parse. Bytes read as a text. lockboxref10.Print. The table of powers of ten stays. -/
import Derived.Test.YtfkjkkjimdilcaaGreatDoorQHeadL
import Derived.Test.YtfkjkkjimdilcaaGreatDoorQPB
import Derived.Lib.AppendIntMem
import Derived.Laws.Runes
import Derived.Test.YtfkjkkjimdilcaaGreatDoorQNums
import Derived.Laws.IdiomStrings
set_option maxHeartbeats 8000000
set_option maxRecDepth 100000
/- head.Print. -/
namespace Go.Proofs.YtfkjkkjimdilcaaGreatDoor
open Go Go.RowKit Pr

theorem enc_ascii (c : UInt8) (h : c.toNat < 128) : Utf8.encode (c.toNat : Int) = str [c] := by
 have := all_u8 (p := fun c => c.toNat < 128 → (Utf8.encode (c.toNat : Int)).data = #[c]) (by decide +kernel) c h
 apply ByteArray.ext
 rw [this]
 rfl
/-- a head, printed -/
def printL (h : Hd) (n : Nat) : List UInt8 := [h.ver] ++ dig4 n ++ h.usage.data.toList ++ [h.alg] ++ [h.mode] ++ h.serial.data.toList ++ [h.exp] ++ [48, 48, 48, 48]
def TabOk (w : World) : Prop := Lib.TabIs Tryz.prog w "internal/strconv.uint64pow10" .u64 Lib.pow10Tab
theorem letB_size {s : ByteArray} (h : letB s.data.toList = true) : s.size = 2 := by
 have hlist : s.data.toList.length = s.size := by simp
 unfold letB at h
 rw [Bool.and_eq_true, decide_eq_true_eq, hlist] at h; exact h.1
theorem isIn_lt {l : List UInt8} {c : UInt8} (h : isIn l c = true) (hl : ∀ x ∈ l, x.toNat < 128) : c.toNat < 128 := by
 rw [isIn_mem, decide_eq_true_eq] at h; exact hl c h
theorem right_ok {h : Hd} (hr : rightEr h = .ok) : h.ver.toNat < 128 ∧ h.alg.toNat < 128 ∧ h.mode.toNat < 128 ∧ h.exp.toNat < 128 ∧ h.usage.size = 2 ∧ h.serial.size = 2 := by
 unfold rightEr rE at hr
 split at hr
 ·
  rename_i b0
  split at hr
  ·
   rename_i b1
   split at hr
   ·
    rename_i b2
    split at hr
    ·
     rename_i b3
     split at hr
     ·
      rename_i b4
      split at hr
      ·
       rename_i b5
       exact ⟨isIn_lt b0 (by decide), isIn_lt b2 (by decide), isIn_lt b3 (by decide), isIn_lt b5 (by decide), letB_size b1, letB_size b4⟩
      ·
       cases hr
     ·
      cases hr
    ·
     cases hr
   ·
    cases hr
  ·
   cases hr
 ·
  cases hr

theorem print_ok (h : Hd) (hr : rightEr h = .ok) (n : Nat) (h16 : 16 ≤ n) (h99 : n ≤ 9999) (w : World) (hT : ∀ W, Below w.heap.size w W → TabOk W) :
    Calls Tryz.prog 34 #[.agg h.cells, .int .i64 n] w fun e w' => e = .returned (.tuple #[.string (str (printL h n)), .nilIface]) ∧ Below w.heap.size w w' := by
 obtain ⟨c1, c2, c3, c4, z1, z2⟩ := right_ok hr; have HRI := Hh (fun W => right_any h (by omega) (by omega) W); rw [hr] at HRI; have HIT := Hh (fun W hW => Tryz.strconv_Itoa (n : Int) (by omega) (by omega) W (hT W hW)); obtain ⟨i1, i2⟩ := itoa4 n h16 h99; have HRP := Hh (fun W => Tryz.strings_Repeat ⟨#[48]⟩ (4 - (Lib.itoa (n : Int)).length) W (by omega) (by show 1 * _ ≤ _; omega))
 have hpl : printL h n = [h.ver] ++ Lib.repeatL [48] (4 - (Lib.itoa (n : Int)).length) ++ Lib.itoa (n : Int) ++ h.usage.data.toList ++ [h.alg] ++ [h.mode] ++ h.serial.data.toList ++ [h.exp] ++ [48, 48, 48, 48] := by
  unfold printL
  rw [← i2, ← List.append_assoc]
 rw [hpl]; clear hpl i2
 unfold Hd.cells at *
 generalize Lib.itoa (n : Int) = I at *; have hI : (⟨I.toArray⟩ : ByteArray) = str I := rfl; rw [hI] at HIT; have hRp : (⟨(Lib.repeatL (⟨#[48]⟩ : ByteArray).data.toList (4 - I.length)).toArray⟩ : ByteArray) = str (Lib.repeatL [48] (4 - I.length)) := rfl; rw [hRp] at HRP; have hrl : (Lib.repeatL [48] (4 - I.length) : List UInt8).length = 4 - I.length := by rw [Lib.repeatL_length]; simp
 generalize Lib.repeatL [48] (4 - I.length) = Z at *; clear hI hRp; have hb0 : ∀ cs, Below w.heap.size w (w.alloc (.cells cs 24)) := fun cs => (Below.refl _ _).alloc lr _; clear hr; generalize h.ver = ve at *; generalize h.alg = al at *; generalize h.mode = mo at *; generalize h.exp = ex at *; obtain ⟨UL, hUL⟩ : ∃ L, h.usage = str L := ⟨h.usage.data.toList, rfl⟩; obtain ⟨SL, hSL⟩ : ∃ L, h.serial = str L := ⟨h.serial.data.toList, rfl⟩; rw [hUL] at z1 HRI ⊢; rw [hSL] at z2 HRI ⊢; rw [str_list, str_list]; rw [str_size] at z1 z2; have hcells := Blk.new w 24 #[.int .u8 (ve.toNat : Int), .string (str UL), .int .u8 (al.toNat : Int), .int .u8 (mo.toNat : Int), .string (str SL), .int .u8 (ex.toNat : Int)]; have hbw := hb0 #[.int .u8 (ve.toNat : Int), .string (str UL), .int .u8 (al.toNat : Int), .int .u8 (mo.toNat : Int), .string (str SL), .int .u8 (ex.toNat : Int)]; clear hb0 hUL hSL; obtain ⟨cs, hcs⟩ : ∃ cs, #[Value.int .u8 (ve.toNat : Int), .string (str UL), .int .u8 (al.toNat : Int), .int .u8 (mo.toNat : Int), .string (str SL), .int .u8 (ex.toNat : Int)] = cs := ⟨_, rfl⟩
 have hcell : ∀ W, Blk W w.heap.size 24 cs → W.cell? ⟨w.heap.size, 0, none⟩ = some (.int .u8 (ve.toNat : Int)) ∧ W.cell? ⟨w.heap.size, 1, none⟩ = some (.string (str UL)) ∧ W.cell? ⟨w.heap.size, 2, none⟩ = some (.int .u8 (al.toNat : Int)) ∧ W.cell? ⟨w.heap.size, 3, none⟩ = some (.int .u8 (mo.toNat : Int)) ∧ W.cell? ⟨w.heap.size, 4, none⟩ = some (.string (str SL)) ∧ W.cell? ⟨w.heap.size, 5, none⟩ = some (.int .u8 (ex.toNat : Int)) := fun W hW => by
  subst hcs; exact ⟨hW.cell 0, hW.cell 1, hW.cell 2, hW.cell 3, hW.cell 4, hW.cell 5⟩
 rw [hcs] at hcells hbw; have HCELL := Hh hcell; clear hcell; have HCS := Hh hcs; clear hcs; have e4 : IntKind.i64.wrap (4 - (I.length : Int)) = ((4 - I.length : Nat) : Int) := by rw [IntWalk.i64_in _ (by omega)]; omega
 obtain ⟨qz, hqz⟩ : ∃ q, 4 - I.length = q := ⟨_, rfl⟩; rw [hqz] at HRP hrl e4; have HQ := Hh hqz; clear hqz; have hz4 : qz ≤ 4 := by have := HQ.out; omega
 have HRL := Hh hrl; clear hrl; have HZ1 := Hh z1; clear z1; have HZ2 := Hh z2; clear z2; have HE := Hh e4; clear e4
 go_enter Tryz.func34, Tryz.ntmps34
 go_wp2_with fail
 refine (HRI.out _).mono ?_; rintro e w1 ⟨⟨v, rfl, hv⟩, hb1⟩; obtain rfl : v = _ := hv; rw [HCS.out] at hb1; have hK1 := hcells.below hb1 (by simp); have hbel1 := hbw.trans (hb1.mono (by simp)); go_wp2_with fail
 refine (HIT.out _ hbel1).mono ?_; rintro e w2 ⟨rfl, k2, os2, hw2⟩; have hb2 : Below w1.heap.size w1 w2 := by rw [hw2]; exact Lib.below_grow _ _ lr _ _
 have hK2 := hK1.below hb2 hK1.lt; have hbel2 := hbel1.trans (hb2.mono hbel1.size); clear hw2 hK1 hb1 hb2; go_wp2_with fail
 refine wp_region_tree (.q 0 (.q 1 (.q 2 (.q 3 (.q 4 (.q 5 (.q 8 (.q 10 (.q 11 (.q 13 (.q 14 (.q 15 (.q 17 (.q 18 (.q 19 (.q 21 (.q 22 (.q 24 (.q 25 (.q 26 (.e [6] fun _ => .q 7 (.q 9 (.q 12 (.q 16 (.q 20 (.q 23 (.q 27 (.q 28 (.q 29 (.q 30 (.done))))))))))))))))))))))))))))))) (fun W => Blk W w.heap.size 24 cs) rfl (by kernel_rfl) (fun _ _ d _ _ h => by cases d <;> exact h) ?_; have hrl := HRL.out; have z1 := HZ1.out; have z2 := HZ2.out; have e4 := HE.out; have hq48 : (⟨#[48, 48, 48, 48]⟩ : ByteArray).size = 4 := rfl; have hs48 : (⟨#[48, 48, 48, 48]⟩ : ByteArray) = str [48, 48, 48, 48] := rfl; have hS : Blk w2.drew w.heap.size 24 cs := hK2.drewN 1; refine t_q rfl rfl hS _ (fun W hW => by (go_simp; rfl)) ?_; go_simp
 refine t_q rfl rfl hS (.int .u8 (ve.toNat : Int)) (fun W hW => by (have hc := (HCELL.out W hW).1; go_simp)) ?_; go_simp
 refine t_q rfl rfl hS (.string (str [ve])) (fun W hW => by (go_simp; rw [enc_ascii ve c1])) ?_; go_simp
 refine t_q rfl rfl hS _ (fun W hW => by (go_simp; rfl)) ?_; go_simp
 refine t_q rfl rfl hS (.int .i64 (I.length : Int)) (fun W hW => by (go_simp; rw [str_size])) ?_; go_simp
 refine t_q rfl rfl hS (.int .i64 (qz : Int)) (fun W hW => by (go_simp)) ?_; go_simp
 iterate 2 (refine t_q rfl rfl hS _ (fun W hW => by (go_simp; rfl)) ?_; go_simp)
 refine t_q rfl rfl hS (.string (str UL)) (fun W hW => by (have hc := (HCELL.out W hW).2.1; go_simp)) ?_; go_simp
 refine t_q rfl rfl hS _ (fun W hW => by (go_simp; rfl)) ?_; go_simp
 refine t_q rfl rfl hS (.int .u8 (al.toNat : Int)) (fun W hW => by (have hc := (HCELL.out W hW).2.2.1; go_simp)) ?_; go_simp
 refine t_q rfl rfl hS (.string (str [al])) (fun W hW => by (go_simp; rw [enc_ascii al c2])) ?_; go_simp
 refine t_q rfl rfl hS _ (fun W hW => by (go_simp; rfl)) ?_; go_simp
 refine t_q rfl rfl hS (.int .u8 (mo.toNat : Int)) (fun W hW => by (have hc := (HCELL.out W hW).2.2.2.1; go_simp)) ?_; go_simp
 refine t_q rfl rfl hS (.string (str [mo])) (fun W hW => by (go_simp; rw [enc_ascii mo c3])) ?_; go_simp
 refine t_q rfl rfl hS _ (fun W hW => by (go_simp; rfl)) ?_; go_simp
 refine t_q rfl rfl hS (.string (str SL)) (fun W hW => by (have hc := (HCELL.out W hW).2.2.2.2.1; go_simp)) ?_; go_simp
 refine t_q rfl rfl hS _ (fun W hW => by (go_simp; rfl)) ?_; go_simp
 refine t_q rfl rfl hS (.int .u8 (ex.toNat : Int)) (fun W hW => by (have hc := (HCELL.out W hW).2.2.2.2.2; go_simp)) ?_; go_simp
 refine t_q rfl rfl hS (.string (str [ex])) (fun W hW => by (go_simp; rw [enc_ascii ex c4])) ?_; go_simp
 refine t_e rfl rfl fun K hK => ?_; go_simp
 refine (HRP.out _).mono ?_; rintro e w3 ⟨rfl, hb3⟩; have hS3 := hS.below hb3 hS.lt; have hbel3 := (below_drewN hbel2 1).trans (hb3.mono hbel2.size); refine hK _ _ hS3 ?_; clear hK K; go_simp
 refine t_q rfl rfl hS3 (.string (str ([ve] ++ Z))) (fun W hW => by (go_simp; rw [if_neg (by simp only [str_size, List.length_cons, List.length_nil]; omega), str_add]; simp)) ?_; go_simp
 refine t_q rfl rfl hS3 (.string (str ([ve] ++ Z ++ I))) (fun W hW => by (go_simp; rw [if_neg (by simp only [str_size, List.length_cons]; omega), str_add]; simp)) ?_; go_simp
 refine t_q rfl rfl hS3 (.string (str ([ve] ++ Z ++ I ++ UL))) (fun W hW => by (go_simp; rw [if_neg (by simp only [str_size, List.length_append, List.length_cons]; omega), str_add]; simp [List.append_assoc])) ?_; go_simp
 refine t_q rfl rfl hS3 (.string (str ([ve] ++ Z ++ I ++ UL ++ [al]))) (fun W hW => by (go_simp; rw [if_neg (by simp only [str_size, List.length_append, List.length_cons, List.length_nil]; omega), str_add]; simp [List.append_assoc])) ?_; go_simp
 refine t_q rfl rfl hS3 (.string (str ([ve] ++ Z ++ I ++ UL ++ [al] ++ [mo]))) (fun W hW => by (go_simp; rw [if_neg (by simp only [str_size, List.length_append, List.length_cons, List.length_nil]; omega), str_add]; simp [List.append_assoc])) ?_; go_simp
 refine t_q rfl rfl hS3 (.string (str ([ve] ++ Z ++ I ++ UL ++ [al] ++ [mo] ++ SL))) (fun W hW => by (go_simp; rw [if_neg (by simp only [str_size, List.length_append, List.length_cons, List.length_nil]; omega), str_add]; simp [List.append_assoc])) ?_; go_simp
 refine t_q rfl rfl hS3 (.string (str ([ve] ++ Z ++ I ++ UL ++ [al] ++ [mo] ++ SL ++ [ex]))) (fun W hW => by (go_simp; rw [if_neg (by simp only [str_size, List.length_append, List.length_cons, List.length_nil]; omega), str_add]; simp [List.append_assoc])) ?_; go_simp
 refine t_q rfl rfl hS3 (.string (str ([ve] ++ Z ++ I ++ UL ++ [al] ++ [mo] ++ SL ++ [ex] ++ [48, 48, 48, 48]))) (fun W hW => by (go_simp; rw [if_neg (by simp only [str_size, List.length_append, List.length_cons, List.length_nil]; omega), str_add]; simp [List.append_assoc])) ?_; go_simp
 iterate 2 (refine t_q rfl rfl hS3 _ (fun W hW => by (go_simp; rfl)) ?_; go_simp)
 refine t_done ?_; go_wp2
 go_ret2
 refine ⟨?_, hbel3⟩
 show Ending.returned (.tuple #[.string _, .nilIface]) = _
 simp [List.append_assoc]
def isOk : Er → Bool
 | .ok => true
 | _ => false
section
variable {P : Program}
theorem results_cell3 {fn : Func} {p u v : Tmp} {ty : TypeId} (h : fn.results = #[.cell p ty, .tmp u, .tmp v]) (tmps : Array Value) (w : World) (g : Nat) (t : TypeId) (cs : Array Value) (d : TypeDesc)
    (hp : tmps.getD p undef = .pointer (some ⟨g, 0, none⟩)) (hg : Blk w g t cs)
    (hu : P.underlying ty = some d) (hd : (match d with | .struct _ | .array _ _ => true | _ => false) = true) (hi : (P.info? ty).map (·.size) = some cs.size) :
    (results fn tmps).run P w = .ok (.tuple #[.agg cs, tmps.getD u undef, tmps.getD v undef]) w := by
 have hp' : tmps[p]?.getD undef = .pointer (some ⟨g, 0, none⟩) := by simpa using hp
 simp [results, h, hp', asAddr, run_loadVar_row w g t ty cs (0, 0) d hg hu hd hi]
end
theorem info_head : (Tryz.prog.info? 24).map (·.size) = some 6 := by kernel_rfl
def chr (s : ByteArray) (k : Nat) : UInt8 := s.data.toList.getD k 0
theorem chr_at (s : ByteArray) (k : Nat) (h : k < s.size) : s[k] = chr s k := by
 unfold chr
 have hk : k < s.data.toList.length := by simpa using h
 rw [List.getD_eq_getElem?_getD, List.getElem?_eq_getElem hk]
 rfl
def hdOf (s : ByteArray) : Hd := ⟨chr s 0, s.extract 5 7, chr s 7, chr s 8, s.extract 9 11, chr s 11⟩
def Hd.zero : Hd := ⟨0, ⟨#[]⟩, 0, 0, ⟨#[]⟩, 0⟩
def numOf (s : ByteArray) : Int := numZ (s.extract 1 5).data.toList
def z4 : ByteArray := ⟨#[48, 48, 48, 48]⟩
def pE (er : Er) (N : Int) (z : Bool) : Er := if aheadB er then er else if N < 16 then .fa 1 6 else if isOk er then (if z then .ok else .fa 12 6) else er
def parseEr (s : ByteArray) : Er := if s.size < 16 then .no 2 else pE (rightEr (hdOf s)) (numOf s) (decide (s.extract 12 16 = z4))
def parseHd (s : ByteArray) : Hd := if isOk (parseEr s) then hdOf s else Hd.zero
def parseN (s : ByteArray) : Int := if isOk (parseEr s) then numOf s else 0
theorem not_lt_of {s : ByteArray} (h : ¬ s.size < 16) : 16 ≤ s.size := by omega

theorem ErIs.only {w w' : World} {B g : Nat} {v : Value} {e : Er} (h : ErIs w B v e) (ho : Only g w w') (hg : g < B) : ErIs w' B v e := by
 cases e with
 | ok => exact h
 | no n => exact h
 | fa p n =>
  obtain ⟨b, rfl, hb, hB⟩ := h; exact ⟨b, rfl, hb, hB.only ho (by omega)⟩

/-- a head's block, set to nothing cell by cell -/
def zset (W : World) (g : Nat) : World := (((((W.setCell ⟨g, 0, none⟩ (.int .u8 0)).setCell ⟨g, 1, none⟩ (.string ⟨#[]⟩)).setCell ⟨g, 2, none⟩ (.int .u8 0)).setCell ⟨g, 3, none⟩ (.int .u8 0)).setCell ⟨g, 4, none⟩ (.string ⟨#[]⟩)).setCell ⟨g, 5, none⟩ (.int .u8 0)
theorem zset_blk {W : World} {g : Nat} {t : TypeId} (h : Blk W g t #[.int .u8 0, .string ⟨#[]⟩, .int .u8 0, .int .u8 0, .string ⟨#[]⟩, .int .u8 0]) : Blk (zset W g) g t #[.int .u8 0, .string ⟨#[]⟩, .int .u8 0, .int .u8 0, .string ⟨#[]⟩, .int .u8 0] :=
 (((((h.set_ 0 (.int .u8 0)).set_ 1 (.string ⟨#[]⟩)).set_ 2 (.int .u8 0)).set_ 3 (.int .u8 0)).set_ 4 (.string ⟨#[]⟩)).set_ 5 (.int .u8 0)
theorem zset_only (W : World) (g : Nat) : Only g W (zset W g) :=
 (((((Only.setCell W g 0 _).trans (Only.setCell _ g 1 _)).trans (Only.setCell _ g 2 _)).trans (Only.setCell _ g 3 _)).trans (Only.setCell _ g 4 _)).trans (Only.setCell _ g 5 _)
theorem zset_facts {W : World} {g : Nat} {t : TypeId} (h : Blk W g t #[.int .u8 0, .string ⟨#[]⟩, .int .u8 0, .int .u8 0, .string ⟨#[]⟩, .int .u8 0]) :
    W.cell? ⟨g, 0, none⟩ = some (.int .u8 0) ∧ W.cell? ⟨g, 1, none⟩ = some (.string ⟨#[]⟩) ∧ W.cell? ⟨g, 2, none⟩ = some (.int .u8 0) ∧ W.cell? ⟨g, 3, none⟩ = some (.int .u8 0) ∧ W.cell? ⟨g, 4, none⟩ = some (.string ⟨#[]⟩) ∧ W.cell? ⟨g, 5, none⟩ = some (.int .u8 0) ∧
    W.frozen? ⟨g, 0, none⟩ = false ∧ W.frozen? ⟨g, 1, none⟩ = false ∧ W.frozen? ⟨g, 2, none⟩ = false ∧ W.frozen? ⟨g, 3, none⟩ = false ∧ W.frozen? ⟨g, 4, none⟩ = false ∧ W.frozen? ⟨g, 5, none⟩ = false :=
 ⟨h.cell 0, h.cell 1, h.cell 2, h.cell 3, h.cell 4, h.cell 5, h.frozen 0, h.frozen 1, h.frozen 2, h.frozen 3, h.frozen 4, h.frozen 5⟩

theorem parse_short (s : ByteArray) (hs : s.size < 16) (w : World) :
    Calls Tryz.prog 38 #[.string s] w fun e w' => e = .returned (.tuple #[.agg Hd.zero.cells, .int .i64 0, .iface 64 (.int .i64 2)]) ∧ Below w.heap.size w w' := by
 have h1 : (s.size : Int) < 16 := by omega
 go_enter Tryz.func38, Tryz.ntmps38
 go_wp2
 refine bodyPost_ret (results_cell3 rfl _ _ w.heap.size 24 _ _ rfl (Blk.new _ _ _) Tryz.underlying24 rfl (by rw [info_head]; rfl)) rfl ?_; exact ⟨rfl, (Below.refl _ _).alloc lr _⟩

theorem parse_long (s : ByteArray) (hs : 16 ≤ s.size) (hsz : s.size ≤ 140737488351232) (w : World) (hG : EtOk w) (E : Er) (hE : parseEr s = E) :
    Calls Tryz.prog 38 #[.string s] w fun e w' => (∃ v, e = .returned (.tuple #[.agg (if isOk E then hdOf s else Hd.zero).cells, .int .i64 (if isOk E then numOf s else 0), v]) ∧ ErIs w' w.heap.size v E) ∧ Below w.heap.size w w' := by
 have i0 := index_str (P := Tryz.prog) 9 Tryz.underlying9 s 0 (by omega) 0 rfl _ rfl; have i7 := index_str (P := Tryz.prog) 9 Tryz.underlying9 s 7 (by omega) 7 rfl _ rfl; have i8 := index_str (P := Tryz.prog) 9 Tryz.underlying9 s 8 (by omega) 8 rfl _ rfl; have i11 := index_str (P := Tryz.prog) 9 Tryz.underlying9 s 11 (by omega) 11 rfl _ rfl; rw [chr_at] at i0 i7 i8 i11; have HRI := Hh (fun W => right_any (hdOf s) (by show (s.extract 5 7).size ≤ _; rw [ByteArray.size_extract]; omega) (by show (s.extract 9 11).size ≤ _; rw [ByteArray.size_extract]; omega) W); have HNU := Hh (fun W => numberH_any (s.extract 1 5) (by rw [ByteArray.size_extract]; omega) W); rw [show numZ (s.extract 1 5).data.toList = numOf s from rfl] at HNU; have hZ0 : s.extract 12 16 = z4 → True := fun _ => trivial
 unfold parseEr at hE
 rw [if_neg (by omega)] at hE; have hrc := rightEr_cases (hdOf s); generalize rightEr (hdOf s) = er at *; generalize numOf s = N at *; obtain ⟨cs, hcs⟩ : ∃ cs, (hdOf s).cells = cs := ⟨_, rfl⟩; rw [hcs] at HRI; have hcz : cs.size = 6 := by rw [← hcs]; rfl
 have hco : cs.all (·.oneCell') = true := by rw [← hcs]; simp [Hd.cells, Value.oneCell']
 have HCS := Hh hcs; clear hcs; have hcs' : #[Value.int .u8 ((chr s 0).toNat : Int), .string (s.extract 5 7), .int .u8 ((chr s 7).toNat : Int), .int .u8 ((chr s 8).toNat : Int), .string (s.extract 9 11), .int .u8 ((chr s 11).toNat : Int)] = cs := HCS.out; have HCS' := Hh hcs'; clear hcs'; have hb0 : Below w.heap.size w (w.alloc (.cells #[.int .u8 0, .string ⟨#[]⟩, .int .u8 0, .int .u8 0, .string ⟨#[]⟩, .int .u8 0] 24)) := (Below.refl _ _).alloc lr _; have hR0 := Blk.new w 24 #[.int .u8 0, .string ⟨#[]⟩, .int .u8 0, .int .u8 0, .string ⟨#[]⟩, .int .u8 0]; have hx57 : (s.extract 5 7).size ≤ 2 := by rw [ByteArray.size_extract]; omega
 have HE := Hh hE; clear hE hZ0; have HRC := Hh hrc; clear hrc; have s1 : ¬ (s.size : Int) < 16 := by omega
 obtain ⟨X57, hX57⟩ : ∃ X, s.extract 5 7 = X := ⟨_, rfl⟩; obtain ⟨X9, hX9⟩ : ∃ X, s.extract 9 11 = X := ⟨_, rfl⟩; obtain ⟨X1, hX1⟩ : ∃ X, s.extract 1 5 = X := ⟨_, rfl⟩; obtain ⟨X12, hX12⟩ : ∃ X, s.extract 12 16 = X := ⟨_, rfl⟩; rw [hX57, hX9] at HCS'; rw [hX1] at HNU; rw [hX12] at HE; have HS := Hh hs; clear hs hx57; generalize (chr s 0).toNat = c0 at *; generalize (chr s 7).toNat = c7 at *; generalize (chr s 8).toNat = c8 at *; generalize (chr s 11).toNat = c11 at *
 go_enter Tryz.func38, Tryz.ntmps38
 go_wp2_with fail
 refine wp_region_tree (.q 0 (.q 1 (.q 2 (.q 3 (.q 4 (.q 5 (.q 6 (.q 7 (.q 8 (.q 9 (.q 10 (.q 11 (.q 12 (.e [13] fun _ => .e [14] fun _ => .done)))))))))))))) (fun _ => True) rfl (by kernel_rfl) (fun _ _ d _ _ h => by cases d <;> exact h) ?_; have hs := HS.out; refine t_q rfl rfl trivial _ (fun W hW => by (go_simp; rfl)) ?_; go_simp
 refine t_q rfl rfl trivial (.int .u8 (c0 : Int)) (fun W hW => by (go_simp)) ?_; go_simp
 refine t_q rfl rfl trivial _ (fun W hW => by (go_simp; rfl)) ?_; go_simp
 refine t_q rfl rfl trivial (.string X57) (fun W hW => by (go_simp; intro h; omega)) ?_; go_simp
 refine t_q rfl rfl trivial _ (fun W hW => by (go_simp; rfl)) ?_; go_simp
 refine t_q rfl rfl trivial (.int .u8 (c7 : Int)) (fun W hW => by (go_simp)) ?_; go_simp
 refine t_q rfl rfl trivial _ (fun W hW => by (go_simp; rfl)) ?_; go_simp
 refine t_q rfl rfl trivial (.int .u8 (c8 : Int)) (fun W hW => by (go_simp)) ?_; go_simp
 refine t_q rfl rfl trivial _ (fun W hW => by (go_simp; rfl)) ?_; go_simp
 refine t_q rfl rfl trivial (.string X9) (fun W hW => by (go_simp; intro h; omega)) ?_; go_simp
 refine t_q rfl rfl trivial _ (fun W hW => by (go_simp; rfl)) ?_; go_simp
 refine t_q rfl rfl trivial (.int .u8 (c11 : Int)) (fun W hW => by (go_simp)) ?_; go_simp
 refine t_q rfl rfl trivial (.agg cs) (fun W hW => by (go_simp; rw [HCS'.out])) ?_; go_simp
 refine t_e rfl rfl fun K hK => ?_; go_simp
 refine hK _ _ trivial ?_; clear hK K; refine t_e rfl rfl fun K hK => ?_; refine op_store_row 24 (.tmp 5) (.tmp 25) rfl (w.heap.size + 1) cs rfl rfl 24 #[.int .u8 0, .string ⟨#[]⟩, .int .u8 0, .int .u8 0, .string ⟨#[]⟩, .int .u8 0] (by have := Blk.new (w.alloc (.cells #[.int .u8 0, .string ⟨#[]⟩, .int .u8 0, .int .u8 0, .string ⟨#[]⟩, .int .u8 0] 24)) 24 #[.int .u8 0, .string ⟨#[]⟩, .int .u8 0, .int .u8 0, .string ⟨#[]⟩, .int .u8 0]; rw [World.size_alloc] at this; exact this.drewN 1) (by rw [info_head, hcz]) (by rw [hcz]; rfl) hco fun w1 hB1 hO1 => ?_; have hbel1 := hO1.below (below_drewN (hb0.alloc (by simp) _) 1) (by omega); have hR1 := ((hR0.alloc _).drewN 1).only hO1 (by omega); have hG1 : EtOk w1 := hG.below hbel1 lr; clear hO1 hR0 hb0 i0 i7 i8 i11 HCS'; refine hK _ _ trivial ?_; clear hK K; refine t_done ?_; go_wp2_with fail
 clear hs; have hs := HS.out; refine (HNU.out _).mono ?_; rintro e w' ⟨rfl, rfl⟩; go_wp2_with (refine wpList_load_row rfl 24 (.tmp 5) rfl (w.heap.size + 1) rfl 24 cs (0,0) _ hB1 Tryz.underlying24 rfl (by rw [info_head, hcz]) ?_)
 refine (HRI.out _).mono ?_; rintro e w2 ⟨⟨v, rfl, hv⟩, hb2⟩; have hR2 := hR1.below hb2 hR1.lt; have hB2 := hB1.below hb2 hB1.lt; have hbel2 := hbel1.trans (hb2.mono hbel1.size); have hG2 : EtOk w2 := hG.below hbel2 lr; have hAH := fun W (h1 : ErIs W w1.heap.size v er) (h2 : EtOk W) => ahead_any v er (by rcases HRC.out with h | ⟨k, h, _⟩ <;> rw [h] <;> intro n hn <;> cases hn) w1.heap.size W h1 h2; have HAH := Hh hAH; clear hAH; go_wp2_with fail
 refine (HAH.out _ hv hG2).mono ?_; rintro e w3 ⟨rfl, hb3⟩; have hR3 := hR2.below hb3 hR2.lt; have hB3 := hB2.below hb3 hB2.lt; have hbel3 := hbel2.trans (hb3.mono hbel2.size); have hv3 := (hv.below hb3 lr).more (C := w.heap.size) hbel1.size; have HW := Hh (fun p W => wrongH_any p W); have HV := Hh hv3; have HE' := HE; have hbel1' := Hh hR1.lt; clear HRI HNU HAH hR1 hB1 hbel1 hG1 hb2 hR2 hB2 hbel2 hG2 hG hX57 hX9 hX1
 rcases HRC.out with hr | ⟨p, hr, hp⟩
 ·
  have hvn : v = .nilIface := by rw [hr] at hv; exact hv
  subst hvn; subst hr; clear hv hv3 HV
  by_cases hN : N < 16
  ·
   obtain rfl : E = .fa 1 6 := by rw [← HE.out]; show (if N < 16 then _ else _) = _; rw [if_pos hN]
   clear HE HE'; go_wp2_with fail
   refine (HW.out _ _).mono ?_; rintro e w4 ⟨⟨v, rfl, hv⟩, hb4⟩; have hR4 := hR3.below hb4 hR3.lt; have hbel4 := hbel3.trans (hb4.mono hbel3.size); have HV4 := Hh (hv.only (zset_only w4 w.heap.size) hR3.lt); obtain ⟨k0, k1, k2, k3, k4, k5, f0, f1, f2, f3, f4, f5⟩ := zset_facts hR4; have hlt4 := hR4.lt; go_wp2
   (try simp only [Exit.inBlock, Exit.then])
   refine bodyPost_ret (results_cell3 rfl _ _ w.heap.size 24 #[.int .u8 0, .string ⟨#[]⟩, .int .u8 0, .int .u8 0, .string ⟨#[]⟩, .int .u8 0] _ rfl (zset_blk hR4) Tryz.underlying24 rfl (by rw [info_head]; rfl)) rfl ?_; exact ⟨⟨_, rfl, HV4.out.more hbel3.size⟩, (zset_only w4 w.heap.size).below hbel4 lr⟩
  ·
   by_cases hX : X12 = z4
   ·
    obtain rfl : E = .ok := by rw [← HE.out]; show (if N < 16 then _ else _) = _; rw [if_neg hN, decide_eq_true hX]; rfl
    clear HE HE'; rw [hX] at hX12
    unfold z4 at hX12
    clear hX
    go_wp2_with (first
     | (refine wpList_load_row rfl 24 (.tmp 5) rfl (w.heap.size + 1) rfl 24 cs (0,0) _ hB3 Tryz.underlying24 rfl (by rw [info_head, hcz]) ?_)
     | (refine wpList_store_row rfl 24 (.tmp 2) (.tmp 52) rfl w.heap.size cs rfl rfl 24 #[.int .u8 0, .string ⟨#[]⟩, .int .u8 0, .int .u8 0, .string ⟨#[]⟩, .int .u8 0] hR3 (by rw [info_head, hcz]) (by rw [hcz]; rfl) hco ?_))
    (try simp only [Exit.inBlock, Exit.then])
    refine bodyPost_ret (results_cell3 rfl _ _ w.heap.size 24 cs _ rfl (hR3.row _) Tryz.underlying24 rfl (by rw [info_head, hcz])) rfl ?_; rw [HCS.out]; exact ⟨⟨_, rfl, rfl⟩, (Only.setRow _ _ _).below hbel3 lr⟩
   ·
    obtain rfl : E = .fa 12 6 := by rw [← HE.out]; show (if N < 16 then _ else _) = _; rw [if_neg hN, decide_eq_false hX]; rfl
    have hne := str_ne hX; rw [show z4.toList = [48, 48, 48, 48] from by rw [ByteArray.toList_eq]; rfl] at hne; clear HE HE' hX; go_wp2_with fail
    refine (HW.out _ _).mono ?_; rintro e w4 ⟨⟨v, rfl, hv⟩, hb4⟩; have hR4 := hR3.below hb4 hR3.lt; have hbel4 := hbel3.trans (hb4.mono hbel3.size); have HV4 := Hh (hv.only (zset_only w4 w.heap.size) hR3.lt); obtain ⟨k0, k1, k2, k3, k4, k5, f0, f1, f2, f3, f4, f5⟩ := zset_facts hR4; have hlt4 := hR4.lt; go_wp2
    (try simp only [Exit.inBlock, Exit.then])
    refine bodyPost_ret (results_cell3 rfl _ _ w.heap.size 24 #[.int .u8 0, .string ⟨#[]⟩, .int .u8 0, .int .u8 0, .string ⟨#[]⟩, .int .u8 0] _ rfl (zset_blk hR4) Tryz.underlying24 rfl (by rw [info_head]; rfl)) rfl ?_; exact ⟨⟨_, rfl, HV4.out.more hbel3.size⟩, (zset_only w4 w.heap.size).below hbel4 lr⟩
 ·
  subst hr; have hv := hv.below hb3 lr
  have hE2 : pE (.fa (p : Int) 6) N (decide (X12 = z4)) = if p = 0 then .fa p 6 else if N < 16 then .fa 1 6 else .fa p 6 := by
   unfold pE
   by_cases h0 : p = 0
   ·
    subst h0; rfl
   ·
    rw [if_neg (show ¬ aheadB (.fa (p : Int) 6) = true by simp [aheadB]; omega), if_neg h0]; rfl
  rw [hE2] at HE; clear hE2; clear hb3
  by_cases hp0 : p = 0
  ·
   subst hp0; have h35 : aheadB (.fa ((0 : Nat) : Int) 6) = true := rfl; obtain rfl : E = .fa ((0 : Nat) : Int) 6 := by rw [← HE.out]; rfl
   clear HE HE'; have HVZ := Hh (hv.only (zset_only w3 w.heap.size) hbel1'.out); obtain ⟨g, rfl, hg1, hg2⟩ := hv; obtain ⟨k0, k1, k2, k3, k4, k5, f0, f1, f2, f3, f4, f5⟩ := zset_facts hR3; have hlt4 := hR3.lt; clear hg1 hg2 hv3 HV; go_wp2
   (try simp only [Exit.inBlock, Exit.then])
   refine bodyPost_ret (results_cell3 rfl _ _ w.heap.size 24 #[.int .u8 0, .string ⟨#[]⟩, .int .u8 0, .int .u8 0, .string ⟨#[]⟩, .int .u8 0] _ rfl (zset_blk hR3) Tryz.underlying24 rfl (by rw [info_head]; rfl)) rfl ?_; exact ⟨⟨_, rfl, HVZ.out.more (Nat.le_of_lt hbel1'.out)⟩, (zset_only w3 w.heap.size).below hbel3 lr⟩
  ·
   have h35 : aheadB (.fa (p : Int) 6) = false := by simp [aheadB]; omega
   by_cases hN : N < 16
   ·
    obtain rfl : E = .fa 1 6 := by rw [← HE.out, if_neg hp0, if_pos hN]
    clear HE HE' HV hv3; obtain ⟨g, rfl, hg1, hg2⟩ := hv; clear hg1 hg2; go_wp2_with fail
    refine (HW.out _ _).mono ?_; rintro e w4 ⟨⟨v, rfl, hv⟩, hb4⟩; have hR4 := hR3.below hb4 hR3.lt; have hbel4 := hbel3.trans (hb4.mono hbel3.size); have HV4 := Hh (hv.only (zset_only w4 w.heap.size) hR3.lt); obtain ⟨k0, k1, k2, k3, k4, k5, f0, f1, f2, f3, f4, f5⟩ := zset_facts hR4; have hlt4 := hR4.lt; go_wp2
    (try simp only [Exit.inBlock, Exit.then])
    refine bodyPost_ret (results_cell3 rfl _ _ w.heap.size 24 #[.int .u8 0, .string ⟨#[]⟩, .int .u8 0, .int .u8 0, .string ⟨#[]⟩, .int .u8 0] _ rfl (zset_blk hR4) Tryz.underlying24 rfl (by rw [info_head]; rfl)) rfl ?_; exact ⟨⟨_, rfl, HV4.out.more hbel3.size⟩, (zset_only w4 w.heap.size).below hbel4 lr⟩
   ·
    obtain rfl : E = .fa (p : Int) 6 := by rw [← HE.out, if_neg hp0, if_neg hN]
    clear HE HE'; have HVZ := Hh (hv.only (zset_only w3 w.heap.size) hbel1'.out); obtain ⟨g, rfl, hg1, hg2⟩ := hv; obtain ⟨k0, k1, k2, k3, k4, k5, f0, f1, f2, f3, f4, f5⟩ := zset_facts hR3; have hlt4 := hR3.lt; clear hg1 hg2 hv3 HV; go_wp2
    (try simp only [Exit.inBlock, Exit.then])
    refine bodyPost_ret (results_cell3 rfl _ _ w.heap.size 24 #[.int .u8 0, .string ⟨#[]⟩, .int .u8 0, .int .u8 0, .string ⟨#[]⟩, .int .u8 0] _ rfl (zset_blk hR3) Tryz.underlying24 rfl (by rw [info_head]; rfl)) rfl ?_; exact ⟨⟨_, rfl, HVZ.out.more (Nat.le_of_lt hbel1'.out)⟩, (zset_only w3 w.heap.size).below hbel3 lr⟩
theorem parse_any (s : ByteArray) (hsz : s.size ≤ 140737488351232) (w : World) (hG : EtOk w) :
    Calls Tryz.prog 38 #[.string s] w fun e w' => (∃ v, e = .returned (.tuple #[.agg (parseHd s).cells, .int .i64 (parseN s), v]) ∧ ErIs w' w.heap.size v (parseEr s)) ∧ Below w.heap.size w w' := by
 by_cases hs : s.size < 16
 ·
  have he : parseEr s = .no 2 := by unfold parseEr; rw [if_pos hs]
  unfold parseHd parseN
  rw [he]; refine (parse_short s hs w).mono ?_; rintro e w' ⟨rfl, hb⟩; exact ⟨⟨_, rfl, rfl⟩, hb⟩
 ·
  exact parse_long s (not_lt_of hs) hsz w hG _ rfl

theorem extract_len (s : ByteArray) (a b : Nat) (h : b ≤ s.size) : (s.extract a b).data.toList.length = b - a := by
 have : (s.extract a b).data.toList.length = (s.extract a b).size := rfl; rw [this, ByteArray.size_extract]; omega
theorem extract_get (s : ByteArray) (a b k : Nat) (h : b ≤ s.size) (hk : k < (s.extract a b).data.toList.length) : (s.extract a b).data.toList[k] = chr s (a + k) := by
 rw [extract_len s a b h] at hk; rw [← chr_at s (a + k) (by omega)]
 simp [ByteArray.getElem_eq_getElem_data]
theorem ahead_isIn (s : ByteArray) : isIn sBD.data.toList (chr s 0) = !aheadB (rightEr (hdOf s)) := by
 show _ = !aheadB (rE (isIn sBD.data.toList (chr s 0)) _ _ _ _ _)
 generalize isIn sBD.data.toList (chr s 0) = b0; generalize letB (hdOf s).usage.data.toList = b1; generalize isIn sTA.data.toList (hdOf s).alg = b2; generalize isIn sMO.data.toList (hdOf s).mode = b3; generalize letB (hdOf s).serial.data.toList = b4; generalize isIn sEX.data.toList (hdOf s).exp = b5
 revert b0 b1 b2 b3 b4 b5
 decide

theorem refParse_any (s : ByteArray) (hs : 16 ≤ s.size) (hsz : s.size ≤ 140737488351232) (w : World) (E : Er) (hE : parseEr s = E) :
    Calls Tryz.prog 50 #[.string s] w fun e w' => e = .returned (.tuple #[.agg (if isOk E then hdOf s else Hd.zero).cells, .int .i64 (if isOk E then numOf s else 0), .int .i64 (erAt E)]) ∧ Below w.heap.size w w' := by
 have i0 := index_str (P := Tryz.prog) 9 Tryz.underlying9 s 0 (by omega) 0 rfl _ rfl; have i7 := index_str (P := Tryz.prog) 9 Tryz.underlying9 s 7 (by omega) 7 rfl _ rfl; have i8 := index_str (P := Tryz.prog) 9 Tryz.underlying9 s 8 (by omega) 8 rfl _ rfl; have i11 := index_str (P := Tryz.prog) 9 Tryz.underlying9 s 11 (by omega) 11 rfl _ rfl; rw [chr_at] at i0 i7 i8 i11
 have hix : ∀ k : Nat, k < s.size → ∀ W, Sem.run Tryz.prog (Instr.index 9 (.string s) (.int .i64 (k : Int))) W = .ok (.int .u8 ((chr s k).toNat : Int)) W := fun k hk W => by
  have := index_str (P := Tryz.prog) 9 Tryz.underlying9 s k hk k rfl _ rfl W; rw [chr_at] at this; exact this
 have HIX := Hh hix; clear hix; have HRI := Hh (fun W => refWrong_any (hdOf s) (by show (s.extract 5 7).size ≤ _; rw [ByteArray.size_extract]; omega) (by show (s.extract 9 11).size ≤ _; rw [ByteArray.size_extract]; omega) W); have HIN := Hh (fun W => inR_any (chr s 0) _ rfl sBD (by decide) W); rw [ahead_isIn] at HIN
 unfold sBD at HIN
 unfold parseEr at hE
 rw [if_neg (by omega)] at hE; have hrc := rightEr_cases (hdOf s); generalize rightEr (hdOf s) = er at *; obtain ⟨nb, hnb⟩ : ∃ nb, (!aheadB er) = nb := ⟨_, rfl⟩; rw [hnb] at HIN; have HNB := Hh hnb; clear hnb; obtain ⟨D, hD⟩ : ∃ D, (s.extract 1 5).data.toList = D := ⟨_, rfl⟩; have hDl : D.length = 4 := by rw [← hD, extract_len s 1 5 (by omega)]
 have hDg : ∀ k (h : k < D.length), D[k] = chr s (1 + k) := by subst hD; exact fun k h => extract_get s 1 5 k (by omega) h
 have hN : numOf s = numZ D := by rw [← hD]; rfl
 rw [hN] at hE ⊢; obtain ⟨N, hNN⟩ : ∃ N, numZ D = N := ⟨_, rfl⟩; rw [hNN] at hE ⊢; obtain ⟨X, hX⟩ : ∃ X, s.extract 12 16 = X := ⟨_, rfl⟩; have hXl : X.data.toList.length = 4 := by rw [← hX, extract_len s 12 16 (by omega)]
 have hXg : ∀ k (h : k < X.data.toList.length), X.data.toList[k] = chr s (12 + k) := by subst hX; exact fun k h => extract_get s 12 16 k (by omega) h
 rw [hX] at hE; obtain ⟨cs, hcs⟩ : ∃ cs, (hdOf s).cells = cs := ⟨_, rfl⟩; rw [hcs] at HRI; have hcz : cs.size = 6 := by rw [← hcs]; rfl
 have hco : cs.all (·.oneCell') = true := by rw [← hcs]; simp [Hd.cells, Value.oneCell']
 have HCS := Hh hcs; clear hcs; have hcs' : #[Value.int .u8 ((chr s 0).toNat : Int), .string (s.extract 5 7), .int .u8 ((chr s 7).toNat : Int), .int .u8 ((chr s 8).toNat : Int), .string (s.extract 9 11), .int .u8 ((chr s 11).toNat : Int)] = cs := HCS.out; have HCS' := Hh hcs'; clear hcs'; have hb0 : Below w.heap.size w (w.alloc (.cells #[.int .u8 0, .string ⟨#[]⟩, .int .u8 0, .int .u8 0, .string ⟨#[]⟩, .int .u8 0] 24)) := (Below.refl _ _).alloc lr _; have hR0 := Blk.new w 24 #[.int .u8 0, .string ⟨#[]⟩, .int .u8 0, .int .u8 0, .string ⟨#[]⟩, .int .u8 0]; have HE := Hh hE; clear hE hN; have HRC := Hh hrc; clear hrc; have HDG := Hh hDg; clear hDg; have HXG := Hh hXg; clear hXg; have HNN := Hh hNN; clear hNN; have HDL := Hh hDl; clear hDl; have HXL := Hh hXl; clear hXl; clear hX hD; obtain ⟨X57, hX57⟩ : ∃ X, s.extract 5 7 = X := ⟨_, rfl⟩; obtain ⟨X9, hX9⟩ : ∃ X, s.extract 9 11 = X := ⟨_, rfl⟩; rw [hX57, hX9] at HCS'; have HS := Hh hs; clear hs; generalize hc0 : (chr s 0).toNat = c0 at *; generalize hc7 : (chr s 7).toNat = c7 at *; generalize hc8 : (chr s 8).toNat = c8 at *; generalize hc11 : (chr s 11).toNat = c11 at *; clear hc0 hc7 hc8 hc11; obtain ⟨PC, hPC⟩ : ∃ PC, (if isOk E then hdOf s else Hd.zero).cells = PC := ⟨_, rfl⟩; obtain ⟨PN, hPN⟩ : ∃ PN, (if isOk E then N else 0) = PN := ⟨_, rfl⟩; obtain ⟨PA, hPA⟩ : ∃ PA, erAt E = PA := ⟨_, rfl⟩; rw [hPC, hPN, hPA]; have HPC := Hh hPC; clear hPC; have HPN := Hh hPN; clear hPN; have HPA := Hh hPA; clear hPA
 have hbadv : ∀ a : Int, isOk E = false → erAt E = a → Hid (PC = Hd.zero.cells ∧ PN = 0 ∧ PA = a) := fun a h1 h2 => by
  refine ⟨?_, ?_, by rw [← HPA.out]; exact h2⟩
  ·
   rw [← HPC.out, h1]; rfl
  ·
   rw [← HPN.out, h1]; rfl
 have HBAD := Hh hbadv; clear hbadv
 go_enter Tryz.func50, Tryz.ntmps50
 go_wp2_with fail
 refine wp_region_tree (.q 0 (.q 1 (.q 2 (.q 3 (.q 4 (.q 5 (.q 6 (.q 7 (.q 8 (.q 9 (.q 10 (.q 11 (.q 12 (.e [13] fun _ => .e [14] fun _ => .done)))))))))))))) (fun _ => True) rfl (by kernel_rfl) (fun _ _ d _ _ h => by cases d <;> exact h) ?_; have hs := HS.out; refine t_q rfl rfl trivial _ (fun W hW => by (go_simp; rfl)) ?_; go_simp
 refine t_q rfl rfl trivial (.int .u8 (c0 : Int)) (fun W hW => by (go_simp)) ?_; go_simp
 refine t_q rfl rfl trivial _ (fun W hW => by (go_simp; rfl)) ?_; go_simp
 refine t_q rfl rfl trivial (.string X57) (fun W hW => by (go_simp; intro h; omega)) ?_; go_simp
 refine t_q rfl rfl trivial _ (fun W hW => by (go_simp; rfl)) ?_; go_simp
 refine t_q rfl rfl trivial (.int .u8 (c7 : Int)) (fun W hW => by (go_simp)) ?_; go_simp
 refine t_q rfl rfl trivial _ (fun W hW => by (go_simp; rfl)) ?_; go_simp
 refine t_q rfl rfl trivial (.int .u8 (c8 : Int)) (fun W hW => by (go_simp)) ?_; go_simp
 refine t_q rfl rfl trivial _ (fun W hW => by (go_simp; rfl)) ?_; go_simp
 refine t_q rfl rfl trivial (.string X9) (fun W hW => by (go_simp; intro h; omega)) ?_; go_simp
 refine t_q rfl rfl trivial _ (fun W hW => by (go_simp; rfl)) ?_; go_simp
 refine t_q rfl rfl trivial (.int .u8 (c11 : Int)) (fun W hW => by (go_simp)) ?_; go_simp
 refine t_q rfl rfl trivial (.agg cs) (fun W hW => by (go_simp; rw [HCS'.out])) ?_; go_simp
 refine t_e rfl rfl fun K hK => ?_; go_simp
 refine hK _ _ trivial ?_; clear hK K; refine t_e rfl rfl fun K hK => ?_; refine op_store_row 24 (.tmp 5) (.tmp 21) rfl (w.heap.size + 1) cs rfl rfl 24 #[.int .u8 0, .string ⟨#[]⟩, .int .u8 0, .int .u8 0, .string ⟨#[]⟩, .int .u8 0] (by have := Blk.new (w.alloc (.cells #[.int .u8 0, .string ⟨#[]⟩, .int .u8 0, .int .u8 0, .string ⟨#[]⟩, .int .u8 0] 24)) 24 #[.int .u8 0, .string ⟨#[]⟩, .int .u8 0, .int .u8 0, .string ⟨#[]⟩, .int .u8 0]; rw [World.size_alloc] at this; exact this.drewN 1) (by rw [info_head, hcz]) (by rw [hcz]; rfl) hco fun w1 hB1 hO1 => ?_; have hbel1 := hO1.below (below_drewN (hb0.alloc (by simp) _) 1) (by omega); have hR1 := ((hR0.alloc _).drewN 1).only hO1 (by omega); clear hO1 hR0 hb0 i7 i8 i11 HCS'; refine hK _ _ trivial ?_; clear hK K; refine t_done ?_; have hlt1 := hR1.lt; go_wp2_with fail
 refine (HIN.out _).mono ?_; rintro e w' ⟨rfl, rfl⟩
 cases nb with
 | false =>
  have hAH : aheadB er = true := by simpa using HNB.out
  obtain rfl : E = er := by rw [← HE.out]; unfold pE; rw [if_pos hAH]
  obtain ⟨k0, k1, k2, k3, k4, k5, f0, f1, f2, f3, f4, f5⟩ := zset_facts hR1; have hat : erAt E = 0 ∧ isOk E = false := by rcases HRC.out with h | ⟨k, h, _⟩ <;> subst h <;> simp [aheadB] at hAH <;> simp [erAt, isOk, hAH]
  have HAT := HBAD.out 0 hat.2 hat.1; clear hat hAH i0; go_wp2
  (try simp only [Exit.inBlock, Exit.then])
  refine bodyPost_ret (results_cell3 rfl _ _ w.heap.size 24 #[.int .u8 0, .string ⟨#[]⟩, .int .u8 0, .int .u8 0, .string ⟨#[]⟩, .int .u8 0] _ rfl (zset_blk hR1) Tryz.underlying24 rfl (by rw [info_head]; rfl)) rfl ?_; rw [HAT.out.1, HAT.out.2.1, HAT.out.2.2]; exact ⟨rfl, (zset_only w1 w.heap.size).below hbel1 lr⟩
 | true =>
  have hAH : aheadB er = false := by simpa using HNB.out
  have hE1 : N < 16 → Hid (PC = Hd.zero.cells ∧ PN = 0 ∧ PA = 1) := fun h => HBAD.out 1 (by rw [← HE.out]; unfold pE; rw [if_neg (by rw [hAH]; exact Bool.false_ne_true), if_pos h]; rfl) (by rw [← HE.out]; unfold pE; rw [if_neg (by rw [hAH]; exact Bool.false_ne_true), if_pos h]; rfl); have HE1 := Hh hE1; clear hE1; have hE2 : 16 ≤ N → Hid ((if isOk er then (if decide (X = z4) then Er.ok else .fa 12 6) else er) = E) := fun h => by have := HE.out; unfold pE at this; rw [if_neg (by rw [hAH]; exact Bool.false_ne_true), if_neg (by omega)] at this; exact this
  have HE2 := Hh hE2; clear hE2; clear i0 hAH HIN; go_wp2
  go_loop [6, 7] (fun n i => ∃ k : Nat, 1 ≤ k ∧ k ≤ 5 ∧ i = .int .i64 k ∧ n = .int .i64 (numF (D.take (k - 1)) : Nat) ∧ Hid (∀ c ∈ D.take (k - 1), isDec c = true)) (fun _ i => 5 - (intOf i).toNat)
  case atStart => exact ⟨1, by omega, by omega, rfl, rfl, fun c h => by cases h⟩
  case round =>
   obtain ⟨k, hk1, hk, rfl, rfl, hall⟩ := hrel
   by_cases hlt : k < 5
   ·
    have hki : (k : Int) < 5 := by omega
    have i1 := HIX.out k (by omega); have hkl : k - 1 < D.length := by rw [HDL.out]; omega
    have hg := HDG.out (k - 1) hkl; rw [show 1 + (k - 1) = k by omega] at hg; have hsn : numF (D.take (k + 1 - 1)) = 10 * numF (D.take (k - 1)) + ((chr s k).toNat - 48) := by rw [show k + 1 - 1 = k - 1 + 1 by omega, List.take_succ_eq_append_getElem hkl, numF_snoc, hg]
    have hnl := numF_lt _ hall.out; have hp : 10 ^ (D.take (k - 1)).length ≤ 10 ^ 4 := Nat.pow_le_pow_right (by omega) (by rw [List.length_take]; omega)
    have hnext : isDec (chr s k) = true → Hid (∀ c ∈ D.take (k + 1 - 1), isDec c = true) := fun hd c hc => by
     rw [show k + 1 - 1 = k - 1 + 1 by omega, List.take_succ_eq_append_getElem hkl] at hc
     rcases List.mem_append.1 hc with h | h
     ·
      exact hall.out c h
     ·
      simp at h; subst h; rw [hg]; exact hd
    have hbad : isDec (chr s k) = false → Hid (PC = Hd.zero.cells ∧ PN = 0 ∧ PA = 1) := fun h => HE1.out (by
     rw [← HNN.out]
     unfold numZ
     rw [if_neg]
     ·
      omega
     ·
      intro h2; have := List.all_eq_true.1 h2 D[k - 1] (List.getElem_mem hkl); rw [hg, h] at this
      cases this)
    obtain ⟨c, hc⟩ : ∃ c, chr s k = c := ⟨_, rfl⟩; rw [hc] at i1 hsn hnext hbad; clear hg hc; have hcl := c.toNat_lt; have hN : numF (D.take (k - 1)) < 10000 := Nat.lt_of_lt_of_le hnl hp
    by_cases hd : 48 ≤ c.toNat ∧ c.toNat ≤ 57
    ·
     have hn := hnext (decide_eq_true hd); obtain ⟨h2a, h2b⟩ := hd; generalize numF (D.take (k - 1)) = M at *; have e1 : 10 * (M : Int) + (c.toNat : Int) - 48 = ((10 * M + (c.toNat - 48) : Nat) : Int) := by omega
     rw [← hsn] at e1; have E1 := Hh e1; clear e1; have q2 : (48 : Int) ≤ (c.toNat : Int) := by omega
     have q3 : (c.toNat : Int) ≤ 57 := by omega
     clear hnext hsn hnl hp hbad; go_wp2
     go_round
     case rel => exact ⟨k + 1, by omega, by omega, by go_num, by rw [E1.out], hn⟩
     case measure => simp [intOf]; omega
    ·
     have HAT := hbad (decide_eq_false hd); clear hnext hsn hnl hp hbad; generalize numF (D.take (k - 1)) = M at *
     by_cases a1 : c.toNat < 48
     ·
      have q1 : (c.toNat : Int) < 48 := by omega
      obtain ⟨k0, k1, k2, k3, k4, k5, f0, f1, f2, f3, f4, f5⟩ := zset_facts hR1

      go_wp2
      (try simp only [Exit.inBlock, Exit.then])
      refine bodyPost_ret (results_cell3 rfl _ _ w.heap.size 24 #[.int .u8 0, .string ⟨#[]⟩, .int .u8 0, .int .u8 0, .string ⟨#[]⟩, .int .u8 0] _ rfl (zset_blk hR1) Tryz.underlying24 rfl (by rw [info_head]; rfl)) rfl ?_; rw [HAT.out.1, HAT.out.2.1, HAT.out.2.2]; exact ⟨rfl, (zset_only w1 w.heap.size).below hbel1 lr⟩
     ·
      have q1 : ¬ (c.toNat : Int) < 48 := by omega
      have q2 : (57 : Int) < (c.toNat : Int) := by omega
      obtain ⟨k0, k1, k2, k3, k4, k5, f0, f1, f2, f3, f4, f5⟩ := zset_facts hR1

      go_wp2
      (try simp only [Exit.inBlock, Exit.then])
      refine bodyPost_ret (results_cell3 rfl _ _ w.heap.size 24 #[.int .u8 0, .string ⟨#[]⟩, .int .u8 0, .int .u8 0, .string ⟨#[]⟩, .int .u8 0] _ rfl (zset_blk hR1) Tryz.underlying24 rfl (by rw [info_head]; rfl)) rfl ?_; rw [HAT.out.1, HAT.out.2.1, HAT.out.2.2]; exact ⟨rfl, (zset_only w1 w.heap.size).below hbel1 lr⟩
   ·
    obtain rfl : k = 5 := by omega
    have hki : ¬ ((5 : Nat) : Int) < 5 := by omega
    have hfin : D.take (5 - 1) = D := List.take_of_length_le (by rw [HDL.out]; omega); rw [hfin] at hall ⊢; have hz : (numF D : Int) = N := by rw [← HNN.out]; unfold numZ; rw [if_pos (List.all_eq_true.2 hall.out)]; rfl
    rw [hz]; clear hz hfin hall
    by_cases hN : N < 16
    ·
     have HAT := HE1.out hN; obtain ⟨k0, k1, k2, k3, k4, k5, f0, f1, f2, f3, f4, f5⟩ := zset_facts hR1

     go_wp2
     (try simp only [Exit.inBlock, Exit.then])
     refine bodyPost_ret (results_cell3 rfl _ _ w.heap.size 24 #[.int .u8 0, .string ⟨#[]⟩, .int .u8 0, .int .u8 0, .string ⟨#[]⟩, .int .u8 0] _ rfl (zset_blk hR1) Tryz.underlying24 rfl (by rw [info_head]; rfl)) rfl ?_; rw [HAT.out.1, HAT.out.2.1, HAT.out.2.2]; exact ⟨rfl, (zset_only w1 w.heap.size).below hbel1 lr⟩
    ·
     have HE3 := HE2.out (by omega); go_wp2_with (refine wpList_load_row rfl 24 (.tmp 5) rfl (w.heap.size + 1) rfl 24 cs (0,0) _ hB1 Tryz.underlying24 rfl (by rw [info_head, hcz]) ?_)
     refine (HRI.out _).mono ?_; rintro e w2 ⟨rfl, hb2⟩; have hR2 := hR1.below hb2 hR1.lt; have hB2 := hB1.below hb2 hB1.lt; have hbel2 := hbel1.trans (hb2.mono hbel1.size); have hlt2 := hR2.lt; clear hb2 hR1 hB1 hbel1
     rcases HRC.out with hr | ⟨p, hr, hp⟩
     ·
      subst hr; have h53 : erAt .ok = -1 := rfl
      have HE4 : X = z4 → Hid (PC = cs ∧ PN = N ∧ PA = -1) := fun h => by
       have he : E = .ok := by rw [← HE3.out, decide_eq_true h]; rfl
       refine ⟨?_, ?_, ?_⟩
       ·
        rw [← HPC.out, he]; exact HCS.out
       ·
        rw [← HPN.out, he]; rfl
       ·
        rw [← HPA.out, he]; rfl
      have HE5 : ¬ X = z4 → Hid (PC = Hd.zero.cells ∧ PN = 0 ∧ PA = 12) := fun h => by
       have he : E = .fa 12 6 := by rw [← HE3.out, decide_eq_false h]; rfl
       exact HBAD.out 12 (by rw [he]; rfl) (by rw [he]; rfl)
      have HE4 := Hh HE4; have HE5 := Hh HE5
      rename_i he4 he5
      clear he4 he5 HE1 HE2 HE3 HRI; go_wp2
      go_loop [8] (fun i => ∃ k : Nat, 12 ≤ k ∧ k ≤ 16 ∧ i = .int .i64 k ∧ Hid (∀ c ∈ X.data.toList.take (k - 12), c = 48)) (fun i => 16 - (intOf i).toNat)
      case atStart => exact ⟨12, by omega, by omega, rfl, fun c h => by cases h⟩
      case round =>
       obtain ⟨k, hk1, hk, rfl, hall⟩ := hrel
       by_cases hlt : k < 16
       ·
        have hki : (k : Int) < 16 := by omega
        have i1 := HIX.out k (by omega); have hkl : k - 12 < X.data.toList.length := by rw [HXL.out]; omega
        have hg := HXG.out (k - 12) hkl; rw [show 12 + (k - 12) = k by omega] at hg
        by_cases hc : chr s k = 48
        ·
         have hn : Hid (∀ c ∈ X.data.toList.take (k + 1 - 12), c = 48) := fun c hcm => by
          rw [show k + 1 - 12 = k - 12 + 1 by omega, List.take_succ_eq_append_getElem hkl] at hcm
          rcases List.mem_append.1 hcm with h | h
          ·
           exact hall.out c h
          ·
           simp at h; subst h; exact hg.trans hc
         rw [hc] at i1; rw [show (((48 : UInt8).toNat : Nat) : Int) = 48 from rfl] at i1; clear hg hc; go_wp2
         go_round
         case rel => exact ⟨k + 1, by omega, by omega, by go_num, hn⟩
         case measure => simp [intOf]; omega
        ·
         have HAT := HE5.out (fun h => hc (by
          rw [← hg]; have h2 : X.data.toList = [48, 48, 48, 48] := by rw [h]; rfl
          have h3 : X.data.toList[k - 12] ∈ [(48 : UInt8), 48, 48, 48] := by rw [← h2]; exact List.getElem_mem hkl
          simpa using h3))
         have t1 : (((chr s k).toNat : Int) != 48) = true := by
          rw [bne_iff_ne]; intro h; exact hc (UInt8.toNat_inj.1 (by show _ = 48; omega))
         clear hg hc; generalize (chr s k).toNat = ck at *; obtain ⟨k0, k1, k2, k3, k4, k5, f0, f1, f2, f3, f4, f5⟩ := zset_facts hR2; go_wp2
         (try simp only [Exit.inBlock, Exit.then])
         refine bodyPost_ret (results_cell3 rfl _ _ w.heap.size 24 #[.int .u8 0, .string ⟨#[]⟩, .int .u8 0, .int .u8 0, .string ⟨#[]⟩, .int .u8 0] _ rfl (zset_blk hR2) Tryz.underlying24 rfl (by rw [info_head]; rfl)) rfl ?_; rw [HAT.out.1, HAT.out.2.1, HAT.out.2.2]; exact ⟨rfl, (zset_only w2 w.heap.size).below hbel2 lr⟩
       ·
        obtain rfl : k = 16 := by omega
        have hki : ¬ ((16 : Nat) : Int) < 16 := by omega
        have hXX : X = z4 := by
         have h1 : X.data.toList.take (16 - 12) = X.data.toList := List.take_of_length_le (by rw [HXL.out]; omega); rw [h1] at hall; have h2 : X.data.toList = List.replicate 4 48 := List.eq_replicate_iff.2 ⟨HXL.out, hall.out⟩
         apply ByteArray.ext
         exact Array.toList_inj.1 h2
        have HAT := HE4.out hXX; clear hXX hall
        go_wp2_with (first
         | (refine wpList_load_row rfl 24 (.tmp 5) rfl (w.heap.size + 1) rfl 24 cs (0,0) _ hB2 Tryz.underlying24 rfl (by rw [info_head, hcz]) ?_)
         | (refine wpList_store_row rfl 24 (.tmp 2) (.tmp 68) rfl w.heap.size cs rfl rfl 24 #[.int .u8 0, .string ⟨#[]⟩, .int .u8 0, .int .u8 0, .string ⟨#[]⟩, .int .u8 0] hR2 (by rw [info_head, hcz]) (by rw [hcz]; rfl) hco ?_))
        (try simp only [Exit.inBlock, Exit.then])
        refine bodyPost_ret (results_cell3 rfl _ _ w.heap.size 24 cs _ rfl (hR2.row _) Tryz.underlying24 rfl (by rw [info_head, hcz])) rfl ?_; rw [HAT.out.1, HAT.out.2.1, HAT.out.2.2]; exact ⟨rfl, (Only.setRow _ _ _).below hbel2 lr⟩
     ·
      have hp0 : erAt er = (p : Int) := by rw [hr]; rfl
      have hp1 : (0 : Int) ≤ (p : Int) := by omega
      rw [hp0] at HRI ⊢
      have HAT : Hid (PC = Hd.zero.cells ∧ PN = 0 ∧ PA = (p : Int)) := by
       have he : E = .fa p 6 := by rw [← HE3.out, hr]; rfl
       exact HBAD.out p (by rw [he]; rfl) (by rw [he]; rfl)
      clear hp0 HE1 HE2 HE3; go_wp2_with (refine wpList_load_row rfl 24 (.tmp 5) rfl (w.heap.size + 1) rfl 24 cs (0,0) _ hB2 Tryz.underlying24 rfl (by rw [info_head, hcz]) ?_)
      refine (HRI.out _).mono ?_; rintro e w3 ⟨rfl, hb3⟩; have hR3 := hR2.below hb3 hR2.lt; have hbel3 := hbel2.trans (hb3.mono hbel2.size); have hlt3 := hR3.lt; obtain ⟨k0, k1, k2, k3, k4, k5, f0, f1, f2, f3, f4, f5⟩ := zset_facts hR3; go_wp2
      (try simp only [Exit.inBlock, Exit.then])
      refine bodyPost_ret (results_cell3 rfl _ _ w.heap.size 24 #[.int .u8 0, .string ⟨#[]⟩, .int .u8 0, .int .u8 0, .string ⟨#[]⟩, .int .u8 0] _ rfl (zset_blk hR3) Tryz.underlying24 rfl (by rw [info_head]; rfl)) rfl ?_; rw [HAT.out.1, HAT.out.2.1, HAT.out.2.2]; exact ⟨rfl, (zset_only w3 w.heap.size).below hbel3 lr⟩

def natsOf (L : List UInt8) : List Nat := L.map (·.toNat)
/-- the operation alone: bytes that are read as a text -/
theorem wpList_to_text {P : Program} {ops : Array Oper} {rest : List Oper} {Q : Exit → Act → World → Prop} {o : Oper} {a : Act} {w : World} (hgd : o.guard = none) (src dst e : TypeId) (x : Operand) (hop : o.op = .convert src dst x) (A : Option Addr) (L : List UInt8) (n cap : Nat) (hx : a.eval x = .slice A n cap) (hn : L.length = n)
    (hA : ∃ b p, A = some ⟨b, p, none⟩ ∧ Ns .u8 w b p (natsOf L))
    (hs : P.underlying src = some (.slice e)) (he : P.underlying e = some (.int .u8)) {d : TypeDesc} (hd : P.underlying dst = some d) (hdd : d = .string)
    (h : wpList P ops Q rest (a.put o.dst (.string ⟨L.toArray⟩)) w) : wpList P ops Q (o :: rest) a w := by
 obtain ⟨b, p, rfl, hN⟩ := hA; subst hdd; subst hn; refine wpList_plain hgd fun _ hK => ?_
 have hr := run_convert_bytes_back (P := P) w src dst e ⟨b, p, none⟩ cap L hs he hd (fun j hj => by
  have := hN.cell j (by simpa [natsOf] using hj); rw [Addr.add_mid]
  simpa [natsOf] using this)
 unfold Oper.wp execOp
 simp only [hop, hx, hr, Sem.run_bind, Result.andThen_ok, Sem.run_pure]
 exact hK _ _ h
theorem two_of {s : ByteArray} (h : s.size = 2) : ∃ a b, s = str [a, b] := by
 have hl : s.data.toList.length = 2 := h
 match hs : s.data.toList, hl with
 | [a, b], _ => exact ⟨a, b, by apply ByteArray.ext; exact Array.toList_inj.1 (by rw [hs]; rfl)⟩
theorem tabName : Tryz.prog.globalNamed "internal/strconv.uint64pow10" = some 2 := by kernel_rfl
theorem TabOk.below {w W : World} (h : TabOk w) (hb : Below w.heap.size w W) : TabOk W := by
 unfold TabOk Lib.TabIs World.var? at *
 rw [tabName] at *; simp only [Option.bind_some] at *
 have hlt : 2 < w.heap.size := by
  rcases Nat.lt_or_ge 2 w.heap.size with hlt | hge
  ·
   exact hlt
  ·
   rw [Array.getElem?_eq_none hge] at h; cases h
 rw [hb.block _ hlt]; exact h
end Go.Proofs.YtfkjkkjimdilcaaGreatDoor
