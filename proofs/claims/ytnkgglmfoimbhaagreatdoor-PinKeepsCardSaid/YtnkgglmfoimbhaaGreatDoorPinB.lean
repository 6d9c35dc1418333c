/- The contracts of strconv.Itoa of one digit, pin.known, pin.text, pin.field, pin.filler, mode.Xor, pin.turned. -/
import Derived.Test.YtnkgglmfoimbhaaGreatDoorPinAll
import Derived.Test.YtnkgglmfoimbhaaGreatDoorPinP
import Derived.Test.YtnkgglmfoimbhaaGreatDoorEqual
import Derived.Test.YtnkgglmfoimbhaaGreatDoorConv
import Derived.Test.YtnkgglmfoimbhaaGreatDoorDesGH
import Derived.Test.YtnkgglmfoimbhaaGreatDoorNums
namespace Go.Proofs.YtnkgglmfoimbhaaGreatDoor
open Go Go.RowKit Pr

theorem repeat_at (s Z : ByteArray) (c : Nat) (hZ : (⟨(Lib.repeatL s.data.toList c).toArray⟩ : ByteArray) = Z) (i : Int) (hi : i = c) (hc : c ≤ 1000) (hs : s.size ≤ 1000) (w : World) :
    Calls Tryz.prog 57 #[.string s, .int .i64 i] w fun e w' => e = .returned (.string Z) ∧ Below w.heap.size w w' := by
  subst hi
  subst hZ
  exact Tryz.strings_Repeat s c w (by omega) (by have := Nat.mul_le_mul hs hc; omega)

def str (L : List UInt8) : ByteArray := ⟨L.toArray⟩
theorem str_list (L : List UInt8) : (str L).data.toList = L := rfl
theorem str_size (L : List UInt8) : (str L).size = L.length := by simp [str, ByteArray.size]
theorem str_add (L M : List UInt8) : str L ++ str M = str (L ++ M) := by
  unfold str
  rw [cat_bytes]
theorem str_of (s : ByteArray) : str s.data.toList = s := rfl
theorem str_extract (L : List UInt8) (i j : Nat) : (str L).extract i j = str ((L.drop i).take (j - i)) := by
  apply ByteArray.ext
  apply Array.toList_inj.1
  rw [Lib.extract_data]
  unfold str
  simp [List.take_drop]
  try omega

def digs36 : ByteArray := ⟨#[48, 49, 50, 51, 52, 53, 54, 55, 56, 57, 97, 98, 99, 100, 101, 102, 103, 104, 105, 106, 107, 108, 109, 110, 111, 112, 113, 114, 115, 116, 117, 118, 119, 120, 121, 122]⟩
theorem digs36_at (n : Nat) (h : n < 10) : digs36.extract n (n + 1) = str [hexd n] := by
  have : ∀ n < 10, digs36.extract n (n + 1) = str [hexd n] := by decide +kernel
  exact this n h
theorem small_one (n : Nat) (h : n < 10) (w : World) : Calls Tryz.prog 115 #[.int .i64 n] w fun e w' => e = .returned (.string (str [hexd n])) ∧ w = w' := by
  have he := digs36_at n h
  unfold digs36 at he
  have HE := Lib.hid he; clear he
  go_enter Tryz.func115, Tryz.ntmps115
  go_wp2
  go_ret
  exact ⟨by rw [← HE.out]; first | rfl | (congr 3; omega), rfl⟩
theorem itoa_one (n : Nat) (h : n < 10) (w : World) : Calls Tryz.prog 41 #[.int .i64 n] w fun e w' => e = .returned (.string (str [hexd n])) ∧ w = w' := by
  have H := Lib.hid (fun W => small_one n h W)
  have HF : ∀ W, Calls Tryz.prog 96 #[.int .i64 n, .int .i64 10] W fun e w' => e = .returned (.string (str [hexd n])) ∧ W = w' := by
    intro W
    have t1 : decide ((n : Int) < 100) = true := by simp; omega
    go_enter Tryz.func96, Tryz.ntmps96
    go_wp2_with (go_at_call 115; refine (H.out _).mono ?_; rintro e w' ⟨rfl, rfl⟩)
    go_ret
    exact ⟨rfl, rfl⟩
  have HF := Lib.hid HF
  have HI : ∀ W, Calls Tryz.prog 76 #[.int .i64 n] W fun e w' => e = .returned (.string (str [hexd n])) ∧ W = w' := by
    intro W
    go_enter Tryz.func76, Tryz.ntmps76
    go_wp2_with (go_at_call 96; refine (HF.out _).mono ?_; rintro e w' ⟨rfl, rfl⟩)
    go_ret
    exact ⟨rfl, rfl⟩
  have HI := Lib.hid HI
  go_enter Tryz.func41, Tryz.ntmps41
  go_wp2_with (go_at_call 76; refine (HI.out _).mono ?_; rintro e w' ⟨rfl, rfl⟩)
  go_ret
  exact ⟨rfl, rfl⟩

def knownB (f : Int) : Bool := (f == 0 || f == 1) || f == 3
theorem known_yes (f : Nat) (h : f = 0 ∨ f = 1 ∨ f = 3) (w : World) : Calls Tryz.prog 48 #[.int .i64 f] w fun e w' => e = .returned (.bool true) ∧ w = w' := by
  rcases h with rfl | rfl | rfl
  all_goals
    go_enter Tryz.func48, Tryz.ntmps48
    go_wp2
    go_ret
    exact ⟨rfl, rfl⟩
theorem known_no (f : Int) (h : ¬ (f = 0 ∨ f = 1 ∨ f = 3)) (w : World) : Calls Tryz.prog 48 #[.int .i64 f] w fun e w' => e = .returned (.bool false) ∧ w = w' := by
  have t0 : (f == 0) = false := by rw [beq_eq_false_iff_ne]; omega
  have t1 : (f == 1) = false := by rw [beq_eq_false_iff_ne]; omega
  have t3 : (f == 3) = false := by rw [beq_eq_false_iff_ne]; omega
  clear h
  go_enter Tryz.func48, Tryz.ntmps48
  go_wp2
  go_ret
  exact ⟨rfl, rfl⟩

set_option maxHeartbeats 1000000 in
theorem text_any (f : Nat) (hf : f < 10) (p : ByteArray) (hp : p.size < 16) (w : World) :
    Calls Tryz.prog 50 #[.int .i64 f, .string p] w fun e w' => e = .returned (.string (str (textS f p.data.toList))) ∧ Below w.heap.size w w' := by
  have HI := Lib.hid (fun W => itoa_one f hf W)
  have HH := Lib.hid (fun A cp W hA => hex_any [p.size] (by simp; omega) (by simp) A cp W hA)
  have hfin : (str [hexd f] ++ (str (hexL [p.size])).extract 1 2) ++ p = str (textS f p.data.toList) := by
    have e1 : (str (hexL [p.size])).extract 1 2 = str [hexd p.size] := by
      rw [str_extract]
      unfold hexL
      simp
      congr 1
      rw [Nat.mod_eq_of_lt hp]
    rw [e1, str_add]
    conv => lhs; rw [← str_of p, str_add]
    rfl
  have hs1 : (str [hexd f]).size = 1 := by rw [str_size]; rfl
  have hs2 : (str (hexL [p.size])).size = 2 := by rw [str_size, hexL_len]; rfl
  have hdef : (⟨(hexL [p.size]).toArray⟩ : ByteArray) = str (hexL [p.size]) := rfl
  rw [hdef] at HH
  clear hdef
  generalize str (textS f p.data.toList) = R at *
  generalize str [hexd f] = F at *
  generalize str (hexL [p.size]) = H at *
  rw [← hs2] at hfin
  have hs3' : (H.extract 1 H.size).size ≤ 1 := by rw [ByteArray.size_extract]; omega
  have hs1' : F.size ≤ 1 := by omega
  have hs4 : (F ++ H.extract 1 H.size).size ≤ 2 := by rw [ByteArray.size_append]; omega
  have h3 : (1 : Int) ≤ H.size := by omega
  have b1 : ¬ 9223372036854775807 < F.size + (H.extract 1 H.size).size := by omega
  have b2 : ¬ 9223372036854775807 < (F ++ H.extract 1 H.size).size + p.size := by omega
  clear hs2 hs1
  have HFIN := Lib.hid hfin; clear hfin
  go_enter Tryz.func50, Tryz.ntmps50
  go_wp2_with fail
  refine (HI.out _).mono ?_
  rintro e w1 ⟨rfl, rfl⟩
  go_wp2_with fail
  refine (HH.out _ _ _ (fun _ => ⟨_, _, rfl, Bs.of_blk (l := [p.size]) (Blk.new w _ _) (fun j c hj => by rw [Nat.zero_add]; exact hj)⟩)).mono ?_
  rintro e w2 ⟨rfl, hb2⟩
  have hb := ((Below.refl w.heap.size w).alloc (Nat.le_refl _) (.cells #[.int .u8 (p.size : Int)] 5)).trans (hb2.mono (by simp))
  go_wp2
  go_ret
  exact ⟨by rw [← HFIN.out]; rfl, hb⟩

theorem field_any (a : ByteArray) (h13 : 13 ≤ a.size) (hs : a.size ≤ 1000) (w : World) :
    Calls Tryz.prog 80 #[.string a] w fun e w' => e = .returned (.string (str (fieldS a.data.toList))) ∧ w = w' := by
  have hfin : (⟨#[48, 48, 48, 48]⟩ : ByteArray) ++ a.extract (a.size - 13) (a.size - 1) = str (fieldS a.data.toList) := by
    have hl : a.data.toList.length = a.size := by simp
    conv => lhs; rw [← str_of a, str_extract]
    have e0 : (⟨#[48, 48, 48, 48]⟩ : ByteArray) = str [48, 48, 48, 48] := rfl
    rw [e0, str_add]
    unfold fieldS
    congr 2
    rw [hl]
    congr 1
    rw [str_of]; omega
  have HFIN := Lib.hid hfin; clear hfin
  have hx : (a.extract (a.size - 13) (a.size - 1)).size ≤ 12 := by rw [ByteArray.size_extract]; omega
  have b1 : ¬ 9223372036854775807 < 4 + (a.extract (a.size - 13) (a.size - 1)).size := by omega
  have e1 : ((a.size : Int) - 13).toNat = a.size - 13 := by omega
  have e2 : ((a.size : Int) - 1).toNat = a.size - 1 := by omega
  go_enter Tryz.func80, Tryz.ntmps80
  go_wp2
  clear e1 e2
  go_ret
  exact ⟨by rw [← HFIN.out]; rfl, rfl⟩

set_option maxHeartbeats 1000000 in
theorem filler_zero (fill : List Nat) (w : World) :
    Calls Tryz.prog 51 #[.int .i64 0, .agg (byteCells fill)] w fun e w' => e = .returned (.string (str (fillS 0 fill))) ∧ Below w.heap.size w w' := by
  have HR := Lib.hid (fun W => repeat_at ⟨#[70]⟩ (str (fillS 0 fill)) 16 rfl 16 rfl (by omega) (by decide) W)
  go_enter Tryz.func51, Tryz.ntmps51
  go_wp2_with fail
  refine (HR.out _).mono ?_
  rintro e w2 ⟨rfl, hb2⟩
  have hb := ((Below.refl w.heap.size w).alloc (Nat.le_refl _) (.cells (byteCells fill) 38)).trans (hb2.mono (by simp))
  go_wp2
  go_ret
  exact ⟨rfl, hb⟩

set_option maxHeartbeats 1000000 in
theorem filler_hex (f : Nat) (hf : f = 1 ∨ f = 4) (fill : List Nat) (hl : fill.length = 8) (hlt : ∀ c ∈ fill, c < 256) (w : World) :
    Calls Tryz.prog 51 #[.int .i64 f, .agg (byteCells fill)] w fun e w' => e = .returned (.string (str (fillS f fill))) ∧ Below w.heap.size w w' := by
  have HH := Lib.hid (fun A cp W hA => hex_any fill hlt (by omega) A cp W hA)
  have hdef : (⟨(hexL fill).toArray⟩ : ByteArray) = str (fillS f fill) := by unfold fillS str; rw [if_neg (by omega), if_neg (by omega)]
  rw [hdef, hl] at HH
  clear hdef
  generalize str (fillS f fill) = R at *
  have t0 : ((f : Int) == 0) = false := by rw [beq_eq_false_iff_ne]; omega
  have t3 : ((f : Int) == 3) = false := by rw [beq_eq_false_iff_ne]; omega
  clear hf hlt
  have HL := Lib.hid hl; clear hl
  go_enter Tryz.func51, Tryz.ntmps51
  go_wp2_with fail
  refine (HH.out _ _ _ (fun _ => ⟨_, _, rfl, Bs.of_blk (l := fill) (Blk.new w _ _) (fun j c hj => by rw [Nat.zero_add]; exact hj)⟩)).mono ?_
  rintro e w2 ⟨rfl, hb2⟩
  have hb := ((Below.refl w.heap.size w).alloc (Nat.le_refl _) (.cells (byteCells fill) 38)).trans (hb2.mono (by simp))
  go_wp2
  go_ret
  exact ⟨rfl, hb⟩

/-- what fills up a block of format 3 -/
def alphaL (l : List Nat) : List UInt8 := l.flatMap (fun c => [UInt8.ofNat (65 + c / 16 % 6), UInt8.ofNat (65 + c % 16 % 6)])
theorem alphaL_snoc (l : List Nat) (c : Nat) : alphaL (l ++ [c]) = alphaL l ++ [UInt8.ofNat (65 + c / 16 % 6)] ++ [UInt8.ofNat (65 + c % 16 % 6)] := by simp [alphaL]
theorem alphaL_len (l : List Nat) : (alphaL l).length = 2 * l.length := by
  induction l with
  | nil => rfl
  | cons a l ih => unfold alphaL at *; simp only [List.flatMap_cons, List.length_append, List.length_cons, List.length_nil, ih]; omega
theorem fillS_three (fill : List Nat) : fillS 3 fill = alphaL fill := by unfold fillS alphaL; rw [if_neg (by omega), if_pos rfl]
theorem alpha_u8 (n : Nat) (h : n < 6) : (UInt8.ofNat (65 + n)).toNat = 65 + n := by
  have : ∀ n < 6, (UInt8.ofNat (65 + n)).toNat = 65 + n := by decide +kernel
  exact this n h

set_option maxHeartbeats 2000000 in
theorem filler_three (fill : List Nat) (hl : fill.length = 8) (hlt : ∀ c ∈ fill, c < 256) (w : World) :
    Calls Tryz.prog 51 #[.int .i64 3, .agg (byteCells fill)] w fun e w' => e = .returned (.string (str (fillS 3 fill))) ∧ Below w.heap.size w w' := by
  rw [fillS_three]
  have HN := Lib.hid hl; clear hl
  have HLT := Lib.hid hlt; clear hlt
  go_enter Tryz.func51, Tryz.ntmps51
  go_wp2_with (refine wpList_load_bs rfl 38 (.tmp 3) rfl w.heap.size 0 rfl fill (Bs.alloc (Bs.of_blk (l := fill) (Blk.new w _ _) (fun j c hj => by rw [Nat.zero_add]; exact hj)) _) _ Tryz.underlying38 rfl (by rw [info_8u8, HN.out]) ?_)
  go_loopw [15] (fun i wr => ∃ k : Nat, k ≤ 8 ∧ i = .int .i64 k ∧ Below w.heap.size w wr ∧ w.heap.size + 1 ≤ wr.heap.size ∧ ∃ R, Bld wr (w.heap.size + 1) R (alphaL (fill.take k)) ∧ Hid (∀ g, R = some g → w.heap.size ≤ g)) (fun i _ => 8 - (intOf i).toNat)
  case atStart =>
    exact ⟨0, by omega, rfl, ((Below.refl _ _).alloc (Nat.le_refl _) _).alloc (by simp) _, by simp, none, ⟨.pointer none, .slice none 0 0, .inl rfl, Blk.new2 w _ _ _, ⟨by rfl, .inl ⟨rfl, rfl⟩⟩, rfl, by simp, fun _ => rfl⟩, fun g h => by cases h⟩
  case round =>
    obtain ⟨k, hk, rfl, hbel, hsz, R, hR, hRg⟩ := hrel
    by_cases hlt : k < 8
    · have hkl : k < fill.length := by rw [HN.out]; exact hlt
      have hix := fun W => index_8u8 (byteCells fill) k hlt k rfl _ (get_byteCells fill k hkl) W
      have hc := HLT.out fill[k] (List.getElem_mem _)
      have hstep : alphaL (fill.take (k + 1)) = alphaL (fill.take k) ++ [UInt8.ofNat (65 + fill[k] / 16 % 6)] ++ [UInt8.ofNat (65 + fill[k] % 16 % 6)] := by rw [List.take_succ_eq_append_getElem hkl, alphaL_snoc]
      have hhl : (alphaL (fill.take k)).length ≤ 16 := by rw [alphaL_len, List.length_take]; omega
      generalize fill[k] = c at *
      have HST := Lib.hid hstep; clear hstep
      obtain ⟨hs, hhs⟩ : ∃ hs, alphaL (fill.take k) = hs := ⟨_, rfl⟩
      rw [hhs] at hhl hR HST
      clear hhs
      have hR := Lib.hid hR
      have hbel := Lib.hid hbel
      have u1 := alpha_u8 (c / 16 % 6) (Nat.mod_lt _ (by omega))
      have u2 := alpha_u8 (c % 16 % 6) (Nat.mod_lt _ (by omega))
      generalize UInt8.ofNat (65 + c / 16 % 6) = d1 at *
      generalize UInt8.ofNat (65 + c % 16 % 6) = d2 at *
      have U1 := Lib.hid u1; clear u1
      have U2 := Lib.hid u2; clear u2
      go_wp2_with fail
      refine (writeByte_any _ _ _ d1 _ (by rw [U1.out]; omega) _ hR.out (by omega)).mono ?_
      rintro e w1 ⟨rfl, R1, hR1, hRR1, hC1⟩
      go_wp2_with fail
      refine (writeByte_any _ _ _ d2 _ (by rw [U2.out]; omega) _ hR1 (by simp; omega)).mono ?_
      rintro e w2 ⟨rfl, R2, hR2, hRR2, hC2⟩
      have hb1 := hC1.below hbel.out (Nat.le_refl _) (by omega) hRg.out
      have hRg1 : ∀ g, R1 = some g → w.heap.size ≤ g := fun g hg => by
        rcases hRR1 with h | ⟨g', h, h'⟩
        · exact hRg.out g (by rw [← h]; exact hg)
        · rw [h] at hg; injection hg with hg; omega
      have hRg2 : ∀ g, R2 = some g → w.heap.size ≤ g := fun g hg => by
        rcases hRR2 with h | ⟨g', h, h'⟩
        · exact hRg1 g (by rw [← h]; exact hg)
        · rw [h] at hg; injection hg with hg; have := hC1.size; omega
      have hb2 := hC2.below hb1 (Nat.le_refl _) (by omega) hRg1
      have hs2 : w.heap.size + 1 ≤ w2.heap.size := by have := hC1.size; have := hC2.size; omega
      go_wp2
      go_roundw
      case rel => exact ⟨k + 1, by omega, by go_num, hb2, hs2, R2, by rw [HST.out]; exact hR2, hRg2⟩
      case measure => simp [intOf]; omega
    · have hfin : fill.take k = fill := List.take_of_length_le (by rw [HN.out]; omega)
      rw [hfin] at hR
      clear hfin
      go_wp2_with fail
      refine (bldString_any _ _ _ _ hR).mono ?_
      rintro e w1 ⟨rfl, hC, _⟩
      have hb1 := hC.below hbel (Nat.le_refl _) (by omega) hRg.out
      go_wp2
      go_ret
      exact ⟨rfl, hb1⟩
end Go.Proofs.YtnkgglmfoimbhaaGreatDoor
