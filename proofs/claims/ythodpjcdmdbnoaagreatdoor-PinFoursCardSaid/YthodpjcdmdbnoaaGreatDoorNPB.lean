/- The contracts of strconv.Itoa of one digit, pin.known, pin.text, pin.field, pin.filler, mode.Xor, pin.turned. The contracts of lockboxref08: Value, First. The contracts of lockboxref14.Wrong, lockboxref08.Digit. The contracts of mode.Xor, pin.turned, pin.Make. The contracts of pin.read, pin.Open. -/
import Derived.Test.YthodpjcdmdbnoaaGreatDoorNPA
import Derived.Test.YthodpjcdmdbnoaaGreatDoorNEC
import Derived.Test.YthodpjcdmdbnoaaGreatDoorNDesGH
import Derived.Test.YthodpjcdmdbnoaaGreatDoorNDig
import Derived.Test.YthodpjcdmdbnoaaGreatDoorNPureAll
import Derived.Test.YthodpjcdmdbnoaaGreatDoorNAs
import Derived.Laws.IdiomStrings
import Derived.Maps.StringElems
import Derived.Maps.OwnOps
/- The contracts of strconv.Itoa of one digit, pin.known, pin.text, pin.field, pin.filler, mode.Xor, pin.turned. -/
namespace Go.Proofs.YthodpjcdmdbnoaaGreatDoor
open Go Go.RowKit Pr

theorem repeat_at (s Z : ByteArray) (c : Nat) (hZ : (⟨(Lib.repeatL s.data.toList c).toArray⟩ : ByteArray) = Z) (i : Int) (hi : i = c) (hc : c ≤ 1000) (hs : s.size ≤ 1000) (w : World) :
    Calls Tryz.prog 28 #[.string s, .int .i64 i] w fun e w' => e = .returned (.string Z) ∧ Below w.heap.size w w' := by
 subst hi
 subst hZ
 exact Tryz.strings_Repeat s c w (by omega) (by have := Nat.mul_le_mul hs hc; omega)

def str (L : List UInt8) : ByteArray := ⟨L.toArray⟩
theorem str_list (L : List UInt8) : (str L).data.toList = L := rfl
theorem str_size (L : List UInt8) : (str L).size = L.length := by simp [str, ByteArray.size]
theorem str_add (L M : List UInt8) : str L ++ str M = str (L ++ M) := by
 unfold str
 rw [cat_bytes]
theorem str_of (s : ByteArray) : str s.data.toList = s := rfl
theorem str_extract (L : List UInt8) (i j : Nat) : (str L).extract i j = str ((L.drop i).take (j - i)) := by
 apply ByteArray.ext
 apply Array.toList_inj.1
 rw [Lib.extract_data]
 unfold str
 simp [List.take_drop]
 try omega

def digs36 : ByteArray := ⟨#[48, 49, 50, 51, 52, 53, 54, 55, 56, 57, 97, 98, 99, 100, 101, 102, 103, 104, 105, 106, 107, 108, 109, 110, 111, 112, 113, 114, 115, 116, 117, 118, 119, 120, 121, 122]⟩
theorem digs36_at (n : Nat) (h : n < 10) : digs36.extract n (n + 1) = str [hexd n] := by
 have : ∀ n < 10, digs36.extract n (n + 1) = str [hexd n] := by decide +kernel
 exact this n h
theorem small_one (n : Nat) (h : n < 10) (w : World) : Calls Tryz.prog 122 #[.int .i64 n] w fun e w' => e = .returned (.string (str [hexd n])) ∧ w = w' := by
 have he := digs36_at n h
 unfold digs36 at he
 have HE := Lib.hid he; clear he
 go_enter Tryz.func122, Tryz.ntmps122
 go_wp2
 go_ret
 exact ⟨by rw [← HE.out]; first | rfl | (congr 3; omega), rfl⟩
theorem itoa_one (n : Nat) (h : n < 10) (w : World) : Calls Tryz.prog 47 #[.int .i64 n] w fun e w' => e = .returned (.string (str [hexd n])) ∧ w = w' := by
 have H := Lib.hid (fun W => small_one n h W)
 have HF : ∀ W, Calls Tryz.prog 92 #[.int .i64 n, .int .i64 10] W fun e w' => e = .returned (.string (str [hexd n])) ∧ W = w' := by
  intro W
  have t1 : decide ((n : Int) < 100) = true := by simp; omega
  go_enter Tryz.func92, Tryz.ntmps92
  go_wp2_with (go_at_call 122; refine (H.out _).mono ?_; rintro e w' ⟨rfl, rfl⟩)
  go_ret
  exact ⟨rfl, rfl⟩
 have HF := Lib.hid HF
 have HI : ∀ W, Calls Tryz.prog 73 #[.int .i64 n] W fun e w' => e = .returned (.string (str [hexd n])) ∧ W = w' := by
  intro W
  go_enter Tryz.func73, Tryz.ntmps73
  go_wp2_with (go_at_call 92; refine (HF.out _).mono ?_; rintro e w' ⟨rfl, rfl⟩)
  go_ret
  exact ⟨rfl, rfl⟩
 have HI := Lib.hid HI
 go_enter Tryz.func47, Tryz.ntmps47
 go_wp2_with (go_at_call 73; refine (HI.out _).mono ?_; rintro e w' ⟨rfl, rfl⟩)
 go_ret
 exact ⟨rfl, rfl⟩

theorem known_yes (f : Nat) (h : f = 0 ∨ f = 1 ∨ f = 3) (w : World) : Calls Tryz.prog 43 #[.int .i64 f] w fun e w' => e = .returned (.bool true) ∧ w = w' := by
 rcases h with rfl | rfl | rfl
 all_goals
  go_enter Tryz.func43, Tryz.ntmps43
  go_wp2
  go_ret
  exact ⟨rfl, rfl⟩
theorem known_no (f : Int) (h : ¬ (f = 0 ∨ f = 1 ∨ f = 3)) (w : World) : Calls Tryz.prog 43 #[.int .i64 f] w fun e w' => e = .returned (.bool false) ∧ w = w' := by
 have t0 : (f == 0) = false := by rw [beq_eq_false_iff_ne]; omega
 have t1 : (f == 1) = false := by rw [beq_eq_false_iff_ne]; omega
 have t3 : (f == 3) = false := by rw [beq_eq_false_iff_ne]; omega
 clear h
 go_enter Tryz.func43, Tryz.ntmps43
 go_wp2
 go_ret
 exact ⟨rfl, rfl⟩

set_option maxHeartbeats 1000000 in
theorem text_any (f : Nat) (hf : f < 10) (p : ByteArray) (hp : p.size < 16) (w : World) :
    Calls Tryz.prog 26 #[.int .i64 f, .string p] w fun e w' => e = .returned (.string (str (textS f p.data.toList))) ∧ Below w.heap.size w w' := by
 have HI := Lib.hid (fun W => itoa_one f hf W)
 have HH := Lib.hid (fun A cp W hA => hex_any [p.size] (by simp; omega) (by simp) A cp W hA)
 have hfin : (str [hexd f] ++ (str (hexL [p.size])).extract 1 2) ++ p = str (textS f p.data.toList) := by
  have e1 : (str (hexL [p.size])).extract 1 2 = str [hexd p.size] := by
   rw [str_extract]
   unfold hexL
   simp
   congr 1
   rw [Nat.mod_eq_of_lt hp]
  rw [e1, str_add]
  conv => lhs; rw [← str_of p, str_add]
  rfl
 have hs1 : (str [hexd f]).size = 1 := by rw [str_size]; rfl
 have hs2 : (str (hexL [p.size])).size = 2 := by rw [str_size, hexL_len]; rfl
 have hdef : (⟨(hexL [p.size]).toArray⟩ : ByteArray) = str (hexL [p.size]) := rfl
 rw [hdef] at HH
 clear hdef
 generalize str (textS f p.data.toList) = R at *
 generalize str [hexd f] = F at *
 generalize str (hexL [p.size]) = H at *
 rw [← hs2] at hfin
 have hs3' : (H.extract 1 H.size).size ≤ 1 := by rw [ByteArray.size_extract]; omega
 have hs1' : F.size ≤ 1 := by omega
 have hs4 : (F ++ H.extract 1 H.size).size ≤ 2 := by rw [ByteArray.size_append]; omega
 have h3 : (1 : Int) ≤ H.size := by omega
 have b1 : ¬ 9223372036854775807 < F.size + (H.extract 1 H.size).size := by omega
 have b2 : ¬ 9223372036854775807 < (F ++ H.extract 1 H.size).size + p.size := by omega
 clear hs2 hs1
 have HFIN := Lib.hid hfin; clear hfin
 go_enter Tryz.func26, Tryz.ntmps26
 go_wp2_with fail
 refine (HI.out _).mono ?_
 rintro e w1 ⟨rfl, rfl⟩
 go_wp2_with fail
 refine (HH.out _ _ _ (fun _ => ⟨_, _, rfl, Bs.of_blk (l := [p.size]) (Blk.new w _ _) (fun j c hj => by rw [Nat.zero_add]; exact hj)⟩)).mono ?_
 rintro e w2 ⟨rfl, hb2⟩
 have hb := ((Below.refl w.heap.size w).alloc (Nat.le_refl _) (.cells #[.int .u8 (p.size : Int)] 5)).trans (hb2.mono (by simp))
 go_wp2
 go_ret
 exact ⟨by rw [← HFIN.out]; rfl, hb⟩

theorem field_any (a : ByteArray) (h13 : 13 ≤ a.size) (hs : a.size ≤ 1000) (w : World) :
    Calls Tryz.prog 71 #[.string a] w fun e w' => e = .returned (.string (str (fieldS a.data.toList))) ∧ w = w' := by
 have hfin : (⟨#[48, 48, 48, 48]⟩ : ByteArray) ++ a.extract (a.size - 13) (a.size - 1) = str (fieldS a.data.toList) := by
  have hl : a.data.toList.length = a.size := by simp
  conv => lhs; rw [← str_of a, str_extract]
  have e0 : (⟨#[48, 48, 48, 48]⟩ : ByteArray) = str [48, 48, 48, 48] := rfl
  rw [e0, str_add]
  unfold fieldS
  congr 2
  rw [hl]
  congr 1
  rw [str_of]; omega
 have HFIN := Lib.hid hfin; clear hfin
 have hx : (a.extract (a.size - 13) (a.size - 1)).size ≤ 12 := by rw [ByteArray.size_extract]; omega
 have b1 : ¬ 9223372036854775807 < 4 + (a.extract (a.size - 13) (a.size - 1)).size := by omega
 have e1 : ((a.size : Int) - 13).toNat = a.size - 13 := by omega
 have e2 : ((a.size : Int) - 1).toNat = a.size - 1 := by omega
 go_enter Tryz.func71, Tryz.ntmps71
 go_wp2
 clear e1 e2
 go_ret
 exact ⟨by rw [← HFIN.out]; rfl, rfl⟩

set_option maxHeartbeats 1000000 in
theorem filler_zero (fill : List Nat) (w : World) :
    Calls Tryz.prog 44 #[.int .i64 0, .agg (byteCells fill)] w fun e w' => e = .returned (.string (str (fillS 0 fill))) ∧ Below w.heap.size w w' := by
 have HR := Lib.hid (fun W => repeat_at ⟨#[70]⟩ (str (fillS 0 fill)) 16 rfl 16 rfl (by omega) (by decide) W)
 go_enter Tryz.func44, Tryz.ntmps44
 go_wp2_with fail
 refine (HR.out _).mono ?_
 rintro e w2 ⟨rfl, hb2⟩
 have hb := ((Below.refl w.heap.size w).alloc (Nat.le_refl _) (.cells (byteCells fill) 23)).trans (hb2.mono (by simp))
 go_wp2
 go_ret
 exact ⟨rfl, hb⟩

set_option maxHeartbeats 1000000 in
theorem filler_hex (f : Nat) (hf : f = 1 ∨ f = 4) (fill : List Nat) (hl : fill.length = 8) (hlt : ∀ c ∈ fill, c < 256) (w : World) :
    Calls Tryz.prog 44 #[.int .i64 f, .agg (byteCells fill)] w fun e w' => e = .returned (.string (str (fillS f fill))) ∧ Below w.heap.size w w' := by
 have HH := Lib.hid (fun A cp W hA => hex_any fill hlt (by omega) A cp W hA)
 have hdef : (⟨(hexL fill).toArray⟩ : ByteArray) = str (fillS f fill) := by unfold fillS str; rw [if_neg (by omega), if_neg (by omega)]
 rw [hdef, hl] at HH
 clear hdef
 generalize str (fillS f fill) = R at *
 have t0 : ((f : Int) == 0) = false := by rw [beq_eq_false_iff_ne]; omega
 have t3 : ((f : Int) == 3) = false := by rw [beq_eq_false_iff_ne]; omega
 clear hf hlt
 have HL := Lib.hid hl; clear hl
 go_enter Tryz.func44, Tryz.ntmps44
 go_wp2_with fail
 refine (HH.out _ _ _ (fun _ => ⟨_, _, rfl, Bs.of_blk (l := fill) (Blk.new w _ _) (fun j c hj => by rw [Nat.zero_add]; exact hj)⟩)).mono ?_
 rintro e w2 ⟨rfl, hb2⟩
 have hb := ((Below.refl w.heap.size w).alloc (Nat.le_refl _) (.cells (byteCells fill) 23)).trans (hb2.mono (by simp))
 go_wp2
 go_ret
 exact ⟨rfl, hb⟩

/-- what fills up a block of format 3 -/
def alphaL (l : List Nat) : List UInt8 := l.flatMap (fun c => [UInt8.ofNat (65 + c / 16 % 6), UInt8.ofNat (65 + c % 16 % 6)])
theorem alphaL_snoc (l : List Nat) (c : Nat) : alphaL (l ++ [c]) = alphaL l ++ [UInt8.ofNat (65 + c / 16 % 6)] ++ [UInt8.ofNat (65 + c % 16 % 6)] := by simp [alphaL]
theorem alphaL_len (l : List Nat) : (alphaL l).length = 2 * l.length := by
 induction l with
 | nil => rfl
 | cons a l ih => unfold alphaL at *; simp only [List.flatMap_cons, List.length_append, List.length_cons, List.length_nil, ih]; omega
theorem fillS_three (fill : List Nat) : fillS 3 fill = alphaL fill := by unfold fillS alphaL; rw [if_neg (by omega), if_pos rfl]
theorem alpha_u8 (n : Nat) (h : n < 6) : (UInt8.ofNat (65 + n)).toNat = 65 + n := by
 have : ∀ n < 6, (UInt8.ofNat (65 + n)).toNat = 65 + n := by decide +kernel
 exact this n h

set_option maxHeartbeats 2000000 in
theorem filler_three (fill : List Nat) (hl : fill.length = 8) (hlt : ∀ c ∈ fill, c < 256) (w : World) :
    Calls Tryz.prog 44 #[.int .i64 3, .agg (byteCells fill)] w fun e w' => e = .returned (.string (str (fillS 3 fill))) ∧ Below w.heap.size w w' := by
 rw [fillS_three]
 have HN := Lib.hid hl; clear hl
 have HLT := Lib.hid hlt; clear hlt
 go_enter Tryz.func44, Tryz.ntmps44
 go_wp2_with (refine wpList_load_bs rfl 23 (.tmp 3) rfl w.heap.size 0 rfl fill (Bs.alloc (Bs.of_blk (l := fill) (Blk.new w _ _) (fun j c hj => by rw [Nat.zero_add]; exact hj)) _) _ Tryz.underlying23 rfl (by rw [info_8u8, HN.out]) ?_)
 go_loopw [15] (fun i wr => ∃ k : Nat, k ≤ 8 ∧ i = .int .i64 k ∧ Below w.heap.size w wr ∧ w.heap.size + 1 ≤ wr.heap.size ∧ ∃ R, Bld wr (w.heap.size + 1) R (alphaL (fill.take k)) ∧ Hid (∀ g, R = some g → w.heap.size ≤ g)) (fun i _ => 8 - (intOf i).toNat)
 case atStart =>
  exact ⟨0, by omega, rfl, ((Below.refl _ _).alloc (Nat.le_refl _) _).alloc (by simp) _, by simp, none, ⟨.pointer none, .slice none 0 0, .inl rfl, Blk.new2 w _ _ _, ⟨by rfl, .inl ⟨rfl, rfl⟩⟩, rfl, by simp, fun _ => rfl⟩, fun g h => by cases h⟩
 case round =>
  obtain ⟨k, hk, rfl, hbel, hsz, R, hR, hRg⟩ := hrel
  by_cases hlt : k < 8
  ·
   have hkl : k < fill.length := by rw [HN.out]; exact hlt
   have hix := fun W => index_8u8 (byteCells fill) k hlt k rfl _ (get_byteCells fill k hkl) W
   have hc := HLT.out fill[k] (List.getElem_mem _)
   have hstep : alphaL (fill.take (k + 1)) = alphaL (fill.take k) ++ [UInt8.ofNat (65 + fill[k] / 16 % 6)] ++ [UInt8.ofNat (65 + fill[k] % 16 % 6)] := by rw [List.take_succ_eq_append_getElem hkl, alphaL_snoc]
   have hhl : (alphaL (fill.take k)).length ≤ 16 := by rw [alphaL_len, List.length_take]; omega
   generalize fill[k] = c at *
   have HST := Lib.hid hstep; clear hstep
   obtain ⟨hs, hhs⟩ : ∃ hs, alphaL (fill.take k) = hs := ⟨_, rfl⟩
   rw [hhs] at hhl hR HST
   clear hhs
   have hR := Lib.hid hR
   have hbel := Lib.hid hbel
   have u1 := alpha_u8 (c / 16 % 6) (Nat.mod_lt _ (by omega))
   have u2 := alpha_u8 (c % 16 % 6) (Nat.mod_lt _ (by omega))
   generalize UInt8.ofNat (65 + c / 16 % 6) = d1 at *
   generalize UInt8.ofNat (65 + c % 16 % 6) = d2 at *
   have U1 := Lib.hid u1; clear u1
   have U2 := Lib.hid u2; clear u2
   go_wp2_with fail
   refine (writeByte_any _ _ _ d1 _ (by rw [U1.out]; omega) _ hR.out (by omega)).mono ?_
   rintro e w1 ⟨rfl, R1, hR1, hRR1, hC1⟩
   go_wp2_with fail
   refine (writeByte_any _ _ _ d2 _ (by rw [U2.out]; omega) _ hR1 (by simp; omega)).mono ?_
   rintro e w2 ⟨rfl, R2, hR2, hRR2, hC2⟩
   have hb1 := hC1.below hbel.out (Nat.le_refl _) (by omega) hRg.out
   have hRg1 : ∀ g, R1 = some g → w.heap.size ≤ g := fun g hg => by
    rcases hRR1 with h | ⟨g', h, h'⟩
    ·
     exact hRg.out g (by rw [← h]; exact hg)
    ·
     rw [h] at hg; injection hg with hg; omega
   have hRg2 : ∀ g, R2 = some g → w.heap.size ≤ g := fun g hg => by
    rcases hRR2 with h | ⟨g', h, h'⟩
    ·
     exact hRg1 g (by rw [← h]; exact hg)
    ·
     rw [h] at hg; injection hg with hg; have := hC1.size; omega
   have hb2 := hC2.below hb1 (Nat.le_refl _) (by omega) hRg1
   have hs2 : w.heap.size + 1 ≤ w2.heap.size := by have := hC1.size; have := hC2.size; omega
   go_wp2
   go_roundw
   case rel => exact ⟨k + 1, by omega, by go_num, hb2, hs2, R2, by rw [HST.out]; exact hR2, hRg2⟩
   case measure => simp [intOf]; omega
  ·
   have hfin : fill.take k = fill := List.take_of_length_le (by rw [HN.out]; omega)
   rw [hfin] at hR
   clear hfin
   go_wp2_with fail
   refine (bldString_any _ _ _ _ hR).mono ?_
   rintro e w1 ⟨rfl, hC, _⟩
   have hb1 := hC.below hbel (Nat.le_refl _) (by omega) hRg.out
   go_wp2
   go_ret
   exact ⟨rfl, hb1⟩
end Go.Proofs.YthodpjcdmdbnoaaGreatDoor

/- The contracts of lockboxref08: Value, First. The contracts of lockboxref14.Wrong, lockboxref08.Digit. -/
/- The contracts of lockboxref08: Value, First. -/
namespace Go.Proofs.YthodpjcdmdbnoaaGreatDoor
open Go Go.RowKit Pr

def valR (c : UInt8) : Nat := if 48 ≤ c.toNat ∧ c.toNat ≤ 57 then c.toNat - 48 else if 65 ≤ c.toNat ∧ c.toNat ≤ 70 then c.toNat - 55 else 99

set_option maxHeartbeats 1000000 in
theorem value_any (c : UInt8) (x : Int) (hx : x = c.toNat) (w : World) : Calls Tryz.prog 65 #[.int .u8 x] w fun e w' => e = .returned (.int .i64 (valR c : Nat)) ∧ w = w' := by
 have hc := c.toNat_lt
 have hv : (valR c : Int) = if 48 ≤ x ∧ x ≤ 57 then x - 48 else if 65 ≤ x ∧ x ≤ 70 then x - 55 else 99 := by
  subst hx
  unfold valR
  by_cases h1 : 48 ≤ c.toNat ∧ c.toNat ≤ 57
  ·
   rw [if_pos h1, if_pos (by omega)]; omega
  ·
   rw [if_neg h1, if_neg (show ¬ (48 ≤ (c.toNat : Int) ∧ (c.toNat : Int) ≤ 57) by omega)]
   by_cases h2 : 65 ≤ c.toNat ∧ c.toNat ≤ 70
   ·
    rw [if_pos h2, if_pos (show 65 ≤ (c.toNat : Int) ∧ (c.toNat : Int) ≤ 70 by omega)]; omega
   ·
    rw [if_neg h2, if_neg (show ¬ (65 ≤ (c.toNat : Int) ∧ (c.toNat : Int) ≤ 70) by omega)]; rfl
 have hx0 : 0 ≤ x := by omega
 have hx1 : x < 256 := by omega
 rw [hv]
 clear hv hx hc
 by_cases h1 : 48 ≤ x
 ·
  by_cases h2 : x ≤ 57
  ·
   rw [if_pos ⟨h1, h2⟩]
   go_enter Tryz.func65, Tryz.ntmps65
   go_wp2
   go_ret
   exact ⟨rfl, rfl⟩
  ·
   rw [if_neg (by omega)]
   by_cases h3 : 65 ≤ x
   ·
    by_cases h4 : x ≤ 70
    ·
     rw [if_pos ⟨h3, h4⟩]
     go_enter Tryz.func65, Tryz.ntmps65
     go_wp2
     go_ret
     exact ⟨rfl, rfl⟩
    ·
     rw [if_neg (by omega)]
     go_enter Tryz.func65, Tryz.ntmps65
     go_wp2
     go_ret
     exact ⟨rfl, rfl⟩
   ·
    rw [if_neg (by omega)]
    go_enter Tryz.func65, Tryz.ntmps65
    go_wp2
    go_ret
    exact ⟨rfl, rfl⟩
 ·
  rw [if_neg (by omega), if_neg (by omega)]
  have h3 : ¬ 65 ≤ x := by omega
  go_enter Tryz.func65, Tryz.ntmps65
  go_wp2
  go_ret
  exact ⟨rfl, rfl⟩

set_option maxHeartbeats 1000000 in
theorem refFirst_any (s : ByteArray) (hs : s.size ≤ 140737488351232) (b : Nat) (_hb : b ≤ 100) (w : World) :
    Calls Tryz.prog 41 #[.string s, .int .i64 b] w fun e w' => e = .returned (.int .i64 (badZ (fun c => decide (valR c < b)) s.data.toList)) ∧ w = w' := by
 go_enter Tryz.func41, Tryz.ntmps41
 go_wp2
 go_loop [5] (fun i => ∃ k : Nat, k ≤ s.size ∧ i = .int .i64 k ∧ Hid (∀ j (h : j < k) (h' : j < s.size), valR s[j] < b)) (fun i => s.size - (intOf i).toNat)
 case atStart => exact ⟨0, by omega, rfl, fun j h => by omega⟩
 case round =>
  obtain ⟨k, hk, rfl, hall⟩ := hrel
  by_cases hlt : k < s.size
  ·
   have i1 := index_str (P := Tryz.prog) 9 Tryz.underlying9 s k hlt k rfl _ rfl
   have hv := fun W => value_any s[k] _ rfl W
   obtain ⟨c, hc⟩ : ∃ c, s[k] = c := ⟨_, rfl⟩
   rw [hc] at i1
   simp only [hc] at hv
   have HC := Lib.hid hc; clear hc
   have HV := Lib.hid hv; clear hv
   by_cases hlt2 : valR c < b
   ·
    have hall' : Hid (∀ j (h : j < k + 1) (h' : j < s.size), valR s[j] < b) := fun j h h' => by
     by_cases e : j = k
     ·
      subst e; rw [HC.out]; exact hlt2
     ·
      exact hall.out j (by omega) h'
    have h1 : ¬ (b : Int) ≤ (valR c : Int) := by omega
    generalize valR c = v at *
    go_wp2_with (go_at_call 65; refine (HV.out _).mono ?_; rintro e w' ⟨rfl, rfl⟩)
    go_round
    case rel => exact ⟨k + 1, by omega, by go_num, hall'⟩
    case measure => simp [intOf]; omega
   ·
    have hfin : badZ (fun c => decide (valR c < b)) s.data.toList = k := by
     rw [badZ, badAt_some (k := k) (by simpa using hlt) (fun j hj => decide_eq_true (hall.out j hj (by omega))) (by
      show decide (valR s[k] < b) = false
      rw [HC.out]; exact decide_eq_false hlt2)]
    have HF := Lib.hid hfin; clear hfin
    have h1 : (b : Int) ≤ (valR c : Int) := by omega
    generalize valR c = v at *
    go_wp2_with (go_at_call 65; refine (HV.out _).mono ?_; rintro e w' ⟨rfl, rfl⟩)
    go_ret
    exact ⟨retI (by rw [HF.out]), rfl⟩
  ·
   have hfin : badZ (fun c => decide (valR c < b)) s.data.toList = -1 := by
    rw [badZ, badAt_none fun c hc => by
     obtain ⟨j, hj, rfl⟩ := List.getElem_of_mem hc
     have hj' : j < s.size := by simpa using hj
     exact decide_eq_true (hall.out j (by omega) hj')]
   have HF := Lib.hid hfin; clear hfin
   go_wp2
   go_ret
   exact ⟨retI (by rw [HF.out]), rfl⟩

theorem valR_dec (c : UInt8) : decide (valR c < 10) = isDec c := all_u8 (p := fun c => decide (valR c < 10) = isDec c) (by decide +kernel) c
end Go.Proofs.YthodpjcdmdbnoaaGreatDoor

/- The contracts of lockboxref14.Wrong, lockboxref08.Digit. -/
namespace Go.Proofs.YthodpjcdmdbnoaaGreatDoor
open Go Go.RowKit Pr

theorem valR_hexv (c : UInt8) (h : isHex c = true) : valR c = hexv c := all_u8 (p := fun c => isHex c = true → valR c = hexv c) (by decide +kernel) c h

/-- what is wrong with decimal digits, as the reference says it -/
theorem wrongR_any (s : ByteArray) (hs : s.size ≤ 140737488351232) (lo hi : Nat) (_hlo : lo ≤ 1000) (_hhi : hi ≤ 1000) (w : World) :
    Calls Tryz.prog 16 #[.string s, .int .i64 lo, .int .i64 hi] w fun e w' => e = .returned (.tuple #[.int .i64 (erCode (decEr s.data.toList lo hi)), .int .i64 (erAt (decEr s.data.toList lo hi))]) ∧ w = w' := by
 have lp : s.data.toList.length = s.size := by simp
 have HF := Lib.hid (fun W => refFirst_any s hs 10 (by omega) W)
 have hb : badZ (fun c => decide (valR c < 10)) s.data.toList = badZ isDec s.data.toList := by
  unfold badZ
  rw [badAt_congr valR_dec]
 simp only [hb] at HF
 by_cases h1 : s.size < lo
 ·
  have hE : decEr s.data.toList lo hi = .no 2 := by unfold decEr; rw [if_pos (.inl (by omega))]
  rw [hE]
  clear hE hb lp
  go_enter Tryz.func16, Tryz.ntmps16
  go_wp2
  go_ret2
  exact ⟨rfl, rfl⟩
 ·
  by_cases h2 : hi < s.size
  ·
   have hE : decEr s.data.toList lo hi = .no 2 := by unfold decEr; rw [if_pos (.inr (by omega))]
   rw [hE]
   clear hE hb lp
   go_enter Tryz.func16, Tryz.ntmps16
   go_wp2
   go_ret2
   exact ⟨rfl, rfl⟩
  ·
   rcases hbz : badAt isDec s.data.toList with _ | k
   ·
    have hE : decEr s.data.toList lo hi = .ok := by unfold decEr; rw [if_neg (by omega), hbz]
    have hz : badZ isDec s.data.toList = -1 := by unfold badZ; rw [hbz]
    rw [hz] at HF
    rw [hE]
    clear hE hb lp hz hbz
    go_enter Tryz.func16, Tryz.ntmps16
    go_wp2_with fail
    refine (HF.out _).mono ?_
    rintro e w1 ⟨rfl, rfl⟩
    go_wp2
    go_ret2
    exact ⟨rfl, rfl⟩
   ·
    have hE : decEr s.data.toList lo hi = .fa k 16 := by unfold decEr; rw [if_neg (by omega), hbz]
    have hz : badZ isDec s.data.toList = k := by unfold badZ; rw [hbz]
    rw [hz] at HF
    rw [hE]
    clear hE hb lp hz hbz
    go_enter Tryz.func16, Tryz.ntmps16
    go_wp2_with fail
    refine (HF.out _).mono ?_
    rintro e w1 ⟨rfl, rfl⟩
    go_wp2
    go_ret2
    exact ⟨rfl, rfl⟩

theorem xorTo_take (x y : List Nat) (n : Nat) (hx : x.length = n) (hy : y.length = n) (k : Nat) (hk : k < n) : (xorTo x y n).take (k + 1) = (xorTo x y n).take k ++ [x.getD k 0 ^^^ y.getD k 0] := by
 rw [List.take_succ_eq_append_getElem (by rw [xorTo_len, hx]; exact hk)]
 congr 1
 have hg : ∀ m j, j < m → (xorTo x y m)[j]? = if j < x.length then some (x.getD j 0 ^^^ y.getD j 0) else none := by
  intro m
  induction m with
  | zero => intro j h; omega
  | succ m ih =>
   intro j h
   rw [xorTo, List.getElem?_set]
   by_cases e : m = j
   ·
    subst e
    rw [if_pos rfl, xorTo_len]
   ·
    rw [if_neg e]; exact ih j (by omega)
 have := hg n k hk
 rw [if_pos (by omega), List.getElem?_eq_getElem (by rw [xorTo_len]; omega)] at this
 rw [Option.some.inj this]
/-- the operation alone: a new row of one byte turned into a string -/
theorem op_one_string {P : Program} {K : Act → World → Prop} {Q : Exit → Act → World → Prop} {o : Oper} {a : Act} {w : World} (src dst e : TypeId) (x : Operand) (hop : o.op = .convert src dst x) (g cap : Nat) (c : Nat) (hc : c < 256) (hx : a.eval x = .slice (some ⟨g, 0, none⟩) 1 cap)
    (hs : P.underlying src = some (.slice e)) (he : P.underlying e = some (.int .u8)) (hd : P.underlying dst = some .string) (hB : w.cell? ⟨g, 0, none⟩ = some (.int .u8 (c : Int))) (h : K (a.put o.dst (.string ⟨#[UInt8.ofNat c]⟩)) w) : o.wp P a w K Q := by
 have hr := run_convert_bytes_back (P := P) w src dst e ⟨g, 0, none⟩ cap [UInt8.ofNat c] hs he hd (fun j hj => by
  obtain rfl : j = 0 := by simpa using hj
  rw [Addr.add_mid]
  simp only [List.getElem_cons_zero, Nat.zero_add]
  rw [UInt8.toNat_ofNat_of_lt' hc]
  exact hB)
 unfold Oper.wp execOp
 simp only [hop, hx, Sem.run_bind]
 rw [show ([UInt8.ofNat c] : List UInt8).length = 1 from rfl] at hr
 rw [hr]
 exact h
theorem wpList_one_string {P : Program} {ops : Array Oper} {rest : List Oper} {Q : Exit → Act → World → Prop} {o : Oper} {a : Act} {w : World} (hgd : o.guard = none) (src dst e : TypeId) (x : Operand) (hop : o.op = .convert src dst x) (g cap : Nat) (c : Nat) (hc : c < 256) (hx : a.eval x = .slice (some ⟨g, 0, none⟩) 1 cap)
    (hs : P.underlying src = some (.slice e)) (he : P.underlying e = some (.int .u8)) (hd : P.underlying dst = some .string) (hB : w.cell? ⟨g, 0, none⟩ = some (.int .u8 (c : Int))) (h : wpList P ops Q rest (a.put o.dst (.string ⟨#[UInt8.ofNat c]⟩)) w) : wpList P ops Q (o :: rest) a w :=
 wpList_plain hgd fun _ hK => op_one_string src dst e x hop g cap c hc hx hs he hd hB (hK _ _ h)

set_option maxHeartbeats 1000000 in
theorem digit8_any (n : Nat) (h : n < 16) (w : World) : Calls Tryz.prog 70 #[.int .i64 n] w fun e w' => e = .returned (.string ⟨#[hexd n]⟩) ∧ Below w.heap.size w w' := by
 by_cases h1 : n < 10
 ·
  have hd : hexd n = UInt8.ofNat (48 + n) := by unfold hexd; rw [if_pos h1]
  rw [hd]
  clear hd
  have e1 : IntKind.i64.wrap (48 + (n : Int)) = 48 + (n : Int) := IntWalk.i64_in _ (by omega)
  have e2 : IntKind.u8.wrap (48 + (n : Int)) = ((48 + n : Nat) : Int) := by simp [IntKind.wrap, IntKind.bits, IntKind.signed]; omega
  obtain ⟨c, hc⟩ : ∃ c, 48 + n = c := ⟨_, rfl⟩
  have hc2 : c < 256 := by omega
  rw [hc] at e2 ⊢
  clear hc
  have hcell : (w.alloc (.cells #[.int .u8 (c : Int)] 5)).cell? ⟨w.heap.size, 0, none⟩ = some (.int .u8 (c : Int)) := (Blk.new w 5 #[.int .u8 (c : Int)]).cell 0
  go_enter Tryz.func70, Tryz.ntmps70
  go_wp2_with (refine wpList_one_string rfl 22 9 5 (.tmp 8) rfl w.heap.size 1 c hc2 rfl Tryz.underlying22 Tryz.underlying5 Tryz.underlying9 hcell ?_)
  go_ret
  exact ⟨rfl, (Below.refl _ _).alloc (Nat.le_refl _) _⟩
 ·
  have hd : hexd n = UInt8.ofNat (55 + n) := by unfold hexd; rw [if_neg h1]
  rw [hd]
  clear hd
  have e1 : IntKind.i64.wrap (55 + (n : Int)) = 55 + (n : Int) := IntWalk.i64_in _ (by omega)
  have e2 : IntKind.u8.wrap (55 + (n : Int)) = ((55 + n : Nat) : Int) := by simp [IntKind.wrap, IntKind.bits, IntKind.signed]; omega
  obtain ⟨c, hc⟩ : ∃ c, 55 + n = c := ⟨_, rfl⟩
  have hc2 : c < 256 := by omega
  rw [hc] at e2 ⊢
  clear hc
  have hcell : (w.alloc (.cells #[.int .u8 (c : Int)] 5)).cell? ⟨w.heap.size, 0, none⟩ = some (.int .u8 (c : Int)) := (Blk.new w 5 #[.int .u8 (c : Int)]).cell 0
  go_enter Tryz.func70, Tryz.ntmps70
  go_wp2_with (refine wpList_one_string rfl 22 9 5 (.tmp 13) rfl w.heap.size 1 c hc2 rfl Tryz.underlying22 Tryz.underlying5 Tryz.underlying9 hcell ?_)
  go_ret
  exact ⟨rfl, (Below.refl _ _).alloc (Nat.le_refl _) _⟩


end Go.Proofs.YthodpjcdmdbnoaaGreatDoor

/- The contracts of mode.Xor, pin.turned, pin.Make. -/
namespace Go.Proofs.YthodpjcdmdbnoaaGreatDoor
open Go Go.RowKit Pr

theorem getD_256 (l : List Nat) (h : ∀ b ∈ l, b < 256) (i : Nat) : l.getD i 0 < 256 := by
 rw [List.getD_eq_getElem?_getD]
 rcases hq : l[i]? with _ | c
 ·
  simp
 ·
  exact h c (List.mem_of_getElem? hq)
theorem Own.ofBlk {w : World} {B g n : Nat} {l : List Nat} (h : Blk w g 5 (byteCells l)) (hg : B ≤ g) (hn : l.length = n) (hm : n ≤ 1000000) : Own w B (.slice (some ⟨g, 0, none⟩) n n) l := by
 subst hn
 exact ⟨by simp [byteCells], .inr ⟨g, l.length, byteCells l, rfl, hg, h, Nat.le_refl _, by unfold maxLen; omega, by simp [byteCells], by rw [List.take_of_length_le (by simp [byteCells])]⟩⟩

set_option maxHeartbeats 2000000 in
set_option maxRecDepth 100000 in
theorem modeXor_any (x y : List Nat) (n : Nat) (hx : x.length = n) (hy : y.length = n) (hn : n ≤ 1000) (gx : ∀ c ∈ x, c < 256) (gy : ∀ c ∈ y, c < 256) (A B : Option Addr) (ca cb : Nat) (w : World) (hA : At w A x) (hB : At w B y) :
    Calls Tryz.prog 32 #[.slice A n ca, .slice B n cb] w fun e w' => (∃ v, e = .returned (.tuple #[v, .nilIface]) ∧ Own w' w.heap.size v (xorTo x y n)) ∧ Below w.heap.size w w' := by
 have hXl : (xorTo x y n).length = n := by rw [xorTo_len, hx]
 have hXg : ∀ k, k < n → (xorTo x y n).getD k 0 = x.getD k 0 ^^^ y.getD k 0 := fun k hk => xorTo_getD x y n k hk (by omega)
 have hcx : ∀ k, k < n → ∃ b o, A = some ⟨b, o, none⟩ ∧ ∀ W, Below w.heap.size w W → W.cell? ⟨b, o + k, none⟩ = some (.int .u8 (x.getD k 0 : Nat)) := fun k hk => by
  obtain ⟨b, o, e, hN⟩ := hA (by intro h; rw [h] at hx; simp at hx; omega)
  refine ⟨b, o, e, fun W hW => ?_⟩
  rw [getD_of _ _ (by omega)]
  exact (hN.below hW (hN.lt (by intro h; rw [h] at hx; simp at hx; omega))).cell k (by omega)
 have hcy : ∀ k, k < n → ∃ b o, B = some ⟨b, o, none⟩ ∧ ∀ W, Below w.heap.size w W → W.cell? ⟨b, o + k, none⟩ = some (.int .u8 (y.getD k 0 : Nat)) := fun k hk => by
  obtain ⟨b, o, e, hN⟩ := hB (by intro h; rw [h] at hy; simp at hy; omega)
  refine ⟨b, o, e, fun W hW => ?_⟩
  rw [getD_of _ _ (by omega)]
  exact (hN.below hW (hN.lt (by intro h; rw [h] at hy; simp at hy; omega))).cell k (by omega)
 have HG1 := Lib.hid (fun i => getD_256 x gx i)
 have HG2 := Lib.hid (fun i => getD_256 y gy i)
 generalize xorTo x y n = X at *
 have HXL := Lib.hid hXl; clear hXl
 have HXG := Lib.hid hXg; clear hXg
 have HCX := Lib.hid hcx; clear hcx
 have HCY := Lib.hid hcy; clear hcy
 clear hA hB hx hy gx gy
 have t1 : ((n : Int) != (n : Int)) = false := by simp
 go_enter Tryz.func32, Tryz.ntmps32
 go_wp2_with (refine wpList_make_bytes rfl (.tmp 15) (.tmp 15) rfl .i64 .i64 n n n rfl rfl rfl rfl (by omega) ?_; intro w1 hb1 hB1 hs1)
 have HS1 := Lib.hid hs1; clear hs1
 go_loopw [19] (fun i wr => ∃ k : Nat, k ≤ n ∧ i = .int .i64 k ∧ Blk wr w.heap.size 5 (byteCells (fillN X n k)) ∧ Below w.heap.size w wr) (fun i _ => n - (intOf i).toNat)
 case atStart => exact ⟨0, by omega, rfl, by simpa [fillN] using hB1, hb1⟩
 case round =>
  obtain ⟨k, hk, rfl, hBr, hbr⟩ := hrel
  by_cases hlt : k < n
  ·
   obtain ⟨b1, o1, rfl, hL1⟩ := HCX.out k hlt
   obtain ⟨b2, o2, rfl, hL2⟩ := HCY.out k hlt
   have hl := fillN_len X n k hk HXL.out
   have hcell := hBr.cell k
   have hfr := hBr.frozen k
   obtain ⟨c0, hc0⟩ : ∃ c, (byteCells (fillN X n k))[k]? = some c := ⟨_, get_byteCells _ k (by rw [hl]; exact hlt)⟩
   rw [hc0] at hcell
   clear hc0 hl
   have hL1 := hL1 wr.drew (below_drewN hbr 1)
   have hL2 := hL2 wr.drew (below_drewN hbr 1)
   have hX := u8_xor_nat _ _ (HG1.out k) (HG2.out k)
   have hst := fillN_set X n k hlt HXL.out
   have hXk : X[k]'(by rw [HXL.out]; exact hlt) = x.getD k 0 ^^^ y.getD k 0 := by rw [← HXG.out k hlt, getD_of]
   rw [hXk] at hst
   have hnx := hBr.set_ k (.int .u8 ((x.getD k 0 ^^^ y.getD k 0 : Nat) : Int))
   rw [show (byteCells (fillN X n k)).setIfInBounds k (.int .u8 ((x.getD k 0 ^^^ y.getD k 0 : Nat) : Int)) = byteCells ((fillN X n k).set k (x.getD k 0 ^^^ y.getD k 0)) from set_byteCells _ _ _, hst] at hnx
   generalize x.getD k 0 = x1 at *
   generalize y.getD k 0 = y1 at *
   rw [← hX] at hnx
   have HNX := Lib.hid hnx; clear hnx hst hXk hX
   have hcell' : wr.drew.cell? ⟨w.heap.size, k, none⟩ = some c0 := hcell
   have hfr' : wr.drew.frozen? ⟨w.heap.size, k, none⟩ = false := hfr
   clear hBr
   go_wp2_with fail
   go_still_tail 12, (by kernel_rfl)
   change wpList _ _ _ _ _ wr.drew
   have hbr2 : Below w.heap.size w wr.drew := below_drewN hbr 1
   have hnx2 : Blk (wr.drew.setCell ⟨w.heap.size, k, none⟩ (.int .u8 (bits .xor .u8 (x1 : Int) (y1 : Int)))) w.heap.size 5 (byteCells (fillN X n (k + 1))) := HNX.out
   have HNX2 := Lib.hid hnx2; clear hnx2 HNX
   generalize wr.drew = w2 at *
   go_wp2
   go_roundw
   case rel => exact ⟨k + 1, by omega, by go_num, HNX2.out, hbr2.setCell (by show w.heap.size ≤ w.heap.size; omega) _⟩
   case measure => simp [intOf]; omega
  ·
   obtain rfl : k = n := by omega
   rw [fillN_end _ _ HXL.out] at hBr
   go_wp2
   go_ret2
   exact ⟨⟨_, rfl, Own.ofBlk hBr (Nat.le_refl _) HXL.out (by omega)⟩, hbr⟩

theorem field_ok (a : ByteArray) (h : decEr a.data.toList 13 19 = .ok) : 13 ≤ a.size ∧ a.size ≤ 19 ∧ ∀ c ∈ a.data.toList, isDec c = true := by
 unfold decEr at h
 split at h
 ·
  cases h
 ·
  rename_i h1
  have hl : a.data.toList.length = a.size := by simp
  split at h
  ·
   cases h
  ·
   rename_i h2
   exact ⟨by omega, by omega, all_of_badAt h2⟩
theorem pin_ok (a : ByteArray) (h : decEr a.data.toList 4 12 = .ok) : 4 ≤ a.size ∧ a.size ≤ 12 ∧ ∀ c ∈ a.data.toList, isDec c = true := by
 unfold decEr at h
 split at h
 ·
  cases h
 ·
  rename_i h1
  have hl : a.data.toList.length = a.size := by simp
  split at h
  ·
   cases h
  ·
   rename_i h2
   exact ⟨by omega, by omega, all_of_badAt h2⟩

set_option maxHeartbeats 1000000 in
theorem turned_two (f : Nat) (hf : f = 0 ∨ f = 3) (b : List Nat) (hb : b.length = 8) (gb : ∀ c ∈ b, c < 256) (A : Option Addr) (cb : Nat) (a : ByteArray) (h13 : 13 ≤ a.size) (h19 : a.size ≤ 19) (ha : ∀ c ∈ a.data.toList, isDec c = true) (w : World) (hA : At w A b) :
    Calls Tryz.prog 45 #[.int .i64 f, .slice A 8 cb, .string a] w fun e w' => (∃ v, e = .returned (.tuple #[v, .nilIface]) ∧ Own w' w.heap.size v (turnC f a.data.toList b)) ∧ Below w.heap.size w w' := by
 have hal : a.data.toList.length = a.size := by simp
 have hT : turnC f a.data.toList b = xorTo b (unhexL (fieldS a.data.toList)) 8 := by unfold turnC; rw [if_neg (by omega)]
 rw [hT]
 clear hT
 have HF := Lib.hid (fun W => field_any a h13 (by omega) W)
 have hhex := fieldS_hex a.data.toList ha
 have hfl := fieldS_len a.data.toList (by omega)
 have hU : ∀ W, Calls Tryz.prog 27 #[.string (str (fieldS a.data.toList))] W fun e w' => (∃ v, e = .returned (.tuple #[v, .nilIface]) ∧ Own w' W.heap.size v (unhexL (fieldS a.data.toList))) ∧ Below W.heap.size W w' :=
  fun W => unhex_ok (str (fieldS a.data.toList)) (by rw [str_size]; omega) (by rw [str_list]; exact badAt_none hhex) (by rw [str_size, hfl]) W
 have HU := Lib.hid hU; clear hU
 have hul : (unhexL (fieldS a.data.toList)).length = 8 := by rw [unhexL_len, hfl]
 have hult := unhexL_lt hhex
 generalize str (fieldS a.data.toList) = F at *
 generalize unhexL (fieldS a.data.toList) = U at *
 have HX := Lib.hid (fun A B ca cb W hA hB => modeXor_any b U 8 hb hul (by omega) gb hult A B ca cb W hA hB)
 have HUL := Lib.hid hul; clear hul hult hfl hhex hal
 have HA := Lib.hid hA; clear hA hb gb ha
 have main : ∀ (f : Nat), f = 0 ∨ f = 3 → Calls Tryz.prog 45 #[.int .i64 f, .slice A 8 cb, .string a] w fun e w' => (∃ v, e = .returned (.tuple #[v, .nilIface]) ∧ Own w' w.heap.size v (xorTo b U 8)) ∧ Below w.heap.size w w' := by
  clear hf f
  intro f hf
  rcases hf with rfl | rfl
  all_goals
   go_enter Tryz.func45, Tryz.ntmps45
   go_wp2_with fail
   refine (HF.out _).mono ?_
   rintro e w1 ⟨rfl, rfl⟩
   go_wp2_with fail
   refine (HU.out _).mono ?_
   rintro e w2 ⟨⟨v, rfl, hv⟩, hb2⟩
   obtain ⟨g, cap, rfl, hg, hcap, hgl, hBU⟩ := hv.form (by intro h; have := HUL.out; rw [h] at this; cases this)
   rw [HUL.out] at hcap ⊢
   clear hv
   go_wp2_with fail
   refine (HX.out _ _ _ _ _ (HA.out.below hb2 (Nat.le_refl _)) (fun _ => ⟨_, _, rfl, hBU⟩)).mono ?_
   rintro e w3 ⟨⟨v3, rfl, hv3⟩, hb3⟩
   go_wp2
   go_ret2
   exact ⟨⟨_, rfl, hv3.more hb2.size⟩, hb2.trans (hb3.mono hb2.size)⟩
 exact main f hf

theorem turned_one (A : Option Addr) (n cb : Nat) (a : ByteArray) (w : World) :
    Calls Tryz.prog 45 #[.int .i64 1, .slice A n cb, .string a] w fun e w' => e = .returned (.tuple #[.slice A n cb, .nilIface]) ∧ w = w' := by
 go_enter Tryz.func45, Tryz.ntmps45
 go_wp2
 go_ret2
 exact ⟨rfl, rfl⟩
/-- whatever the format: where the bytes lie that come out -/
theorem turned_any (f : Nat) (hf : f = 0 ∨ f = 1 ∨ f = 3) (b : List Nat) (hb : b.length = 8) (gb : ∀ c ∈ b, c < 256) (A : Option Addr) (cb : Nat) (a : ByteArray) (h13 : 13 ≤ a.size) (h19 : a.size ≤ 19) (ha : ∀ c ∈ a.data.toList, isDec c = true) (w : World) (hA : At w A b) :
    Calls Tryz.prog 45 #[.int .i64 f, .slice A 8 cb, .string a] w fun e w' => (∃ A' cp, e = .returned (.tuple #[.slice A' 8 cp, .nilIface]) ∧ At w' A' (turnC f a.data.toList b)) ∧ Below w.heap.size w w' := by
 by_cases h1 : f = 1
 ·
  subst h1
  refine (turned_one A 8 cb a w).mono ?_
  rintro e w' ⟨rfl, rfl⟩
  exact ⟨⟨A, cb, rfl, hA⟩, Below.refl _ _⟩
 ·
  refine (turned_two f (by omega) b hb gb A cb a h13 h19 ha w hA).mono ?_
  rintro e w' ⟨⟨v, rfl, hv⟩, hb'⟩
  have hl := turnC_len f a.data.toList b
  rw [hb] at hl
  obtain ⟨g, cap, rfl, hg, hcap, hgl, hBU⟩ := hv.form (by intro h; rw [h] at hl; cases hl)
  rw [hl]
  exact ⟨⟨_, _, rfl, fun _ => ⟨_, _, rfl, hBU⟩⟩, hb'⟩

/-- what pin.Make answers -/
def makeEr (f : Int) (p a : List UInt8) : Er := if f = 0 ∨ f = 1 ∨ f = 3 then bothEr p a else .no 1
def makeVal (f : Int) (p a : List UInt8) (fill : List Nat) : List Nat := match makeEr f p a with | .ok => makeD f.toNat p a fill | _ => z8
theorem makeVal_ok {f : Int} {p a : List UInt8} {fill : List Nat} (h : makeEr f p a = .ok) : makeVal f p a fill = makeD f.toNat p a fill := by unfold makeVal; rw [h]
theorem makeVal_bad {f : Int} {p a : List UInt8} {fill : List Nat} (h : makeEr f p a ≠ .ok) : makeVal f p a fill = z8 := by
 unfold makeVal
 split
 ·
  rename_i h'; exact absurd h' h
 ·
  rfl

set_option maxHeartbeats 1000000 in
theorem make_arg (f : Int) (hf : ¬ (f = 0 ∨ f = 1 ∨ f = 3)) (p a : ByteArray) (fill : List Nat) (w : World) :
    Calls Tryz.prog 18 #[.int .i64 f, .string p, .string a, .agg (byteCells fill)] w fun e w' => (∃ v, e = .returned (.tuple #[.agg (byteCells z8), v]) ∧ ErIs w' w.heap.size v (.no 1)) ∧ Below w.heap.size w w' := by
 have HK := Lib.hid (fun W => known_no f hf W)
 clear hf
 go_enter Tryz.func18, Tryz.ntmps18
 go_wp2_with fail
 refine (HK.out _).mono ?_
 rintro e w1 ⟨rfl, rfl⟩
 go_wp2
 refine bodyPost_ret (v := .tuple #[.agg (byteCells z8), .iface 57 (.int .i64 1)]) (results_agg_tmp rfl _ _ (w.heap.size + 1) 23 (byteCells z8) _ (by rfl) (Blk.new2 w _ _ _) Tryz.underlying23 rfl (by rw [info_8u8]; rfl) _ (by rfl)) rfl ⟨⟨_, rfl, rfl⟩, ?_⟩
 exact ((Below.refl _ _).alloc (Nat.le_refl _) _).alloc (by simp) _

set_option maxHeartbeats 1000000 in
theorem make_bad (f : Nat) (hf : f = 0 ∨ f = 1 ∨ f = 3) (p a : ByteArray) (hp : p.size ≤ 140737488351232) (ha : a.size ≤ 140737488351232) (fill : List Nat) (er : Er) (he : bothEr p.data.toList a.data.toList = er) (hne : er ≠ .ok) (w : World) :
    Calls Tryz.prog 18 #[.int .i64 f, .string p, .string a, .agg (byteCells fill)] w fun e w' => (∃ v, e = .returned (.tuple #[.agg (byteCells z8), v]) ∧ ErIs w' w.heap.size v er) ∧ Below w.heap.size w w' := by
 have HK := Lib.hid (fun W => known_yes f hf W)
 have HB := Lib.hid (fun W => both_any p a hp ha W)
 rw [he] at HB
 clear hf he
 have key : ∀ (v : Value) (w1 : World), v ≠ .nilIface → True := fun _ _ _ => trivial
 clear key
 cases er with
 | ok => exact absurd rfl hne
 | no m =>
  clear hne
  go_enter Tryz.func18, Tryz.ntmps18
  go_wp2_with fail
  refine (HK.out _).mono ?_
  rintro e w1 ⟨rfl, rfl⟩
  go_wp2_with fail
  refine (HB.out _).mono ?_
  rintro e w2 ⟨⟨v, rfl, hv⟩, hb2⟩
  obtain rfl : v = _ := hv
  have hZ2 : Blk w2 (w.heap.size + 1) 23 (byteCells z8) := (Blk.new2 w _ _ _).below hb2 (by simp)
  have hbel := (((Below.refl w.heap.size w).alloc (Nat.le_refl _) (.cells (byteCells fill) 23)).alloc (by simp) (.cells (byteCells z8) 23)).trans (hb2.mono (by simp; omega))
  go_wp2_with (refine wpList_store_all rfl 23 (.tmp 8) (.tmp 23) rfl (w.heap.size + 1) (byteCells z8) rfl rfl 23 _ hZ2 (by rw [info_8u8]; rfl) rfl (bytes_one _) ?_; intro w3 hZ3 hO3)
  refine bodyPost_ret (v := .tuple #[.agg (byteCells z8), .iface 57 (.int .i64 (m : Int))]) (results_agg_tmp rfl _ _ (w.heap.size + 1) 23 (byteCells z8) _ (by rfl) hZ3 Tryz.underlying23 rfl (by rw [info_8u8]; rfl) _ (by rfl)) rfl ⟨⟨_, rfl, rfl⟩, ?_⟩
  exact hO3.below hbel (by omega)
 | fa q m =>
  clear hne
  go_enter Tryz.func18, Tryz.ntmps18
  go_wp2_with fail
  refine (HK.out _).mono ?_
  rintro e w1 ⟨rfl, rfl⟩
  go_wp2_with fail
  refine (HB.out _).mono ?_
  rintro e w2 ⟨⟨v, rfl, hv⟩, hb2⟩
  have hv' := hv
  obtain ⟨g, rfl, hg, hBg⟩ := hv'
  have hZ2 : Blk w2 (w.heap.size + 1) 23 (byteCells z8) := (Blk.new2 w _ _ _).below hb2 (by simp)
  have hbel := (((Below.refl w.heap.size w).alloc (Nat.le_refl _) (.cells (byteCells fill) 23)).alloc (by simp) (.cells (byteCells z8) 23)).trans (hb2.mono (by simp; omega))
  have hg2 : w.heap.size + 1 < g := by simp at hg; omega
  clear hv hg
  go_wp2_with (refine wpList_store_all rfl 23 (.tmp 8) (.tmp 23) rfl (w.heap.size + 1) (byteCells z8) rfl rfl 23 _ hZ2 (by rw [info_8u8]; rfl) rfl (bytes_one _) ?_; intro w3 hZ3 hO3)
  refine bodyPost_ret (v := .tuple #[.agg (byteCells z8), .iface 77 (.pointer (some ⟨g, 0, none⟩))]) (results_agg_tmp rfl _ _ (w.heap.size + 1) 23 (byteCells z8) _ (by rfl) hZ3 Tryz.underlying23 rfl (by rw [info_8u8]; rfl) _ (by rfl)) rfl ⟨⟨_, rfl, g, rfl, by omega, hBg.only hO3 (by omega)⟩, ?_⟩
  exact hO3.below hbel (by omega)

theorem filler_any (f : Nat) (hf : f = 0 ∨ f = 1 ∨ f = 3) (fill : List Nat) (hl : fill.length = 8) (hlt : ∀ c ∈ fill, c < 256) (w : World) :
    Calls Tryz.prog 44 #[.int .i64 f, .agg (byteCells fill)] w fun e w' => e = .returned (.string (str (fillS f fill))) ∧ Below w.heap.size w w' := by
 rcases hf with rfl | rfl | rfl
 ·
  exact filler_zero fill w
 ·
  exact filler_hex 1 (.inl rfl) fill hl hlt w
 ·
  exact filler_three fill hl hlt w

set_option maxHeartbeats 2000000 in
set_option maxRecDepth 100000 in
theorem make_ok (f : Nat) (hf : f = 0 ∨ f = 1 ∨ f = 3) (p a : ByteArray) (h4 : p.size ≤ 12) (h12 : 4 ≤ p.size) (hpd : ∀ c ∈ p.data.toList, isDec c = true) (h13 : 13 ≤ a.size) (h19 : a.size ≤ 19) (had : ∀ c ∈ a.data.toList, isDec c = true) (hboth : bothEr p.data.toList a.data.toList = .ok)
    (fill : List Nat) (hl : fill.length = 8) (hlt : ∀ c ∈ fill, c < 256) (w : World) :
    Calls Tryz.prog 18 #[.int .i64 f, .string p, .string a, .agg (byteCells fill)] w fun e w' => e = .returned (.tuple #[.agg (byteCells (makeD f p.data.toList a.data.toList fill)), .nilIface]) ∧ Below w.heap.size w w' := by
 have hpl : p.data.toList.length = p.size := by simp
 have hal : a.data.toList.length = a.size := by simp
 rw [← makeC_eq f p.data.toList a.data.toList fill hf (by omega) hpd (by omega) had hl hlt]
 have HK := Lib.hid (fun W => known_yes f hf W)
 have HB := Lib.hid (fun W => both_any p a (by omega) (by omega) W)
 rw [hboth] at HB
 clear hboth
 have HT := Lib.hid (fun W => text_any f (by omega) p (by omega) W)
 have HL := Lib.hid (fun W => filler_any f hf fill hl hlt W)
 have hrh := raw_hex f p.data.toList fill (by omega) (by omega) hpd hlt
 have hrl := raw_len f p.data.toList fill hl
 have hcut : (str (textS f p.data.toList) ++ str (fillS f fill)).extract 0 16 = str ((textS f p.data.toList ++ fillS f fill).take 16) := by
  rw [str_add, str_extract]
  simp
 have hs1 : (str (textS f p.data.toList)).size ≤ 14 := by rw [str_size, textS_len]; omega
 have hs2 : (str (fillS f fill)).size = 16 := by rw [str_size, fillS_len _ _ hl]
 have hU : ∀ W, Calls Tryz.prog 27 #[.string (str ((textS f p.data.toList ++ fillS f fill).take 16))] W fun e w' => (∃ v, e = .returned (.tuple #[v, .nilIface]) ∧ Own w' W.heap.size v (unhexL ((textS f p.data.toList ++ fillS f fill).take 16))) ∧ Below W.heap.size W w' :=
  fun W => unhex_ok _ (by rw [str_size, hrl]; decide) (by rw [str_list]; exact badAt_none hrh) (by rw [str_size, hrl]) W
 have HU := Lib.hid hU; clear hU
 have hul : (unhexL ((textS f p.data.toList ++ fillS f fill).take 16)).length = 8 := by rw [unhexL_len, hrl]
 have hult := unhexL_lt hrh
 have hdef : makeC f p.data.toList a.data.toList fill = turnC f a.data.toList (unhexL ((textS f p.data.toList ++ fillS f fill).take 16)) := rfl
 rw [hdef]
 clear hdef hrh hrl
 generalize str ((textS f p.data.toList ++ fillS f fill).take 16) = S at *
 generalize unhexL ((textS f p.data.toList ++ fillS f fill).take 16) = U at *
 have HU2 := Lib.hid (fun A cb W hA => turned_any f hf U hul hult A cb a h13 h19 had W hA)
 have hvl : (turnC f a.data.toList U).length = 8 := by rw [turnC_len, hul]
 generalize turnC f a.data.toList U = V at *
 generalize str (textS f p.data.toList) = T at *
 generalize str (fillS f fill) = F at *
 have HCUT := Lib.hid hcut; clear hcut
 have hs2' : F.size ≤ 16 := by omega
 have hcutn : (0 : Int) ≤ 16 := by omega
 have hTF : 16 ≤ (T ++ F).size := by rw [ByteArray.size_append]; omega
 have hTF' : ¬ ((T.size : Int) + F.size < 16) := by have := hTF; rw [ByteArray.size_append] at this; omega
 have b1 : ¬ 9223372036854775807 < T.size + F.size := by omega
 have HUL := Lib.hid hul; clear hul hult
 have HVL := Lib.hid hvl; clear hvl
 have HFL := Lib.hid hl; clear hl
 clear hs2 hpl hal hpd had hlt hf
 go_enter Tryz.func18, Tryz.ntmps18
 go_wp2_with fail
 refine (HK.out _).mono ?_
 rintro e w1 ⟨rfl, rfl⟩
 go_wp2_with fail
 refine (HB.out _).mono ?_
 rintro e w2 ⟨⟨v, rfl, hv⟩, hb2⟩
 obtain rfl : v = _ := hv
 have hF2 : Bs w2 w.heap.size 0 fill := (Bs.alloc (Bs.of_blk (l := fill) (Blk.new w _ _) (fun j c hj => by rw [Nat.zero_add]; exact hj)) _).below hb2 (by simp; omega)
 have hZ2 : Blk w2 (w.heap.size + 1) 23 (byteCells z8) := (Blk.new2 w _ _ _).below hb2 (by simp)
 have hbel2 := (((Below.refl w.heap.size w).alloc (Nat.le_refl _) (.cells (byteCells fill) 23)).alloc (by simp) (.cells (byteCells z8) 23)).trans (hb2.mono (by simp; omega))
 have hsz2 : w.heap.size + 2 ≤ w2.heap.size := by have := hb2.size; simp at this; omega
 clear hb2
 go_wp2_with fail
 refine wp_region_tree (.q 0 (.q 1 (.q 3 (.q 4 (.e [2] fun _ => .e [5] fun _ => .q 6 (.q 7 (.e [8] fun _ => .q 9 (.q 10 (.q 11 (.q 12 (.q 13 (.done)))))))))))) (fun W => Below w2.heap.size w2 W) rfl (by kernel_rfl) (fun _ _ d _ _ h => by cases d <;> exact h) ?_
 have hw : Below w2.heap.size w2 w2.drew := below_drewN (Below.refl _ _) 1
 iterate 3 (refine t_q rfl rfl hw _ (fun W hW => by (go_simp; rfl)) ?_; go_simp)
 refine t_load_bs rfl rfl 23 (.tmp 7) rfl w.heap.size 0 rfl fill hw (fun W hW => hF2.below hW (by omega)) _ Tryz.underlying23 rfl (by rw [info_8u8, HFL.out]) ?_
 go_simp
 refine t_e rfl rfl fun K hK => ?_
 go_simp
 refine (HT.out _).mono ?_
 rintro e w3 ⟨rfl, hb3⟩
 have hw3 := hw.trans (hb3.mono hw.size)
 refine hK _ _ hw3 ?_
 clear hK K hb3
 go_simp
 refine t_e rfl rfl fun K hK => ?_
 go_simp
 refine (HL.out _).mono ?_
 rintro e w4 ⟨rfl, hb4⟩
 have hw4 := hw3.trans (hb4.mono hw3.size)
 refine hK _ _ hw4 ?_
 clear hK K hb4
 go_simp
 refine t_q rfl rfl hw4 (.string (T ++ F)) (fun W hW => by (go_simp; try rfl)) ?_
 go_simp
 refine t_q rfl rfl hw4 (.string S) (fun W hW => by (rw [← HCUT.out]; go_simp)) ?_
 go_simp
 refine t_e rfl rfl fun K hK => ?_
 go_simp
 refine (HU.out _).mono ?_
 rintro e w5 ⟨⟨v, rfl, hv⟩, hb5⟩
 obtain ⟨g, cap, rfl, hg, hcap, hgl, hBU⟩ := hv.form (by intro h; have := HUL.out; rw [h] at this; cases this)
 rw [HUL.out] at hcap ⊢
 have hw5 := hw4.trans (hb5.mono hw4.size)
 refine hK _ _ hw5 ?_
 clear hK K hb5 hv
 go_simp
 iterate 5 (refine t_q rfl rfl hw5 _ (fun W hW => by (go_simp; rfl)) ?_; go_simp)
 refine t_done ?_
 have hbel5 := hbel2.trans (hw5.mono hbel2.size)
 have hZ5 := hZ2.below hw5 (by omega)
 have hsz5 := hw5.size
 clear hw hw3 hw4 hw5
 go_wp2_with fail
 refine (HU2.out _ _ _ (fun _ => ⟨_, _, rfl, hBU⟩)).mono ?_
 rintro e w6 ⟨⟨A', cp, rfl, hAV⟩, hb6⟩
 obtain ⟨gv, ov, rfl, hBV⟩ := hAV (by intro h; have := HVL.out; rw [h] at this; cases this)
 have hbel6 := hbel5.trans (hb6.mono hbel5.size)
 have hZ6 := hZ5.below hb6 (by omega)
 have harr : ∀ a c W, (Instr.arrayAt 23 (.slice a 8 c)).run Tryz.prog W = .ok (.pointer a) W := fun a c W => run_arrayAt _ 5 8 Tryz.underlying23 a 8 c (Nat.le_refl _) W
 go_wp2_with (first
  | (refine wpList_load_bs rfl 23 (.tmp 53) rfl gv ov rfl V hBV _ Tryz.underlying23 rfl (by rw [info_8u8, HVL.out]) ?_)
  | (refine wpList_store_all rfl 23 (.tmp 8) (.tmp 54) rfl (w.heap.size + 1) (byteCells V) rfl rfl 23 _ hZ6 (by rw [info_8u8, size_byteCells, HVL.out]) (by rw [size_byteCells, size_byteCells, HVL.out]; rfl) (bytes_one _) ?_; intro w7 hZ7 hO7))
 refine bodyPost_ret (v := .tuple #[.agg (byteCells V), .nilIface]) (results_agg_tmp rfl _ _ (w.heap.size + 1) 23 (byteCells V) _ (by rfl) hZ7 Tryz.underlying23 rfl (by rw [info_8u8, size_byteCells, HVL.out]) _ (by rfl)) rfl ⟨rfl, ?_⟩
 exact hO7.below hbel6 (by omega)

/-- the contract of pin.Make -/
theorem make_any (f : Int) (p a : ByteArray) (hp : p.size ≤ 140737488351232) (ha : a.size ≤ 140737488351232) (fill : List Nat) (hl : fill.length = 8) (hlt : ∀ c ∈ fill, c < 256) (w : World) :
    Calls Tryz.prog 18 #[.int .i64 f, .string p, .string a, .agg (byteCells fill)] w fun e w' =>
     (∃ v, e = .returned (.tuple #[.agg (byteCells (makeVal f p.data.toList a.data.toList fill)), v]) ∧ ErIs w' w.heap.size v (makeEr f p.data.toList a.data.toList)) ∧ Below w.heap.size w w' := by
 by_cases hf : f = 0 ∨ f = 1 ∨ f = 3
 ·
  have hE : makeEr f p.data.toList a.data.toList = bothEr p.data.toList a.data.toList := by unfold makeEr; rw [if_pos hf]
  obtain ⟨n, rfl⟩ : ∃ n : Nat, f = n := ⟨f.toNat, by omega⟩
  have hf' : n = 0 ∨ n = 1 ∨ n = 3 := by omega
  by_cases hok : bothEr p.data.toList a.data.toList = .ok
  ·
   rw [makeVal_ok (hE.trans hok), hE, hok]
   have hb := hok
   unfold bothEr at hb
   split at hb
   ·
    rename_i hp4
    obtain ⟨q1, q2, q3⟩ := pin_ok p hp4
    obtain ⟨r1, r2, r3⟩ := field_ok a hb
    refine (make_ok n hf' p a q2 q1 q3 r1 r2 r3 hok fill hl hlt w).mono ?_
    rintro e w' ⟨rfl, hb'⟩
    exact ⟨⟨_, rfl, rfl⟩, hb'⟩
   ·
    rename_i h1
    exact absurd hb h1
  ·
   rw [makeVal_bad (by rw [hE]; exact hok), hE]
   exact make_bad n hf' p a hp ha fill _ rfl hok w
 ·
  have hE : makeEr f p.data.toList a.data.toList = .no 1 := by unfold makeEr; rw [if_neg hf]
  rw [makeVal_bad (by rw [hE]; intro h; cases h), hE]
  exact make_arg f hf p a fill w
end Go.Proofs.YthodpjcdmdbnoaaGreatDoor

/- The contracts of pin.read, pin.Open. -/
namespace Go.Proofs.YthodpjcdmdbnoaaGreatDoor
open Go Go.RowKit Pr

def readEr (l : List Nat) (f : Nat) : Er := match readAt l f with | some i => .fa i 6 | none => .ok
def readStr (l : List Nat) (f : Nat) : List UInt8 := match readAt l f with | some _ => [] | none => readV l

set_option maxHeartbeats 400000 in
theorem readWrong_any (p : Int) (w : World) :
    Calls Tryz.prog 60 #[.int .i64 p] w fun e w' => e = .returned (.tuple #[.string ⟨#[]⟩, .iface 77 (.pointer (some ⟨w.heap.size, 0, none⟩))]) ∧ w.alloc (.cells #[.int .i64 p, .iface 57 (.int .i64 6)] 80) = w' := by
 go_enter Tryz.func60, Tryz.ntmps60
 go_wp2
 go_ret2
 exact ⟨rfl, rfl⟩

theorem hexd_nat (n : Nat) (h : n < 16) : (hexd n).toNat = if n < 10 then 48 + n else 55 + n := by
 have : ∀ n < 16, (hexd n).toNat = if n < 10 then 48 + n else 55 + n := by decide +kernel
 exact this n h
def digs13 : List UInt8 := [48, 49, 50, 51, 52, 53, 54, 55, 56, 57, 65, 66, 67]
theorem index13 (n : Nat) (h : n < 16) : Lib.indexByte digs13 (hexd n) = if n < 13 then (n : Int) else -1 := by
 have : ∀ n < 16, Lib.indexByte digs13 (hexd n) = if n < 13 then (n : Int) else -1 := by decide +kernel
 exact this n h
theorem index10 (n : Nat) (h : n < 16) : isIn (digs.take 10) (hexd n) = !decide (9 < n) := by
 have : ∀ n < 16, isIn (digs.take 10) (hexd n) = !decide (9 < n) := by decide +kernel
 exact this n h
theorem map_get (l : List Nat) (k : Nat) (h : k < l.length) (s : ByteArray) (hs : s = str (l.map hexd)) : ∃ hk : k < s.size, s[k] = hexd (l.getD k 0) := by
 subst hs
 have hk : k < (str (l.map hexd)).size := by rw [str_size, List.length_map]; exact h
 refine ⟨hk, ?_⟩
 rw [← get_list _ k hk]
 simp only [str_list, List.getElem_map]
 rw [getD_of l k h]
theorem readAt_loop {l : List Nat} {f : Nat} (h0 : l.getD 0 0 = f) (h1 : 4 ≤ l.getD 1 0) (h2 : l.getD 1 0 ≤ 12) : readAt l f = firstD f l 2 14 := by
 unfold readAt
 rw [if_neg (by simp only [ne_eq, Classical.not_not]; exact h0), if_neg (by omega)]

set_option maxHeartbeats 2000000 in
set_option maxRecDepth 100000 in
theorem read_any (l : List Nat) (hl : 16 ≤ l.length) (hl2 : l.length ≤ 1000) (hlt : ∀ c ∈ l, c < 16) (f : Nat) (hf : f < 10) (F : ByteArray) (hF : ∀ c, c < 16 → isIn F.data.toList (hexd c) = !noD f c) (w : World) :
    Calls Tryz.prog 33 #[.string (str (l.map hexd)), .int .i64 f, .string F] w fun e w' =>
     (∃ v, e = .returned (.tuple #[.string (str (readStr l f)), v]) ∧ ErIs w' w.heap.size v (readEr l f)) ∧ Below w.heap.size w w' := by
 obtain ⟨s, hs⟩ : ∃ s, str (l.map hexd) = s := ⟨_, rfl⟩
 rw [hs]
 have hsz : s.size = l.length := by rw [← hs, str_size, List.length_map]
 obtain ⟨k0, g0⟩ := map_get l 0 (by omega) s hs.symm
 obtain ⟨k1, g1⟩ := map_get l 1 (by omega) s hs.symm
 have hget := Lib.hid (fun k (h : k < l.length) => map_get l k h s hs.symm)
 have d0 := getD_lt16 l hlt 0
 have d1 := getD_lt16 l hlt 1
 have i0 := index_str (P := Tryz.prog) 9 Tryz.underlying9 s 0 k0 0 rfl _ rfl
 have i1 := index_str (P := Tryz.prog) 9 Tryz.underlying9 s 1 k1 1 rfl _ rfl
 rw [g0] at i0
 rw [g1] at i1
 clear g0 g1
 have hdef : readEr l f = match readAt l f with | some i => .fa i 6 | none => .ok := rfl
 have hdef2 : readStr l f = match readAt l f with | some _ => [] | none => readV l := rfl
 have hx0 := hexd_nat _ d0
 by_cases h0 : l.getD 0 0 = f
 ·
  have t0 : ((((hexd (l.getD 0 0)).toNat : Nat) : Int) != 48 + (f : Int)) = false := by rw [bne_eq_false_iff_eq, hx0, h0, if_pos hf]; omega
  have hix := fun W => Tryz.strings_IndexByte ⟨#[48, 49, 50, 51, 52, 53, 54, 55, 56, 57, 65, 66, 67]⟩ (((hexd (l.getD 1 0)).toNat : Nat) : Int) W
  have hcc : ((((hexd (l.getD 1 0)).toNat : Nat) : Int)).toNat.toUInt8 = hexd (l.getD 1 0) := by simp
  have hdl : (⟨#[48, 49, 50, 51, 52, 53, 54, 55, 56, 57, 65, 66, 67]⟩ : ByteArray).data.toList = digs13 := rfl
  rw [hcc, hdl, index13 _ d1] at hix
  clear hcc hdl
  by_cases h1 : 4 ≤ l.getD 1 0 ∧ l.getD 1 0 ≤ 12
  ·
   rw [readAt_loop h0 h1.1 h1.2] at hdef hdef2
   rw [if_pos (by omega)] at hix
   have hres : (∃ k, firstD f l 2 14 = some k) ∨ firstD f l 2 14 = none := by cases firstD f l 2 14 with | none => exact .inr rfl | some k => exact .inl ⟨k, rfl⟩
   have hb : ∀ k, badD f (l.getD 1 0) k (l.getD k 0) = if k < 2 + l.getD 1 0 then decide (9 < l.getD k 0) else noD f (l.getD k 0) := fun k => rfl
   have hstep : ∀ k m, firstD f l k (m + 1) = if badD f (l.getD 1 0) k (l.getD k 0) then some k else firstD f l (k + 1) m := fun k m => rfl
   have hrv : readV l = ((l.map hexd).drop 2).take (l.getD 1 0) := by unfold readV; rw [List.map_take, List.map_drop]
   clear i1 hx0
   have i1 := index_str (P := Tryz.prog) 9 Tryz.underlying9 s 1 k1 1 rfl _ rfl
   rw [show s[1] = hexd (l.getD 1 0) from (map_get l 1 (by omega) s hs.symm).2] at i1
   generalize l.getD 1 0 = n at *
   obtain ⟨n4, n12⟩ := h1
   have hcut : s.extract 2 (2 + n) = str (readV l) := by
    rw [← hs, str_extract, hrv]
    congr 2
    omega
   generalize (((hexd (l.getD 0 0)).toNat : Nat) : Int) = x0 at *
   generalize (((hexd n).toNat : Nat) : Int) = x1 at *
   have HIX := Lib.hid hix; clear hix
   have HD := Lib.hid hdef; clear hdef
   have HD2 := Lib.hid hdef2; clear hdef2
   have HB := Lib.hid hb; clear hb
   have HST := Lib.hid hstep; clear hstep
   have HF := Lib.hid hF; clear hF
   have HLT := Lib.hid (fun i => getD_lt16 l hlt i)
   have HL := Lib.hid hl
   have HCUT := Lib.hid hcut; clear hcut
   have HSZ := Lib.hid hsz
   have hsz' : 16 ≤ s.size := by omega
   have hw48 : IntKind.u8.wrap (48 + (f : Int)) = 48 + (f : Int) := by simp [IntKind.wrap, IntKind.bits, IntKind.signed]; omega
   have hsz2 : s.size ≤ 1000 := by omega
   clear hs hsz hl hl2 hlt hres hrv h0 d0 d1 k0 k1
   go_enter Tryz.func33, Tryz.ntmps33
   go_wp2_with (go_at_call 50; refine (HIX.out _).mono ?_; rintro e w' ⟨rfl, rfl⟩)
   go_loop [10] (fun i => ∃ k : Nat, 2 ≤ k ∧ k ≤ 16 ∧ i = .int .i64 k ∧ Hid (firstD f l 2 14 = firstD f l k (16 - k))) (fun i => 16 - (intOf i).toNat)
   case atStart => exact ⟨2, by omega, by omega, rfl, rfl⟩
   case round =>
    obtain ⟨k, hk2, hk, rfl, hfd⟩ := hrel
    by_cases hlt : k < 16
    ·
     obtain ⟨hks, hg⟩ := hget.out k (Nat.lt_of_lt_of_le hlt HL.out)
     have ik := index_str (P := Tryz.prog) 9 Tryz.underlying9 s k hks k rfl _ rfl
     rw [hg] at ik
     have hc := HLT.out k
     have hbk := HB.out k
     have hsk := HST.out k (15 - k)
     have hFk := HF.out _ hc
     have h10 := index10 _ hc
     have hcc : ((((hexd (l.getD k 0)).toNat : Nat) : Int)).toNat.toUInt8 = hexd (l.getD k 0) := by simp
     have hi1 := fun W => Tryz.strings_IndexByte F (((hexd (l.getD k 0)).toNat : Nat) : Int) W
     have hi2 := fun W => Tryz.strings_IndexByte ⟨#[48, 49, 50, 51, 52, 53, 54, 55, 56, 57]⟩ (((hexd (l.getD k 0)).toNat : Nat) : Int) W
     rw [hcc] at hi1 hi2
     rw [show (⟨#[48, 49, 50, 51, 52, 53, 54, 55, 56, 57]⟩ : ByteArray).data.toList = digs.take 10 from rfl] at hi2
     rw [show 15 - k + 1 = 16 - k by omega] at hsk
     rw [hbk] at hsk
     unfold isIn at hFk h10
     generalize Lib.indexByte F.data.toList (hexd (l.getD k 0)) = z1 at *
     generalize Lib.indexByte (digs.take 10) (hexd (l.getD k 0)) = z2 at *
     generalize ((((hexd (l.getD k 0)).toNat : Nat) : Int)) = y at *
     generalize noD f (l.getD k 0) = nd at *
     generalize decide (9 < l.getD k 0) = nn at *
     have HI1 := Lib.hid hi1; clear hi1
     have HI2 := Lib.hid hi2; clear hi2
     clear hbk hc hcc hg
     by_cases hkn : k < 2 + n
     ·
      have hkn' : (k : Int) < 2 + n := by omega
      rw [if_pos hkn] at hsk
      clear hFk
      cases nn with
      | true =>
       have hz : z2 < 0 := by simpa using h10
       have hfin : firstD f l 2 14 = some k := by rw [hfd.out, hsk, if_pos rfl]
       have hE := HD.out
       have hS := HD2.out
       rw [hfin] at hE hS
       have HE := Lib.hid hE; clear hE
       have HS := Lib.hid hS; clear hS
       clear hfin hsk h10
       go_wp2_with (first
        | (go_at_call 50; refine (HI2.out _).mono ?_; rintro e w' ⟨rfl, rfl⟩)
        | (go_at_call 60; refine (readWrong_any _ _).mono ?_; rintro e w' ⟨rfl, rfl⟩))
       go_ret2
       rw [HE.out, HS.out]
       exact ⟨⟨_, rfl, _, rfl, Nat.le_refl _, Blk.new _ _ _⟩, (Below.refl _ _).alloc (Nat.le_refl _) _⟩
      | false =>
       have hz : ¬ z2 < 0 := by simpa using h10
       have hnx : firstD f l 2 14 = firstD f l (k + 1) (16 - (k + 1)) := by rw [hfd.out, hsk, if_neg (by simp), show 16 - (k + 1) = 15 - k by omega]
       have HNX := Lib.hid hnx; clear hnx hsk h10
       go_wp2_with (first
        | (go_at_call 50; refine (HI2.out _).mono ?_; rintro e w' ⟨rfl, rfl⟩))
       go_round
       case rel => exact ⟨k + 1, by omega, by omega, by go_num, HNX⟩
       case measure => simp [intOf]; omega
     ·
      have hkn' : ¬ (k : Int) < 2 + n := by omega
      rw [if_neg hkn] at hsk
      clear h10
      cases nd with
      | true =>
       have hz : z1 < 0 := by simpa using hFk
       have hfin : firstD f l 2 14 = some k := by rw [hfd.out, hsk, if_pos rfl]
       have hE := HD.out
       have hS := HD2.out
       rw [hfin] at hE hS
       have HE := Lib.hid hE; clear hE
       have HS := Lib.hid hS; clear hS
       clear hfin hsk hFk
       go_wp2_with (first
        | (go_at_call 50; refine (HI1.out _).mono ?_; rintro e w' ⟨rfl, rfl⟩)
        | (go_at_call 60; refine (readWrong_any _ _).mono ?_; rintro e w' ⟨rfl, rfl⟩))
       go_ret2
       rw [HE.out, HS.out]
       exact ⟨⟨_, rfl, _, rfl, Nat.le_refl _, Blk.new _ _ _⟩, (Below.refl _ _).alloc (Nat.le_refl _) _⟩
      | false =>
       have hz : ¬ z1 < 0 := by simpa using hFk
       have hnx : firstD f l 2 14 = firstD f l (k + 1) (16 - (k + 1)) := by rw [hfd.out, hsk, if_neg (by simp), show 16 - (k + 1) = 15 - k by omega]
       have HNX := Lib.hid hnx; clear hnx hsk hFk
       go_wp2_with (first
        | (go_at_call 50; refine (HI1.out _).mono ?_; rintro e w' ⟨rfl, rfl⟩))
       go_round
       case rel => exact ⟨k + 1, by omega, by omega, by go_num, HNX⟩
       case measure => simp [intOf]; omega
    ·
     obtain rfl : k = 16 := by omega
     have hfin : firstD f l 2 14 = none := by rw [hfd.out]; rfl
     have hE := HD.out
     have hS := HD2.out
     rw [hfin] at hE hS
     have HE := Lib.hid hE; clear hE
     have HS := Lib.hid hS; clear hS
     clear hfin
     have hcn : ¬ (s.size : Int) < 2 + n := by omega
     have e1 : (2 + (n : Int)).toNat = 2 + n := by omega
     go_wp2
     clear e1
     go_ret2
     rw [HE.out, HS.out, ← HCUT.out]
     exact ⟨⟨_, rfl, rfl⟩, Below.refl _ _⟩
  ·
   have hE : readEr l f = .fa 1 6 := by
    rw [hdef]
    unfold readAt
    rw [if_neg (by simp only [ne_eq, Classical.not_not]; exact h0), if_pos (by omega)]
    rfl
   have hS : readStr l f = [] := by
    rw [hdef2]
    unfold readAt
    rw [if_neg (by simp only [ne_eq, Classical.not_not]; exact h0), if_pos (by omega)]
   rw [hE, hS]
   obtain ⟨z, hz⟩ : ∃ z : Int, (if l.getD 1 0 < 13 then ((l.getD 1 0 : Nat) : Int) else -1) = z := ⟨_, rfl⟩
   have hz4 : z < 4 := by rw [← hz]; split <;> omega
   rw [hz] at hix
   clear hz hE hS hdef hdef2 hx0 h1
   have hsz' : 16 ≤ s.size := by omega
   have hw48 : IntKind.u8.wrap (48 + (f : Int)) = 48 + (f : Int) := by simp [IntKind.wrap, IntKind.bits, IntKind.signed]; omega
   generalize (((hexd (l.getD 0 0)).toNat : Nat) : Int) = x0 at *
   generalize (((hexd (l.getD 1 0)).toNat : Nat) : Int) = x1 at *
   have HIX := Lib.hid hix; clear hix
   clear hs hsz hl hlt h0 d0 d1 k0 k1 hF
   go_enter Tryz.func33, Tryz.ntmps33
   go_wp2_with (first
    | (go_at_call 50; refine (HIX.out _).mono ?_; rintro e w' ⟨rfl, rfl⟩)
    | (go_at_call 60; refine (readWrong_any _ _).mono ?_; rintro e w' ⟨rfl, rfl⟩))
   go_ret2
   exact ⟨⟨_, rfl, _, rfl, Nat.le_refl _, Blk.new _ _ _⟩, (Below.refl _ _).alloc (Nat.le_refl _) _⟩
 ·
  have hE : readEr l f = .fa 0 6 := by
   rw [hdef]
   unfold readAt
   rw [if_pos h0]
   rfl
  have hS : readStr l f = [] := by
   rw [hdef2]
   unfold readAt
   rw [if_pos h0]
  rw [hE, hS]
  have t0 : ((((hexd (l.getD 0 0)).toNat : Nat) : Int) != 48 + (f : Int)) = true := by
   rw [bne_iff_ne, hx0]
   split <;> omega
  clear hdef hdef2 hx0 hE hS
  have hsz' : 16 ≤ s.size := by omega
  have hw48 : IntKind.u8.wrap (48 + (f : Int)) = 48 + (f : Int) := by simp [IntKind.wrap, IntKind.bits, IntKind.signed]; omega
  generalize (((hexd (l.getD 0 0)).toNat : Nat) : Int) = x0 at *
  clear i1 hs hsz hl hlt h0 d0 d1 k0 k1 hF
  go_enter Tryz.func33, Tryz.ntmps33
  go_wp2_with (first
   | (go_at_call 60; refine (readWrong_any _ _).mono ?_; rintro e w' ⟨rfl, rfl⟩))
  go_ret2
  exact ⟨⟨_, rfl, _, rfl, Nat.le_refl _, Blk.new _ _ _⟩, (Below.refl _ _).alloc (Nat.le_refl _) _⟩

section
open Go.Maps
variable {H : Type} {P : Program} {ops : Array Oper} {rest : List Oper} {o : Oper} {a : Act} {Q : Exit → Act → World → Prop}
/-- an entry of a map that is written out -/
theorem wpList_insert_own (w : World) (hg : o.guard = none) (m x v : Operand) (t : TypeId) (hop : o.op = Op.insert t m x v)
    (k e : TypeId) (K : Keyed P k) (ht : P.underlying t = some (.map k e)) (R : Value → Option (DataW H × List MemPlace)) (b n : Nat) (D : DataW H)
    (hm : a.eval m = .map (some b)) (hown : w.ownsMap P k R b n D) (hn : n < maxLen) (key val : Value) (kl : Lit) (hx : a.eval x = key) (hv : a.eval v = val) (hkey : keyOf P k key = some kl)
    (d : DataW H) (ps : List MemPlace) (hval : R val = some (d, ps))
    (hK : ∀ w', w'.ownsMap P k R b (n + 1) (D.put kl d) → w.grownBy w' (some b) → wpList P ops Q rest (a.put o.dst undef) w') :
    wpList P ops Q (o :: rest) a w := by
 refine wpList_plain hg fun K' hK' => ?_
 obtain ⟨w', hrun, r1, r2⟩ := hown.update K ht hn hkey hval
 unfold Oper.wp
 simp [execOp, hop, hm, hx, hv, hrun, Result.andThen]
 exact hK' _ _ (hK w' r1 r2)
/-- a text that is looked up in a map of one's own -/
theorem wpList_lookup_own_str (w : World) (hg : o.guard = none) (m x : Operand) (t : TypeId) (hop : o.op = Op.lookup t m x false)
    (k e : TypeId) (K : Keyed P k) (ht : P.underlying t = some (.map k e)) (he : P.underlying e = some .string) (hz : (zeroValue e).run P w = .ok (.string ⟨#[]⟩) w) (b n : Nat) (D : DataW H)
    (hm : a.eval m = .map (some b)) (hown : w.ownsMap P k (plainElem P e) b n D) (key : Value) (kl : Lit) (hx : a.eval x = key) (hkey : keyOf P k key = some kl)
    (S : ByteArray) (hat : D.atKey kl (.lit (.string [])) = .lit (.string S.data.toList))
    (hK : wpList P ops Q rest (a.put o.dst (.string S)) w) :
    wpList P ops Q (o :: rest) a w := by
 refine wpList_plain hg fun K' hK' => ?_
 obtain ⟨v, ps, hrun, hv⟩ := hown.lookup K ht hz (zd := .lit (.string [])) (zp := []) (plainElem_string he (s := ⟨#[]⟩) (by decide)) hkey
 obtain ⟨s, rfl, hs, _⟩ := plainElem_string_inv he hv
 rw [hat] at hs
 have hss : S.data.toList = s.data.toList := by
  have := (Prod.mk.inj hs).1
  injection this with this
  injection this
 have hS : s = S := by
  apply ByteArray.ext
  exact (Array.toList_inj.1 hss).symm
 subst hS
 unfold Oper.wp
 simp [execOp, hop, hm, hx, hrun, Result.andThen]
 exact hK' _ _ hK
end

def fillsS (f : Nat) : ByteArray := if f = 0 then ⟨#[70]⟩ else if f = 1 then ⟨#[48, 49, 50, 51, 52, 53, 54, 55, 56, 57, 65, 66, 67, 68, 69, 70]⟩ else ⟨#[65, 66, 67, 68, 69, 70]⟩
theorem fills_ok (f : Nat) (hf : f = 0 ∨ f = 1 ∨ f = 3) (c : Nat) (hc : c < 16) : isIn (fillsS f).data.toList (hexd c) = !noD f c := by
 have h0 : ∀ c < 16, isIn (fillsS 0).data.toList (hexd c) = !noD 0 c := by decide +kernel
 have h1 : ∀ c < 16, isIn (fillsS 1).data.toList (hexd c) = !noD 1 c := by decide +kernel
 have h3 : ∀ c < 16, isIn (fillsS 3).data.toList (hexd c) = !noD 3 c := by decide +kernel
 rcases hf with rfl | rfl | rfl
 ·
  exact h0 c hc
 ·
  exact h1 c hc
 ·
  exact h3 c hc

def openEr (f : Int) (b : List Nat) (a : List UInt8) : Er := if f = 0 ∨ f = 1 ∨ f = 3 then (match decEr a 13 19 with | .ok => readEr (turnD f.toNat a (nibN b)) f.toNat | e => e) else .no 1
def openStr (f : Int) (b : List Nat) (a : List UInt8) : List UInt8 := if f = 0 ∨ f = 1 ∨ f = 3 then (match decEr a 13 19 with | .ok => readStr (turnD f.toNat a (nibN b)) f.toNat | _ => []) else []

theorem open_arg (f : Int) (hf : ¬ (f = 0 ∨ f = 1 ∨ f = 3)) (b : List Nat) (a : ByteArray) (w : World) :
    Calls Tryz.prog 19 #[.int .i64 f, .agg (byteCells b), .string a] w fun e w' => (∃ v, e = .returned (.tuple #[.string ⟨#[]⟩, v]) ∧ ErIs w' w.heap.size v (.no 1)) ∧ Below w.heap.size w w' := by
 have HK := Lib.hid (fun W => known_no f hf W)
 clear hf
 go_enter Tryz.func19, Tryz.ntmps19
 go_wp2_with fail
 refine (HK.out _).mono ?_
 rintro e w1 ⟨rfl, rfl⟩
 go_wp2
 go_ret2
 exact ⟨⟨_, rfl, rfl⟩, (Below.refl _ _).alloc (Nat.le_refl _) _⟩
set_option maxHeartbeats 1000000 in
theorem open_bad (f : Nat) (hf : f = 0 ∨ f = 1 ∨ f = 3) (b : List Nat) (a : ByteArray) (ha : a.size ≤ 140737488351232) (er : Er) (he : decEr a.data.toList 13 19 = er) (hne : er ≠ .ok) (w : World) :
    Calls Tryz.prog 19 #[.int .i64 f, .agg (byteCells b), .string a] w fun e w' => (∃ v, e = .returned (.tuple #[.string ⟨#[]⟩, v]) ∧ ErIs w' w.heap.size v er) ∧ Below w.heap.size w w' := by
 have HK := Lib.hid (fun W => known_yes f hf W)
 have HB := Lib.hid (fun W => account_any a ha W)
 rw [he] at HB
 clear hf he
 cases er with
 | ok => exact absurd rfl hne
 | no m =>
  clear hne
  go_enter Tryz.func19, Tryz.ntmps19
  go_wp2_with fail
  refine (HK.out _).mono ?_
  rintro e w1 ⟨rfl, rfl⟩
  go_wp2_with fail
  refine (HB.out _).mono ?_
  rintro e w2 ⟨⟨v, rfl, hv⟩, hb2⟩
  obtain rfl : v = _ := hv
  have hbel := ((Below.refl w.heap.size w).alloc (Nat.le_refl _) (.cells (byteCells b) 23)).trans (hb2.mono (by simp))
  go_wp2
  go_ret2
  exact ⟨⟨_, rfl, rfl⟩, hbel⟩
 | fa q m =>
  clear hne
  go_enter Tryz.func19, Tryz.ntmps19
  go_wp2_with fail
  refine (HK.out _).mono ?_
  rintro e w1 ⟨rfl, rfl⟩
  go_wp2_with fail
  refine (HB.out _).mono ?_
  rintro e w2 ⟨⟨v, rfl, hv⟩, hb2⟩
  have hv2 := hv.more (C := w.heap.size) (by simp)
  have hv' := hv
  obtain ⟨g, rfl, _⟩ := hv'
  have hbel := ((Below.refl w.heap.size w).alloc (Nat.le_refl _) (.cells (byteCells b) 23)).trans (hb2.mono (by simp))
  clear hv
  go_wp2
  go_ret2
  exact ⟨⟨_, rfl, hv2⟩, hbel⟩

theorem law_int : Maps.Keyed Tryz.prog 3 := Maps.int_keyed Tryz.underlying3
set_option maxHeartbeats 2000000 in
set_option maxRecDepth 100000 in
theorem open_ok (f : Nat) (hf : f = 0 ∨ f = 1 ∨ f = 3) (b : List Nat) (hb : b.length = 8) (gb : ∀ c ∈ b, c < 256) (a : ByteArray) (hok : decEr a.data.toList 13 19 = .ok) (w : World) :
    Calls Tryz.prog 19 #[.int .i64 f, .agg (byteCells b), .string a] w fun e w' => (∃ v, e = .returned (.tuple #[.string (str (readStr (turnD f a.data.toList (nibN b)) f)), v]) ∧ ErIs w' w.heap.size v (readEr (turnD f a.data.toList (nibN b)) f)) ∧ Below w.heap.size w w' := by
 obtain ⟨h13, h19, had⟩ := field_ok a hok
 have hal : a.data.toList.length = a.size := by simp
 have HK := Lib.hid (fun W => known_yes f hf W)
 have HB := Lib.hid (fun W => account_any a (by omega) W)
 rw [hok] at HB
 have HT := Lib.hid (fun A cb W hA => turned_any f hf b hb gb A cb a h13 h19 had W hA)
 have hnib := turnC_nib f a.data.toList b (by omega) had hb gb
 have hVl := turnC_len f a.data.toList b
 rw [hb] at hVl
 have hVlt : ∀ c ∈ turnC f a.data.toList b, c < 256 := by
  unfold turnC
  split
  ·
   exact gb
  ·
   exact xorTo_lt b _ gb (unhexL_lt (fieldS_hex _ had)) 8
 have hDl := turnD_len f a.data.toList (nibN b)
 have hDlt := turnD_lt f a.data.toList (nibN b) had (nibN_lt b gb)
 rw [← hnib] at hDl hDlt ⊢
 clear hnib
 generalize turnC f a.data.toList b = V at *
 have HH := Lib.hid (fun A cp W hA => hex_any V hVlt (by omega) A cp W hA)
 have hdef : (⟨(hexL V).toArray⟩ : ByteArray) = str ((nibN V).map hexd) := by rw [hexL_nib]; rfl
 rw [hdef, hVl] at HH
 have HR := Lib.hid (fun W => read_any (nibN V) (by rw [hDl]; exact Nat.le_refl _) (by rw [hDl]; omega) hDlt f (by omega) (fillsS f) (fills_ok f hf) W)
 generalize str ((nibN V).map hexd) = S at *
 generalize readStr (nibN V) f = RS at *
 generalize readEr (nibN V) f = RE at *
 have HVL := Lib.hid hVl; clear hVl hdef hDl hDlt hVlt had
 have HBL := Lib.hid hb; clear hb gb hal hok
 have key0 : keyOf Tryz.prog 3 (.int .i64 0) = some (.int .i64 0) := Maps.keyOf_int_mk Tryz.underlying3 (by decide)
 have key1 : keyOf Tryz.prog 3 (.int .i64 1) = some (.int .i64 1) := Maps.keyOf_int_mk Tryz.underlying3 (by decide)
 have key3 : keyOf Tryz.prog 3 (.int .i64 3) = some (.int .i64 3) := Maps.keyOf_int_mk Tryz.underlying3 (by decide)
 have K0 := Lib.hid key0
 have K1 := Lib.hid key1
 have K3 := Lib.hid key3
 clear key0 key1 key3
 have main : ∀ n : Nat, f = n → n = 0 ∨ n = 1 ∨ n = 3 → Calls Tryz.prog 19 #[.int .i64 n, .agg (byteCells b), .string a] w fun e w' => (∃ v, e = .returned (.tuple #[.string (str RS), v]) ∧ ErIs w' w.heap.size v RE) ∧ Below w.heap.size w w' := by
  clear hf
  intro n hn hf
  rcases hf with rfl | rfl | rfl
  all_goals
   subst hn
   go_enter Tryz.func19, Tryz.ntmps19
   go_wp2_with fail
   refine (HK.out _).mono ?_
   rintro e w1 ⟨rfl, rfl⟩
   go_wp2_with fail
   refine (HB.out _).mono ?_
   rintro e w2 ⟨⟨v, rfl, hv⟩, hb2⟩
   obtain rfl : v = _ := hv
   have hbel2 := ((Below.refl w.heap.size w).alloc (Nat.le_refl _) (.cells (byteCells b) 23)).trans (hb2.mono (by simp))
   have hB2 : Bs w2 w.heap.size 0 b := (Bs.of_blk (l := b) (Blk.new w _ _) (fun j c hj => by rw [Nat.zero_add]; exact hj)).below hb2 (by simp)
   clear hb2
   go_wp2_with fail
   refine (HT.out _ _ _ (fun _ => ⟨_, _, rfl, hB2⟩)).mono ?_
   rintro e w3 ⟨⟨A', cp, rfl, hAV⟩, hb3⟩
   have hbel3 := hbel2.trans (hb3.mono hbel2.size)
   clear hb3
   have hz : ∀ W, (zeroValue 9).run Tryz.prog W = .ok (.string ⟨#[]⟩) W := fun W => Tryz.zeroValue9 W
   have HZ := Lib.hid hz; clear hz
   have hmm := @run_makeMap Tryz.prog
   go_wp2_with (first
    | (refine wpList_insert_own (H := Unit) _ rfl (.tmp 31) (.const (.int .i64 0)) _ 94 rfl 3 9 law_int Tryz.underlying94 (plainElem Tryz.prog 9) w3.heap.size 0 _ rfl (World.ownsMap_made _ _ _ _) (by unfold maxLen; omega) _ _ _ rfl rfl K0.out _ _ (plainElem_string Tryz.underlying9 (by decide)) ?_; intro w4 hm4 hg4)
    | (refine wpList_insert_own (H := Unit) _ rfl (.tmp 31) (.const (.int .i64 1)) _ 94 rfl 3 9 law_int Tryz.underlying94 (plainElem Tryz.prog 9) w3.heap.size 1 _ rfl hm4 (by unfold maxLen; omega) _ _ _ rfl rfl K1.out _ _ (plainElem_string Tryz.underlying9 (by decide)) ?_; intro w5 hm5 hg5)
    | (refine wpList_insert_own (H := Unit) _ rfl (.tmp 31) (.const (.int .i64 3)) _ 94 rfl 3 9 law_int Tryz.underlying94 (plainElem Tryz.prog 9) w3.heap.size 2 _ rfl hm5 (by unfold maxLen; omega) _ _ _ rfl rfl K3.out _ _ (plainElem_string Tryz.underlying9 (by decide)) ?_; intro w6 hm6 hg6)
    | (at_lookup; go_loud (refine wpList_lookup_own_str (H := Unit) _ rfl (.tmp 32) (.tmp 33) 94 rfl 3 9 law_int Tryz.underlying94 Tryz.underlying9 (HZ.out _) w3.heap.size 3 _ rfl hm6 _ _ rfl (by first | exact K0.out | exact K1.out | exact K3.out) _ (by rfl) ?_)))
   have hw4 : Below w3.heap.size w3 w4 := ((Below.refl w3.heap.size w3).alloc (Nat.le_refl _) (.map #[] 0)).grown hg4 (by simp) (fun g hg => by injection hg with hg; omega)
   have hw5 : Below w3.heap.size w3 w5 := hw4.grown hg5 hw4.size (fun g hg => by injection hg with hg; omega)
   have hw6 : Below w3.heap.size w3 w6 := hw5.grown hg6 hw5.size (fun g hg => by injection hg with hg; omega)
   have hbel6 := hbel3.trans (hw6.mono hbel3.size)
   clear hw4 hw5 hg4 hg5 hg6 hm4 hm5 hm6 hmm
   refine (HH.out _ _ _ (hAV.below hw6 (Nat.le_refl _))).mono ?_
   rintro e w7 ⟨rfl, hb7⟩
   have hbel7 := hbel6.trans (hb7.mono hbel6.size)
   clear hb7 hw6
   go_wp2_with fail
   refine (HR.out _).mono ?_
   rintro e w8 ⟨⟨v, rfl, hv⟩, hb8⟩
   go_wp2
   go_ret2
   exact ⟨⟨_, rfl, hv.more hbel7.size⟩, hbel7.trans (hb8.mono hbel7.size)⟩
 exact main f rfl hf

/-- the contract of pin.Open -/
theorem open_any (f : Int) (b : List Nat) (hb : b.length = 8) (gb : ∀ c ∈ b, c < 256) (a : ByteArray) (ha : a.size ≤ 140737488351232) (w : World) :
    Calls Tryz.prog 19 #[.int .i64 f, .agg (byteCells b), .string a] w fun e w' =>
     (∃ v, e = .returned (.tuple #[.string (str (openStr f b a.data.toList)), v]) ∧ ErIs w' w.heap.size v (openEr f b a.data.toList)) ∧ Below w.heap.size w w' := by
 have hse : (⟨#[]⟩ : ByteArray) = str [] := rfl
 by_cases hf : f = 0 ∨ f = 1 ∨ f = 3
 ·
  obtain ⟨n, rfl⟩ : ∃ n : Nat, f = n := ⟨f.toNat, by omega⟩
  have hf' : n = 0 ∨ n = 1 ∨ n = 3 := by omega
  by_cases hok : decEr a.data.toList 13 19 = .ok
  ·
   have e1 : openEr n b a.data.toList = readEr (turnD n a.data.toList (nibN b)) n := by unfold openEr; rw [if_pos hf, hok]; rfl
   have e2 : openStr n b a.data.toList = readStr (turnD n a.data.toList (nibN b)) n := by unfold openStr; rw [if_pos hf, hok]; rfl
   rw [e1, e2]
   exact open_ok n hf' b hb gb a hok w
  ·
   have e1 : openEr n b a.data.toList = decEr a.data.toList 13 19 := by
    unfold openEr; rw [if_pos hf]
    cases h : decEr a.data.toList 13 19 with
    | ok => exact absurd h hok
    | no m => rfl
    | fa q m => rfl
   have e2 : openStr n b a.data.toList = [] := by
    unfold openStr; rw [if_pos hf]
    cases h : decEr a.data.toList 13 19 with
    | ok => exact absurd h hok
    | no m => rfl
    | fa q m => rfl
   rw [e1, e2, ← hse]
   exact open_bad n hf' b a ha _ rfl hok w
 ·
  have e1 : openEr f b a.data.toList = .no 1 := by unfold openEr; rw [if_neg hf]
  have e2 : openStr f b a.data.toList = [] := by unfold openStr; rw [if_neg hf]
  rw [e1, e2, ← hse]
  exact open_arg f hf b a w
end Go.Proofs.YthodpjcdmdbnoaaGreatDoor
