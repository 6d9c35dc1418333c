/- The contracts of package digit. -/
import Derived.Test.YthodpjcdmdbnoaaGreatDoorNStr
import Derived.Test.YthodpjcdmdbnoaaGreatDoorNKit
import Derived.Test.YthodpjcdmdbnoaaGreatDoorNPureAll
namespace Go.Proofs.YthodpjcdmdbnoaaGreatDoor
open Go Go.RowKit Pr

theorem get_list (s : ByteArray) (k : Nat) (h : k < s.size) : s.data.toList[k]'(by simpa using h) = s[k] := rfl

set_option maxHeartbeats 400000 in
theorem first_any (s sm : ByteArray) (hs : s.size ≤ 140737488351232) (w : World) :
    Calls Tryz.prog 48 #[.string s, .string sm] w fun e w' => e = .returned (.int .i64 (badZ (isIn sm.data.toList) s.data.toList)) ∧ w = w' := by
 go_enter Tryz.func48, Tryz.ntmps48
 go_wp2
 go_loop [8] (fun i => ∃ k : Nat, k ≤ s.size ∧ i = .int .i64 k ∧ Hid (∀ j (h : j < k) (h' : j < s.size), isIn sm.data.toList s[j] = true)) (fun i => s.size - (intOf i).toNat)
 case atStart => exact ⟨0, by omega, rfl, fun j h => by omega⟩
 case round =>
  obtain ⟨k, hk, rfl, hall⟩ := hrel
  by_cases hlt : k < s.size
  ·
   have i1 := index_str (P := Tryz.prog) 9 Tryz.underlying9 s k hlt k rfl _ rfl
   obtain ⟨c, hc⟩ : ∃ c, s[k] = c := ⟨_, rfl⟩
   rw [hc] at i1
   have HC := Lib.hid hc; clear hc
   obtain ⟨z, hz⟩ : ∃ z, Lib.indexByte sm.data.toList c = z := ⟨_, rfl⟩
   have hix := fun W => Tryz.strings_IndexByte sm (c.toNat : Int) W
   have hcc : ((c.toNat : Int)).toNat.toUInt8 = c := by simp
   rw [hcc, hz] at hix
   have HIX := Lib.hid hix; clear hix
   have HZ := Lib.hid hz; clear hz
   by_cases hneg : z < 0
   ·
    have hfin : badZ (isIn sm.data.toList) s.data.toList = k := by
     rw [badZ, badAt_some (k := k) (by simpa using hlt) (fun j hj => hall.out j hj (by omega)) (by
      show isIn sm.data.toList s[k] = false
      rw [HC.out, isIn, HZ.out]; simpa using hneg)]
    have HF := Lib.hid hfin; clear hfin
    go_wp2_with (go_at_call 50; refine (HIX.out _).mono ?_; rintro e w' ⟨rfl, rfl⟩)
    go_ret
    exact ⟨retI (by rw [HF.out]), rfl⟩
   ·
    go_wp2_with (go_at_call 50; refine (HIX.out _).mono ?_; rintro e w' ⟨rfl, rfl⟩)
    go_round
    case rel => exact ⟨k + 1, by omega, by go_num, fun j h h' => by
     by_cases e : j = k
     ·
      subst e; rw [HC.out, isIn, HZ.out]; simpa using hneg
     ·
      exact hall.out j (by omega) h'⟩
    case measure => simp [intOf]; omega
  ·
   have hfin : badZ (isIn sm.data.toList) s.data.toList = -1 := by
    rw [badZ, badAt_none fun c hc => by
     obtain ⟨j, hj, rfl⟩ := List.getElem_of_mem hc
     exact hall.out j (by have : j < s.size := by simpa using hj
                          omega) (by simpa using hj)]
   have HF := Lib.hid hfin; clear hfin
   go_wp2
   go_ret
   exact ⟨retI (by rw [HF.out]), rfl⟩

def dig16 : ByteArray := ⟨#[48, 49, 50, 51, 52, 53, 54, 55, 56, 57, 65, 66, 67, 68, 69, 70]⟩
theorem dig16_list : dig16.data.toList = digs := rfl
theorem dig10_list : (dig16.extract 0 10).data.toList = digs.take 10 := by decide +kernel

set_option maxHeartbeats 400000 in
theorem decimal_any (s : ByteArray) (hs : s.size ≤ 140737488351232) (w : World) :
    Calls Tryz.prog 72 #[.string s] w fun e w' => e = .returned (.bool (s.data.toList.all isDec)) ∧ w = w' := by
 have hf := first_any s (dig16.extract 0 10) hs
 have e1 : badZ (isIn (dig16.extract 0 10).data.toList) s.data.toList = badZ isDec s.data.toList := by
  unfold badZ; rw [dig10_list, badAt_congr isIn_dec]
 simp only [e1] at hf
 unfold dig16 at hf
 have HF := Lib.hid hf; clear hf e1
 obtain ⟨z, hz⟩ : ∃ z, badZ isDec s.data.toList = z := ⟨_, rfl⟩
 rw [hz] at HF
 have hfin : s.data.toList.all isDec = decide (z < 0) := by
  rw [← hz, badZ]
  cases hb : badAt isDec s.data.toList with
  | none => simp only [show ((-1 : Int) < 0) = True by simp, decide_true]; exact List.all_eq_true.2 (all_of_badAt hb)
  | some k =>
   have h0 : ¬ ((k : Int) < 0) := by omega
   simp only [h0, decide_false]
   cases ha : s.data.toList.all isDec with
   | false => rfl
   | true => rw [badAt_none (List.all_eq_true.1 ha)] at hb; cases hb
 rw [hfin]
 clear hfin hz
 go_enter Tryz.func72, Tryz.ntmps72
 go_wp2_with (go_at_call 48; refine (HF.out _).mono ?_; rintro e w' ⟨rfl, rfl⟩)
 go_ret
 exact ⟨rfl, rfl⟩

theorem dig16_at : ∀ n < 16, tb dig16 n = (hexd n).toNat := by decide +kernel
theorem dig16_idx (n : Nat) (hn : n < 16) (i : Int) (hi : i = n) (kd : IntKind) (W : World) : (Instr.index 9 (.string ⟨#[48, 49, 50, 51, 52, 53, 54, 55, 56, 57, 65, 66, 67, 68, 69, 70]⟩) (.int kd i)).run Tryz.prog W = .ok (.int .u8 ((hexd n).toNat : Int)) W :=
 index_str (P := Tryz.prog) 9 Tryz.underlying9 dig16 n hn i hi _ (by rw [← dig16_at n hn, tb_of (show n < dig16.size from hn)]; rfl) W kd

set_option maxHeartbeats 1000000 in
theorem hex_any (l : List Nat) (hl : ∀ c ∈ l, c < 256) (hlen : l.length ≤ 35184372088831) (A : Option Addr) (cp : Nat) (w : World) (hA : l ≠ [] → ∃ b o, A = some ⟨b, o, none⟩ ∧ Bs w b o l) :
    Calls Tryz.prog 29 #[.slice A l.length cp] w fun e w' => e = .returned (.string ⟨(hexL l).toArray⟩) ∧ Below w.heap.size w w' := by
 obtain ⟨n, hn⟩ : ∃ n, l.length = n := ⟨_, rfl⟩
 rw [hn] at hlen ⊢
 have HN := Lib.hid hn; clear hn
 have HLT := Lib.hid hl; clear hl
 have HA := Lib.hid hA; clear hA
 go_enter Tryz.func29, Tryz.ntmps29
 go_wp2
 go_loopw [8] (fun i wr => ∃ k : Nat, k ≤ n ∧ i = .int .i64 k ∧ Below w.heap.size w wr ∧ w.heap.size ≤ wr.heap.size ∧ ∃ R, Bld wr w.heap.size R (hexL (l.take k)) ∧ Hid (∀ g, R = some g → w.heap.size ≤ g)) (fun i _ => n - (intOf i).toNat)
 case atStart =>
  exact ⟨0, by omega, rfl, (Below.refl _ _).alloc (Nat.le_refl _) _, by simp, none, ⟨.pointer none, .slice none 0 0, .inl rfl, heap_alloc_new _ _, ⟨by rfl, .inl ⟨rfl, rfl⟩⟩, rfl, by simp, fun _ => rfl⟩, fun g h => by cases h⟩
 case round =>
  obtain ⟨k, hk, rfl, hbel, hsz, R, hR, hRg⟩ := hrel
  by_cases hlt : k < n
  ·
   have hkl : k < l.length := by rw [HN.out]; exact hlt
   obtain ⟨b, o, rfl, hBs⟩ := HA.out (by intro h; rw [h] at hkl; cases hkl)
   have hblt := hBs.lt (by intro h; rw [h] at hkl; cases hkl)
   have hcell : wr.cell? ⟨b, o + k, none⟩ = some (.int .u8 (l[k] : Nat)) := (hBs.below hbel hblt).cell k hkl
   have hc := HLT.out l[k] (List.getElem_mem _)
   have hstep : hexL (l.take (k + 1)) = hexL (l.take k) ++ [hexd (l[k] / 16)] ++ [hexd (l[k] % 16)] := by rw [List.take_succ_eq_append_getElem hkl, hexL_snoc]
   have hhl : (hexL (l.take k)).length ≤ 2 * n := by rw [hexL_len, List.length_take]; omega
   generalize l[k] = c at *
   have HST := Lib.hid hstep; clear hstep
   obtain ⟨hs, hhs⟩ : ∃ hs, hexL (l.take k) = hs := ⟨_, rfl⟩
   rw [hhs] at hhl hR HST
   clear hhs
   have hR := Lib.hid hR
   have hbel := Lib.hid hbel
   obtain ⟨hi, hhi⟩ : ∃ hi, c / 16 = hi := ⟨_, rfl⟩
   obtain ⟨lo, hlo⟩ : ∃ lo, c % 16 = lo := ⟨_, rfl⟩
   have hi1 := dig16_idx hi (by omega) ((c : Int) / 16) (by omega) .u8
   have hi2 := dig16_idx lo (by omega) ((c : Int) % 16) (by omega) .u8
   rw [hhi, hlo] at HST
   have HHI := Lib.hid hhi; clear hhi
   have HLO := Lib.hid hlo; clear hlo
   obtain ⟨dh, hdh⟩ : ∃ d, hexd hi = d := ⟨_, rfl⟩
   obtain ⟨dl, hdl⟩ : ∃ d, hexd lo = d := ⟨_, rfl⟩
   rw [hdh] at hi1 HST
   rw [hdl] at hi2 HST
   clear hdh hdl HHI HLO
   go_wp2_with fail
   refine (writeByte_any _ _ _ dh _ rfl _ hR.out (by omega)).mono ?_
   rintro e w1 ⟨rfl, R1, hR1, hRR1, hC1⟩
   go_wp2_with fail
   refine (writeByte_any _ _ _ dl _ rfl _ hR1 (by simp; omega)).mono ?_
   rintro e w2 ⟨rfl, R2, hR2, hRR2, hC2⟩
   have hb1 := hC1.below hbel.out (Nat.le_refl _) (Nat.le_refl _) hRg.out
   have hRg1 : ∀ g, R1 = some g → w.heap.size ≤ g := fun g hg => by
    rcases hRR1 with h | ⟨g', h, h'⟩
    ·
     exact hRg.out g (by rw [← h]; exact hg)
    ·
     rw [h] at hg; injection hg with hg; omega
   have hRg2 : ∀ g, R2 = some g → w.heap.size ≤ g := fun g hg => by
    rcases hRR2 with h | ⟨g', h, h'⟩
    ·
     exact hRg1 g (by rw [← h]; exact hg)
    ·
     rw [h] at hg; injection hg with hg; have := hC1.size; omega
   have hb2 := hC2.below hb1 (Nat.le_refl _) (Nat.le_refl _) hRg1
   have hs2 : w.heap.size ≤ w2.heap.size := by have := hC1.size; have := hC2.size; omega
   go_wp2
   go_roundw
   case rel => exact ⟨k + 1, by omega, by go_num, hb2, hs2, R2, by rw [HST.out]; exact hR2, hRg2⟩
   case measure => simp [intOf]; omega
  ·
   have hfin : l.take k = l := List.take_of_length_le (by rw [HN.out]; omega)
   rw [hfin] at hR
   clear hfin
   go_wp2_with fail
   refine (bldString_any _ _ _ _ hR).mono ?_
   rintro e w1 ⟨rfl, hC, _⟩
   have hb1 := hC.below hbel (Nat.le_refl _) (Nat.le_refl _) hRg.out
   go_wp2
   go_ret
   exact ⟨rfl, hb1⟩
end Go.Proofs.YthodpjcdmdbnoaaGreatDoor
