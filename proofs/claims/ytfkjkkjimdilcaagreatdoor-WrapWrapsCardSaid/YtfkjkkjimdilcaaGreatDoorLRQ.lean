/- The contracts of wrap.Fill, lockboxref11.Fill, Fits: of whatever number. The contract of lockboxref11.Wrap, where all is right. -/
import Derived.Test.YtfkjkkjimdilcaaGreatDoorLCK
import Derived.Test.YtfkjkkjimdilcaaGreatDoorLRefH
import Derived.Test.YtfkjkkjimdilcaaGreatDoorLWrapDE
import Derived.Test.YtfkjkkjimdilcaaGreatDoorLHeadM
/- The contracts of wrap.Fill, lockboxref11.Fill, Fits: of whatever number. -/
namespace Go.Proofs.YtfkjkkjimdilcaaGreatDoor
open Go Go.RowKit Pr

set_option maxHeartbeats 1000000 in
theorem fill_all (h : Hd) (n : Int) (w : World) :
    Calls Tryz.prog 13 #[.agg h.cells, .int .i64 n] w fun e w' => e = .returned (.int .i64 (fillW h.ver.toNat n)) ∧ Below w.heap.size w w' := by
 have HK := Lib.hid (fun W => kindOf_any h.ver.toNat W)
 have HS := Lib.hid (fun W => sizeOf_any h.ver.toNat W)
 have hb0 : Below w.heap.size w (w.alloc (.cells h.cells 24)) := (Below.refl _ _).alloc (Nat.le_refl _) _
 have hc : (w.alloc (.cells h.cells 24)).cell? ⟨w.heap.size, 0, none⟩ = some (.int .u8 (h.ver.toNat : Int)) := (Blk.new w 24 h.cells).cell 0
 have hF : fillW h.ver.toNat n = (if kindV h.ver.toNat = 0 ∨ n < 0 then (0 : Int) else ((sizeN (kindV h.ver.toNat) - (n.toNat % sizeN (kindV h.ver.toNat) + 2) % sizeN (kindV h.ver.toNat)) % sizeN (kindV h.ver.toNat) : Nat) : Int) := rfl
 generalize fillW h.ver.toNat n = R at *
 have hsz : sizeN (kindV h.ver.toNat) = 8 ∨ sizeN (kindV h.ver.toNat) = 16 := by unfold sizeN; split <;> omega
 generalize sizeN (kindV h.ver.toNat) = z at *
 generalize kindV h.ver.toNat = kd at *
 generalize h.ver.toNat = v at *
 generalize h.cells = cs at *
 by_cases hk : kd = 0
 ·
  rw [if_pos (.inl hk)] at hF
  subst hF
  have t1 : (kd != 0) = false := by rw [bne_eq_false_iff_eq]; exact hk
  rw [t1] at HK
  clear hk t1
  go_enter Tryz.func13, Tryz.ntmps13
  go_wp2_with fail
  refine (HK.out _).mono ?_
  rintro e w1 ⟨rfl, rfl⟩
  go_wp2
  go_ret
  exact ⟨rfl, hb0⟩
 ·
  have t1 : (kd != 0) = true := by rw [bne_iff_ne]; exact hk
  rw [t1] at HK
  by_cases hneg : n < 0
  ·
   rw [if_pos (.inr hneg)] at hF
   subst hF
   clear hk t1
   go_enter Tryz.func13, Tryz.ntmps13
   go_wp2_with fail
   refine (HK.out _).mono ?_
   rintro e w1 ⟨rfl, rfl⟩
   go_wp2
   go_ret
   exact ⟨rfl, hb0⟩
  ·
   rw [if_neg (by omega)] at hF
   obtain ⟨m, rfl⟩ : ∃ m : Nat, n = m := ⟨n.toNat, by omega⟩
   rw [Int.toNat_natCast] at hF
   obtain ⟨a, ha⟩ : ∃ a, m % z = a := ⟨_, rfl⟩
   obtain ⟨b, hb⟩ : ∃ b, (a + 2) % z = b := ⟨_, rfl⟩
   obtain ⟨r, hr⟩ : ∃ r, (z - b) % z = r := ⟨_, rfl⟩
   rw [ha, hb, hr] at hF
   have e1 : (m : Int) % (z : Int) = (a : Int) := by rcases hsz with rfl | rfl <;> omega
   have e2 : ((a : Int) + 2) % (z : Int) = (b : Int) := by rcases hsz with rfl | rfl <;> omega
   have e3 : ((z : Int) - (b : Int)) % (z : Int) = (r : Int) := by rcases hsz with rfl | rfl <;> omega
   have hz8 : 8 ≤ z := by omega
   have hz16 : z ≤ 16 := by omega
   have ha2 : a < z := by rw [← ha]; exact Nat.mod_lt _ (by omega)
   have hb2 : b < z := by rw [← hb]; exact Nat.mod_lt _ (by omega)
   have e4 : IntKind.i64.wrap ((a : Int) + 2) = (a : Int) + 2 := IntWalk.i64_in _ (by omega)
   have e5 : IntKind.i64.wrap ((z : Int) - (b : Int)) = (z : Int) - (b : Int) := IntWalk.i64_in _ (by omega)
   subst hF
   clear hk t1 ha hb hr hneg hsz
   go_enter Tryz.func13, Tryz.ntmps13
   go_wp2_with fail
   refine (HK.out _).mono ?_
   rintro e w1 ⟨rfl, rfl⟩
   go_wp2_with fail
   refine (HS.out _).mono ?_
   rintro e w1 ⟨rfl, rfl⟩
   go_wp2
   go_ret
   exact ⟨by show Ending.returned (.int .i64 (((z : Int) - (b : Int)) % (z : Int))) = _; rw [e3], hb0⟩


theorem fillR_step (a z k : Nat) (hz : z = 8 ∨ z = 16) (hk : k ≤ (z - (a + 2) % z) % z) (h : (a + 2 + k) % z ≠ 0) : k + 1 ≤ (z - (a + 2) % z) % z := by
 rcases hz with rfl | rfl <;> omega
theorem fillR_end (a z k : Nat) (hz : z = 8 ∨ z = 16) (hk : k ≤ (z - (a + 2) % z) % z) (h : (a + 2 + k) % z = 0) : k = (z - (a + 2) % z) % z := by
 rcases hz with rfl | rfl <;> omega
set_option maxHeartbeats 1000000 in
theorem refFill_any (v : Nat) (n : Int) (w : World) :
    Calls Tryz.prog 21 #[.int .u8 v, .int .i64 n] w fun e w' => e = .returned (.int .i64 (fillW v n)) ∧ w = w' := by
 have HK := Lib.hid (fun W => refKind_any v W)
 have hF : fillW v n = (if kindV v = 0 ∨ n < 0 then (0 : Int) else ((sizeN (kindV v) - (n.toNat % sizeN (kindV v) + 2) % sizeN (kindV v)) % sizeN (kindV v) : Nat) : Int) := rfl
 generalize fillW v n = R at *
 have hc := kindV_cases v
 have HS := Lib.hid (fun h W => refSize_any (kindV v) h W)
 have hsz : sizeN (kindV v) = 8 ∨ sizeN (kindV v) = 16 := by unfold sizeN; split <;> omega
 generalize sizeN (kindV v) = z at *
 generalize kindV v = kd at *
 by_cases hk : kd = 0
 ·
  rw [if_pos (.inl hk)] at hF
  subst hF
  have t1 : ((kd : Int) == 0) = true := by rw [beq_iff_eq]; omega
  clear hk hc HS hsz
  go_enter Tryz.func21, Tryz.ntmps21
  go_wp2_with fail
  refine (HK.out _).mono ?_
  rintro e w1 ⟨rfl, rfl⟩
  go_wp2
  go_ret
  exact ⟨rfl, rfl⟩
 ·
  have t1 : ((kd : Int) == 0) = false := by rw [beq_eq_false_iff_ne]; omega
  by_cases hneg : n < 0
  ·
   rw [if_pos (.inr hneg)] at hF
   subst hF
   clear hk hc HS hsz
   go_enter Tryz.func21, Tryz.ntmps21
   go_wp2_with fail
   refine (HK.out _).mono ?_
   rintro e w1 ⟨rfl, rfl⟩
   go_wp2
   go_ret
   exact ⟨rfl, rfl⟩
  ·
   rw [if_neg (by omega)] at hF
   obtain ⟨m, rfl⟩ : ∃ m : Nat, n = m := ⟨n.toNat, by omega⟩
   rw [Int.toNat_natCast] at hF
   have HS2 := Lib.hid (fun W => HS.out (by omega) W)
   obtain ⟨a, ha⟩ : ∃ a, m % z = a := ⟨_, rfl⟩
   rw [ha] at hF
   have hstep := fun k hk h => fillR_step a z k hsz hk h
   have hend := fun k hk h => fillR_end a z k hsz hk h
   obtain ⟨r, hr⟩ : ∃ r, (z - (a + 2) % z) % z = r := ⟨_, rfl⟩
   rw [hr] at hF hstep hend
   have hr16 : r < 16 := by rcases hsz with rfl | rfl <;> omega
   have e1 : (m : Int) % (z : Int) = (a : Int) := by rcases hsz with rfl | rfl <;> omega
   have hz8 : 8 ≤ z := by omega
   have hz16 : z ≤ 16 := by omega
   have ha2 : a < z := by rw [← ha]; exact Nat.mod_lt _ (by omega)
   subst hF
   have HST := Lib.hid hstep; clear hstep
   have HEN := Lib.hid hend; clear hend
   clear hk ha hr hneg hsz hc HS
   go_enter Tryz.func21, Tryz.ntmps21
   go_wp2_with fail
   refine (HK.out _).mono ?_
   rintro e w1 ⟨rfl, rfl⟩
   go_wp2_with fail
   refine (HK.out _).mono ?_
   rintro e w1 ⟨rfl, rfl⟩
   go_wp2_with fail
   refine (HS2.out _).mono ?_
   rintro e w1 ⟨rfl, rfl⟩
   go_wp2
   go_loop [6] (fun i => ∃ k : Nat, k ≤ r ∧ i = .int .i64 k) (fun i => 100 - (intOf i).toNat)
   case atStart => exact ⟨0, by omega, rfl⟩
   case round =>
    obtain ⟨k, hk, rfl⟩ := hrel
    by_cases hm : (a + 2 + k) % z = 0
    ·
     have hkr := HEN.out k hk hm
     have t2 : (((a : Int) + 2 + (k : Int)) % (z : Int) != 0) = false := by
      have e : ((a : Int) + 2 + (k : Int)) % (z : Int) = (((a + 2 + k) % z : Nat) : Int) := by simp
      rw [bne_eq_false_iff_eq, e, hm]; rfl
     clear hm
     subst hkr
     go_wp2
     go_ret
     exact ⟨rfl, rfl⟩
    ·
     have hkr := HST.out k hk hm
     have t2 : (((a : Int) + 2 + (k : Int)) % (z : Int) != 0) = true := by
      have e : ((a : Int) + 2 + (k : Int)) % (z : Int) = (((a + 2 + k) % z : Nat) : Int) := by simp
      rw [bne_iff_ne, e]; omega
     clear hm
     go_wp2
     go_round
     case rel => exact ⟨k + 1, by omega, by go_num⟩
     case measure => simp [intOf]; omega
theorem refFits_any (alg n : Nat) (w : World) :
    Calls Tryz.prog 24 #[.int .u8 alg, .int .i64 n] w fun e w' => e = .returned (.bool (fitsW alg n)) ∧ w = w' := by
 have hf : fitsW alg n = ((n == 16 || n == 24) || (n == 32 && alg == 65)) := rfl
 rw [hf]
 have e1 : (n == 16) = ((n : Int) == 16) := by rw [Bool.eq_iff_iff, beq_iff_eq, beq_iff_eq]; omega
 have e2 : (n == 24) = ((n : Int) == 24) := by rw [Bool.eq_iff_iff, beq_iff_eq, beq_iff_eq]; omega
 have e3 : (n == 32) = ((n : Int) == 32) := by rw [Bool.eq_iff_iff, beq_iff_eq, beq_iff_eq]; omega
 have e4 : (alg == 65) = ((alg : Int) == 65) := by rw [Bool.eq_iff_iff, beq_iff_eq, beq_iff_eq]; omega
 rw [e1, e2, e3, e4]
 clear hf e1 e2 e3 e4
 cases h1 : ((n : Int) == 16) <;> cases h2 : ((n : Int) == 24) <;> cases h3 : ((n : Int) == 32) <;> cases h4 : ((alg : Int) == 65)
 all_goals
  go_enter Tryz.func24, Tryz.ntmps24
  go_wp2
  go_ret
  exact ⟨rfl, rfl⟩
end Go.Proofs.YtfkjkkjimdilcaaGreatDoor

/- The contract of lockboxref11.Wrap, where all is right. -/
namespace Go.Proofs.YtfkjkkjimdilcaaGreatDoor
open Go Go.RowKit Pr

set_option maxHeartbeats 8000000 in
set_option maxRecDepth 100000 in
theorem refWrap_ok (h : Hd) (hr : rightEr h = .ok) (wk : List Nat) (n : Nat) (hk : KeyOk (kindV h.ver.toNat) wk) (hn : wk.length = n) (key fill : List Nat) (kl fl : Nat) (hkl : key.length = kl) (hfl : fill.length = fl) (gk : Byt key) (gf : Byt fill)
    (hfits : fitsW h.alg.toNat kl = true) (hfill : fillW h.ver.toNat (kl : Int) = (fl : Int)) (hf0 : 0 < fl) (A0 A1 A2 : Option Addr) (c0 c1 c2 : Nat) (hc0 : n ≤ c0) (w : World) (hA0 : At w A0 wk) (hA1 : At w A1 key) (hA2 : At w A2 fill) :
    Calls Tryz.prog 25 #[.slice A0 n c0, .agg h.cells, .slice A1 kl c1, .slice A2 fl c2] w fun e w' => e = .returned (.string (str (wrapS h wk key fill))) ∧ Below w.heap.size w w' := by
 obtain ⟨-, -, -, -, hu2, hs2⟩ := right_ok hr
 have hkl3 := fits_len hfits
 have hkd := hk.kind
 have hfm := fill_mod (by omega) hfill
 have hz16 := size_le (kindV h.ver.toNat)
 have hz0 := size_pos (kindV h.ver.toNat)
 have hn32 := hk.pos
 rw [hn] at hn32
 have hTl := textW_len key fill
 rw [hkl, hfl] at hTl
 have hTb := textW_byt gk gf (by omega)
 have hTe : textW key fill = [8 * kl / 256, 8 * kl % 256] ++ key ++ fill := by unfold textW; rw [hkl]
 have k0 := madeN_key hk (p := 0) (by omega)
 have k1 := madeN_key hk (p := 1) (by omega)
 have hl0 := (madeN_ok hk (p := 0) (by omega)).1
 have hl1 := (madeN_ok hk (p := 1) (by omega)).1
 rw [hn] at hl0 hl1
 have HKY := Lib.hid (fun W hA => refKeys_ok h.ver.toNat (kindV h.ver.toNat) rfl wk hk n hn A0 c0 hc0 W hA)
 have HKI := Lib.hid (fun W => refKind_any h.ver.toNat W)
 have HSO := Lib.hid (fun W => refSize_any (kindV h.ver.toNat) (by omega) W)
 obtain ⟨N, hN⟩ : ∃ N, lenW (kindV h.ver.toNat) (textW key fill).length = N := ⟨_, rfl⟩
 have hN2 : 16 + 2 * (2 + kl + fl) + 2 * sizeN (kindV h.ver.toNat) = N := by rw [← hN, hTl]; rfl
 have HPR := Lib.hid (fun W => refPrint_ok h hr N (by omega) (by omega) W)
 have hPl := printL_size h hu2 hs2 N
 have hcw : codeW h wk key fill = cmacN (kindV h.ver.toNat) (madeN (kindV h.ver.toNat) wk 1) (sN (str (printL h N)) ++ textW key fill) := by unfold codeW; rw [hN]
 have hew : encW h wk key fill = chN (kindV h.ver.toNat) (madeN (kindV h.ver.toNat) wk 0) (codeW h wk key fill) (textW key fill) false := rfl
 have hws : wrapS h wk key fill = printL h N ++ hexL (encW h wk key fill) ++ hexL (codeW h wk key fill) := by unfold wrapS; rw [hN]
 have hPS : (str (printL h N)).size = 16 := by rw [str_size, hPl]
 have hml : (sN (str (printL h N)) ++ textW key fill).length = (str (printL h N)).size + (2 + kl + fl) := by rw [List.length_append, sN_len, hTl]
 have hmb : Byt (sN (str (printL h N)) ++ textW key fill) := fun c hc => by
  rcases List.mem_append.1 hc with hc | hc
  ·
   exact sN_lt _ c hc
  ·
   exact hTb c hc
 have HCM := Lib.hid (fun cb (hcb : n ≤ cb) B A ct W hC hT => refCmac_any (kindV h.ver.toNat) (madeN (kindV h.ver.toNat) wk 1) k1 n cb hl1 hcb B none none 0 0 0 0 (sN (str (printL h N)) ++ textW key fill) _ hml (by omega) (by omega) hmb A ct W hC hT)
 have hco := cmacN_ok (kind := kindV h.ver.toNat) k1.1 hmb
 rw [← hcw] at HCM hco
 have HCH := Lib.hid (fun ca (hca : n ≤ ca) A S T cS ct hct W hA hS hT => refChE_any (kindV h.ver.toNat) (by omega) (madeN (kindV h.ver.toNat) wk 0) k0.1 n ca A #[.slice none 0 0, .slice none 0 0] ⟨none, none, 0, 0, 0, 0, rfl⟩ (doOk_enc k0 n ca hl0 hca A none none 0 0 0 0) (codeW h wk key fill) hco.1 hco.2 (textW key fill) (2 + kl + fl) hTl (by omega) hfm.1 (by omega) hTb S T cS ct hct W hA hS hT)
 have hxo := chN_ok (kind := kindV h.ver.toNat) k0.1 hco.1 hco.2 hTb (by rw [hTl]; exact hfm.1) false
 rw [← hew] at HCH hxo
 rw [hws]
 generalize codeW h wk key fill = CW at *
 generalize encW h wk key fill = EW at *
 have hHX := Lib.hid (fun A cp W hA => hexR_any EW hxo.2 (by rw [hxo.1, hTl]; omega) A cp W hA)
 have hHC := Lib.hid (fun A cp W hA => hexR_any CW hco.2 (by rw [hco.1]; omega) A cp W hA)
 have hel := hxo.1
 rw [hTl] at hel
 have hcl := hco.1
 rw [hel] at hHX
 rw [hcl] at hHC
 generalize madeN (kindV h.ver.toNat) wk 0 = R0 at *
 generalize madeN (kindV h.ver.toNat) wk 1 = R1 at *
 obtain ⟨PS, hPSe⟩ : ∃ PS, str (printL h N) = PS := ⟨_, rfl⟩
 have hfin : str (printL h N ++ hexL EW ++ hexL CW) = PS ++ str (hexL EW) ++ str (hexL CW) := by rw [← hPSe, str_add, str_add]
 rw [hPSe] at HPR hPS hml HCM
 rw [hfin]
 have hS1 : (str (hexL EW)).size ≤ 200 := by rw [str_size, hexL_len, hel]; omega
 have hS2 : (str (hexL CW)).size ≤ 200 := by rw [str_size, hexL_len, hcl]; omega
 clear hfin
 generalize str (hexL EW) = S1 at *
 generalize str (hexL CW) = S2 at *
 have hPSl : PS.size ≤ 16 := by rw [hPS]; exact Nat.le_refl _
 generalize textW key fill = TX at *
 generalize sizeN (kindV h.ver.toNat) = z at *
 generalize kindV h.ver.toNat = kind at *
 obtain ⟨T, hTT⟩ : ∃ T, 2 + kl + fl = T := ⟨_, rfl⟩
 rw [hTT] at HCH hHX hml HCM hTl hel
 have hT2 : 2 + kl + fl ≤ T := by omega
 have hT3 : T ≤ 2 + kl + fl := by omega
 have eN : (16 + 2 * (T : Int) + 2 * (z : Int)) = (N : Int) := by omega
 have HEN := Lib.hid eN; clear eN hTT
 have hsz6 : h.cells.size = 6 := rfl
 have hcv : ∀ W, Blk W w.heap.size 24 h.cells → W.cell? ⟨w.heap.size, 0, none⟩ = some (.int .u8 (h.ver.toNat : Int)) := fun W hW => hW.cell 0
 generalize h.cells = cs at *
 generalize h.ver.toNat = v at *
 generalize h.alg.toNat = al at *
 have HA0 := Lib.hid (fun W (hb : Below w.heap.size w W) => hA0.below hb (Nat.le_refl _))
 have HA1 := Lib.hid (fun W (hb : Below w.heap.size w W) => hA1.below hb (Nat.le_refl _))
 have HA2 := Lib.hid (fun W (hb : Below w.heap.size w W) => hA2.below hb (Nat.le_refl _))
 have HCV := Lib.hid hcv
 have HS6 := Lib.hid hsz6
 have HTE := Lib.hid hTe
 have HTB := Lib.hid hTb
 have HKL := Lib.hid hkl
 have HFLL := Lib.hid hfl
 have HTL := Lib.hid hTl
 have HEL := Lib.hid hel
 have HCL := Lib.hid hcl
 have HPS := Lib.hid hPS
 have HML := Lib.hid hml
 have HN2 := Lib.hid hN2
 have HR0 := Lib.hid hl0
 have HR1 := Lib.hid hl1
 have hN9 : N ≤ 9999 := by omega
 have hfl16 : fl ≤ 16 := by omega
 have hkl32 : kl ≤ 32 := by omega
 have hkl16 : 16 ≤ kl := by omega
 clear hA0 hA1 hA2 hcv hsz6 hTe hTb hkl hfl hTl hel hcl hPS hml hN2 hws hew hcw hxo hco k0 k1 hk hn hfits hfill hN hPl hPSe hr hfm hmb gk gf hu2 hs2 hkl3 hkd hl0 hl1
 go_enter Tryz.func25, Tryz.ntmps25
 have hBa := Blk.new w 24 cs
 have hba := (Below.refl w.heap.size w).alloc (Nat.le_refl _) (.cells cs 24)
 have hca := HCV.out _ hBa
 have HBa := Lib.hid hBa; clear hBa
 have HBA := Lib.hid hba; clear hba
 go_wp2_with fail
 refine (HKY.out _ (HA0.out _ HBA.out)).mono ?_
 rintro e w1 ⟨⟨va, vb, rfl, hva, hvb⟩, hb1⟩
 have hs0 : w.heap.size ≤ (w.alloc (.cells cs 24)).heap.size := HBA.out.size
 have hB1 := HBa.out.below hb1 HBa.out.lt
 have hbel1 := HBA.out.trans (hb1.mono hs0)
 obtain ⟨ga, cA, rfl, hAa, hcapa, -⟩ := hva.at_ HR0.out (by omega)
 obtain ⟨gb, cB, rfl, hAb, hcapb, -⟩ := hvb.at_ HR1.out (by omega)
 have hcell1 := HCV.out _ hB1
 clear hva hvb hb1 HBa HBA hca hs0
 go_wp2_with fail
 refine (HKI.out _).mono ?_
 rintro e w2 ⟨rfl, rfl⟩
 go_wp2_with fail
 refine (HSO.out _).mono ?_
 rintro e w2 ⟨rfl, rfl⟩
 obtain ⟨N8, hN8⟩ : ∃ N8, 8 * kl = N8 := ⟨_, rfl⟩
 obtain ⟨hb, hhb⟩ : ∃ hb, N8 / 256 = hb := ⟨_, rfl⟩
 obtain ⟨lb, hlb⟩ : ∃ lb, N8 % 256 = lb := ⟨_, rfl⟩
 have e8 : (kl : Int) * 8 = (N8 : Int) := by omega
 have e9 : (N8 : Int) / 256 = (hb : Int) := by omega
 have e10 : (N8 : Int) % 256 = (lb : Int) := by omega
 have hN256 : N8 ≤ 256 := by omega
 have hhb1 : hb ≤ 1 := by omega
 have hTX : ([hb, lb] ++ key) ++ fill = TX := by rw [HTE.out, hN8, hhb, hlb]
 have HTX := Lib.hid hTX
 clear hTX hN8 hhb hlb HTE
 obtain ⟨w3, rfl⟩ : ∃ w3, w3 = w1 := ⟨_, rfl⟩
 have hbA := (Below.refl w3.heap.size w3).alloc (Nat.le_refl _) (.cells #[.int .u8 (hb : Int), .int .u8 (lb : Int)] 5)
 have hBlA : Blk (w3.alloc (.cells #[.int .u8 (hb : Int), .int .u8 (lb : Int)] 5)) w3.heap.size 5 (byteCells [hb, lb]) := Blk.new w3 _ _
 have hownA : OwnN 5 .u8 (w3.alloc (.cells #[.int .u8 (hb : Int), .int .u8 (lb : Int)] 5)) w3.heap.size (.slice (some ⟨w3.heap.size, 0, none⟩) 2 2) [hb, lb] := Own.ofBlk hBlA (Nat.le_refl _) rfl (by omega)
 have hAk := (HA1.out _ (hbel1.trans (hbA.mono hbel1.size))) (ne_nil HKL.out (by omega))
 have HAk := Lib.hid hAk
 have hsA : w3.heap.size ≤ (w3.alloc (.cells #[.int .u8 (hb : Int), .int .u8 (lb : Int)] 5)).heap.size := by simp
 have hl1 : ([hb, lb] : List Nat).length + kl ≤ 1000000000 := by show 2 + kl ≤ _; omega
 have hl2 : ([hb, lb] ++ key).length + fl ≤ 1000000000 := by rw [List.length_append, HKL.out]; show 2 + kl + fl ≤ _; omega
 clear hAk hBlA
 go_wp2_with (first
  | (at_builtin; refine wpList_append_nums rfl (.tmp 45) (.tmp 46) 22 rfl .u8 5 1 Tryz.underlying22 info_byte w3.heap.size w3 _ [hb, lb] rfl hownA hbA hsA _ kl c1 key rfl HKL.out HAk.out hl1 (by omega) ?_; intro v4 w4 hown4 hbel4 hsz4)
  | (at_builtin; refine wpList_append_nums rfl (.tmp 48) (.tmp 49) 22 rfl .u8 5 1 Tryz.underlying22 info_byte w3.heap.size w3 _ ([hb, lb] ++ key) rfl hown4 hbel4 hbel4.size _ fl c2 fill rfl HFLL.out ((HA2.out _ (hbel1.trans (hbel4.mono hbel1.size))) (ne_nil HFLL.out hf0)) hl2 (by omega) ?_; intro v5 w5 hown5 hbel5 hsz5; rw [HTX.out] at hown5; (obtain ⟨g5, cap5, rfl, hAt5, hcap5, hg5⟩ := Own.at_ (OwnN.bytes hown5) HTL.out (by omega)); have hB5 := hB1.below hbel5 hB1.lt)
  | (refine wpList_load_row rfl 24 (.tmp 5) rfl w.heap.size rfl 24 cs (0,0) _ hB5 Tryz.underlying24 rfl (by rw [info_head, HS6.out]) ?_))
 rw [HEN.out]
 have hbel5w := hbel1.trans (hbel5.mono hbel1.size)
 have hAa5 := hAa.below hbel5 (Nat.le_refl _)
 have hAb5 := hAb.below hbel5 (Nat.le_refl _)
 have hs5 := hbel5w.size
 clear hown5 hown4 hbel4 hbel5 hsz4 hsz5 hownA hbA hB1 hbel1 hAa hAb HAk hcell1 e8 e9 e10 hsA hl1 hl2
 refine (HPR.out _).mono ?_
 rintro e w6 ⟨rfl, hb6⟩
 have hbelw6 := hbel5w.trans (hb6.mono hs5)
 have hAt6 := hAt5.below hb6 (Nat.le_refl _)
 have hAa6 := hAa5.below hb6 (Nat.le_refl _)
 have hAb6 := hAb5.below hb6 (Nat.le_refl _)
 have HAt6 := Lib.hid hAt6
 have hs6 := hbelw6.size
 clear hB5 hb6 hbel5w hAt5 hAa5 hAb5 hAt6
 have hTX0 := ne_nil HTL.out (by omega)
 have hmx : PS.size + T ≤ 1000000000 := by rw [HPS.out]; omega
 go_wp2_with (first
  | (refine wpList_to_room rfl 9 22 5 (.tmp 64) rfl PS rfl Tryz.underlying9 Tryz.underlying22 Tryz.underlying5 ?_; intro cap7 w7 hb7 hR7)
  | (at_builtin; refine wpList_append_conv rfl (.tmp 65) (.tmp 66) 22 rfl 5 1 Tryz.underlying22 info_byte (by omega) w6.heap.size w6.heap.size PS.size cap7 (sN PS) rfl hR7 hb7.size _ T cap5 TX rfl HTL.out ((HAt6.out.below hb7 (Nat.le_refl _)) hTX0) hmx ?_; intro g8 cap8 w8 hg8 hB8 hb8))
 have hb68 := hb7.trans hb8
 have hAt8 := HAt6.out.below hb68 (Nat.le_refl _)
 have hAa8 := hAa6.below hb68 (Nat.le_refl _)
 have hAb8 := hAb6.below hb68 (Nat.le_refl _)
 have hbelw8 := hbelw6.trans (hb68.mono hs6)
 have hs8 := hbelw8.size
 clear HAt6 hAa6 hAb6 hb7 hb8 hb68 hR7 hbelw6
 refine (HCM.out _ hcapb _ _ _ _ hAb8 (fun _ => ⟨_, _, rfl, hB8⟩)).mono ?_
 rintro e w9 ⟨⟨g9, o9, c9, rfl, hg9, hB9⟩, hb9⟩
 have hAt9 := hAt8.below hb9 (Nat.le_refl _)
 have hAa9 := hAa8.below hb9 (Nat.le_refl _)
 have hbelw9 := hbelw8.trans (hb9.mono hs8)
 have hgl9 := hB9.lt (ne_nil HCL.out hz0)
 have hs9 := hbelw9.size
 clear hAt8 hAa8 hAb8 hb9 hbelw8 hB8
 have hbA2 := (Below.refl w9.heap.size w9).alloc (Nat.le_refl _) (.cells #[.slice none 0 0, .slice none 0 0] 85)
 go_wp2_with (refine wpList_store_all rfl 85 (.tmp 16) (.tmp 69) rfl w9.heap.size #[.slice none 0 0, .slice none 0 0] rfl rfl 85 #[.slice none 0 0, .slice none 0 0] (Blk.new w9 _ _) (by rw [info_book]; rfl) rfl (by simp [Value.oneCell']) ?_; intro w10 hB10 hO10; have hb10 := hO10.below hbA2 (Nat.le_refl _); have hAt10 := hAt9.below hb10 (Nat.le_refl _); have hAa10 := hAa9.below hb10 (Nat.le_refl _); have hB910 := hB9.below hb10 hgl9; have hbelw10 := hbelw9.trans (hb10.mono hs9); clear hB10 hO10 hb10 hAt9 hAa9 hB9 hbelw9)
 refine (HCH.out _ hcapa _ _ _ _ _ hcap5 _ hAa10 (fun _ => ⟨_, _, rfl, hB910⟩) hAt10).mono ?_
 rintro e w11 ⟨⟨vX, rfl, hvX⟩, hb11⟩
 have hs10 := hbelw10.size
 obtain ⟨gX, cX, rfl, hAX, -, -⟩ := hvX.at_ HEL.out (by omega)
 have hgl10 := hB910.lt (ne_nil HCL.out hz0)
 have hB911 := hB910.below hb11 hgl10
 have hbelw11 := hbelw10.trans (hb11.mono hs10)
 have hgl11 : g9 < w11.heap.size := by have := hb11.size; omega
 have hs11 := hbelw11.size
 clear hvX hb11 hAt10 hAa10 hB910 hbelw10 hgl10
 have hbA3 := (Below.refl w11.heap.size w11).alloc (Nat.le_refl _) (.cells #[.slice none 0 0, .slice none 0 0] 85)
 go_wp2_with (refine wpList_store_all rfl 85 (.tmp 19) (.tmp 79) rfl w11.heap.size #[.slice none 0 0, .slice none 0 0] rfl rfl 85 #[.slice none 0 0, .slice none 0 0] (Blk.new w11 _ _) (by rw [info_book]; rfl) rfl (by simp [Value.oneCell']) ?_; intro w12 hB12 hO12; have hb12 := hO12.below hbA3 (Nat.le_refl _); have hAX12 := hAX.below hb12 (Nat.le_refl _); have hB912 := hB911.below hb12 hgl11; have hbelw12 := hbelw11.trans (hb12.mono hs11); have hgl12 : g9 < w12.heap.size := (by have := hb12.size; omega); clear hB12 hO12 hb12 hAX hB911 hbelw11)
 refine (hHX.out _ _ _ hAX12).mono ?_
 rintro e wB ⟨rfl, hbB⟩
 have hs12 : (PS ++ S1).size ≤ 216 := by rw [ByteArray.size_append]; omega
 have hB9B := hB912.below hbB hgl12
 have hbelwB := hbelw12.trans (hbB.mono hbelw12.size)
 clear hbB hbelw12 hAX12 hB912
 go_wp2_with fail
 refine (hHC.out _ _ _ (fun _ => ⟨_, _, rfl, hB9B⟩)).mono ?_
 rintro e wC ⟨rfl, hbC⟩
 have hbelwC := hbelwB.trans (hbC.mono hbelwB.size)
 go_wp2
 go_ret
 exact ⟨rfl, hbelwC⟩
end Go.Proofs.YtfkjkkjimdilcaaGreatDoor
