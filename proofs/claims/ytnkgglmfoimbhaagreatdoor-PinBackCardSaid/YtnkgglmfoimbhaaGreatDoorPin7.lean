/- The contract of pin.OpenFour, where the account is right. -/
import Derived.Test.YtnkgglmfoimbhaaGreatDoorPin6
namespace Go.Proofs.YtnkgglmfoimbhaaGreatDoor
open Go Go.RowKit Pr

theorem fills4_ok : ∀ c, c < 16 → isIn (⟨#[65]⟩ : ByteArray).data.toList (hexd c) = !noD 4 c := by decide +kernel

set_option maxHeartbeats 4000000 in
set_option maxRecDepth 100000 in
theorem open4_any (g : Nat) (key : List Nat) (hkl : key.length = 16) (hkb : Byt key) (bk : Value) (b : List Nat) (hbl : b.length = 16) (hbb : Byt b) (A : Option Addr) (cb : Nat) (a : ByteArray) (h13 : 13 ≤ a.size) (h19 : a.size ≤ 19) (had : ∀ c ∈ a.data.toList, isDec c = true)
    (hok : decEr a.data.toList 13 19 = .ok) (w : World) (hC : CipherAt w g 1 key bk) (hA : At w A b) :
    Calls Tryz.prog 24 #[.pointer (some ⟨g, 0, none⟩), .slice A 16 cb, .string a] w fun e w' =>
      (∃ v, e = .returned (.tuple #[.string (str (readStr (nibN (openX key b a.data.toList)) 4)), v]) ∧ ErIs w' w.heap.size v (readEr (nibN (openX key b a.data.toList)) 4)) ∧ Below w.heap.size w w' := by
  have HSZ := Lib.hid (fun W hC => size_any 1 g (by omega) key bk W hC)
  have HB := Lib.hid (fun W => account_any a (by omega) W)
  rw [hok] at HB
  have HCW : ∀ W, Below w.heap.size w W → CipherAt W g 1 key bk := fun W hW => hC.below hW (Nat.le_refl _)
  have HCC := Lib.hid HCW; clear HCW
  go_enter Tryz.func24, Tryz.ntmps24
  go_wp2_with fail
  refine (HSZ.out _ (HCC.out _ (Below.refl _ _))).mono ?_
  rintro e w1 ⟨rfl, rfl⟩
  have f16 : sizeN 1 = 16 := rfl
  rw [f16]
  go_wp2_with fail
  refine (HB.out _).mono ?_
  rintro e w2 ⟨⟨v, rfl, hv⟩, hb2⟩
  obtain rfl : v = _ := hv
  have hA2 := hA.below hb2 (Nat.le_refl _)
  go_wp2_with fail
  refine (doA_any g key hkl hkb bk b hbl hbb true A cb w2 (HCC.out _ hb2) hA2).mono ?_
  rintro e w8 ⟨⟨gv, rfl, hgv, hBv⟩, hb8⟩
  have hS8 := hb2.trans (hb8.mono hb2.size)
  have hV1 : Bs w8 gv 0 (aesN key b true) := Bs.of_blk hBv (fun j c hj => by rw [Nat.zero_add]; exact hj)
  have hVl := aesN_len key b true
  have hVb := aesN_byt hkb hbl hbb true
  have hgvl := hBv.lt
  clear hBv hb8 hb2 hA2
  go_wp2_with fail
  refine (account4_any a h13 h19 had w8).mono ?_
  rintro e w9 ⟨⟨va, rfl, hva⟩, hb9⟩
  have hS9 := hS8.trans (hb9.mono hS8.size)
  have hV2 := hV1.below hb9 hgvl
  have hal := fourA_len a.data.toList (by simp; omega)
  have hab : Byt (fourA a.data.toList) := unhexL_lt (acctS_hex _ (by simp; omega) had)
  obtain ⟨ga, ca, rfl, hga, hca, hgal, hBa⟩ := Own.form (l := fourA a.data.toList) hva (by intro h; rw [h] at hal; cases hal)
  rw [hal] at hca ⊢
  clear hva hb9 hV1 hS8
  go_wp2_with fail
  refine (modeXor_any (fourA a.data.toList) (aesN key b true) 16 hal hVl (by omega) hab hVb _ _ _ _ w9 (fun _ => ⟨_, _, rfl, hBa⟩) (fun _ => ⟨_, _, rfl, hV2⟩)).mono ?_
  rintro e w10 ⟨⟨vy, rfl, hvy⟩, hb10⟩
  have hS10 := hS9.trans (hb10.mono hS9.size)
  have hyl : (xorTo (fourA a.data.toList) (aesN key b true) 16).length = 16 := by rw [xorTo_len, hal]
  have hyb := xorTo_byt hab hVb 16
  obtain ⟨gy, cy, rfl, hgy, hcy, hgyl, hBy⟩ := hvy.form (by intro h; rw [h] at hyl; cases hyl)
  rw [hyl] at hcy ⊢
  clear hvy hb10 hS9
  go_wp2_with fail
  refine (doA_any g key hkl hkb bk _ hyl hyb true (some ⟨gy, 0, none⟩) cy w10 (HCC.out _ hS10) (fun _ => ⟨_, _, rfl, hBy⟩)).mono ?_
  rintro e w11 ⟨⟨gr, rfl, hgr, hBr⟩, hb11⟩
  have hS11 := hS10.trans (hb11.mono hS10.size)
  have hzl := aesN_len key (xorTo (fourA a.data.toList) (aesN key b true) 16) true
  have hzb := aesN_byt hkb hyl hyb true
  rw [show aesN key (xorTo (fourA a.data.toList) (aesN key b true) 16) true = openX key b a.data.toList from rfl] at hzl hzb hBr
  have hR1 : Bs w11 gr 0 (openX key b a.data.toList) := Bs.of_blk hBr (fun j c hj => by rw [Nat.zero_add]; exact hj)
  have HH := Lib.hid (fun W hA => hex_any (openX key b a.data.toList) hzb (by omega) (some ⟨gr, 0, none⟩) 16 W hA)
  rw [hzl] at HH
  go_wp2_with fail
  refine (HH.out _ (fun _ => ⟨_, _, rfl, hR1⟩)).mono ?_
  rintro e w12 ⟨rfl, hb12⟩
  have hS12 := hS11.trans (hb12.mono hS11.size)
  go_wp2_with fail
  rw [show (⟨(hexL (openX key b a.data.toList)).toArray⟩ : ByteArray) = str ((nibN (openX key b a.data.toList)).map hexd) by rw [hexL_nib]; rfl]
  have hnl := nibN_len (openX key b a.data.toList)
  refine (read_any (nibN (openX key b a.data.toList)) (by omega) (by omega) (nibN_lt _ hzb) 4 (by omega) ⟨#[65]⟩ fills4_ok w12).mono ?_
  rintro e w13 ⟨⟨vr, rfl, hvr⟩, hb13⟩
  go_wp2
  go_ret2
  exact ⟨⟨_, rfl, hvr.more hS12.size⟩, hS12.trans (hb13.mono hS12.size)⟩
end Go.Proofs.YtnkgglmfoimbhaaGreatDoor
