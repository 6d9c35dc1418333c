/- The contract of pvv.Verify; lockboxlaw16.awake. -/
import Derived.Test.YtnkgglmfoimbhaaDoorPvv
namespace Go.Proofs.YtnkgglmfoimbhaaDoor
open Go Go.RowKit Pr

def pverEr (key : List Nat) (number : Int) (pan p value : List UInt8) : Er := match pvvEr key.length number pan p with
  | .ok => if pvvStr key number pan p = value then .ok else .no 12
  | e => e

set_option maxHeartbeats 1000000 in
set_option maxRecDepth 100000 in
theorem pvvVerify_any (key : List Nat) (hkb : ∀ c ∈ key, c < 256) (A : Option Addr) (cp : Nat) (number : Int) (pan p value : ByteArray) (hp : pan.size ≤ 140737488351232) (hd : p.size ≤ 140737488351232) (hv : value.size ≤ 140737488351232) (w : World) (hA : At w A key) :
    Calls Tryd.prog 23 #[.slice A key.length cp, .int .i64 number, .string pan, .string p, .string value] w fun e w' =>
      (∃ v, e = .returned v ∧ ErIs w' w.heap.size v (pverEr key number pan.data.toList p.data.toList value.data.toList)) ∧ Below w.heap.size w w' := by
  have HO := Lib.hid (pvvOf_any key hkb A cp number pan p hp hd w hA)
  have HV : Hid (pverEr key number pan.data.toList p.data.toList value.data.toList = match pvvEr key.length number pan.data.toList p.data.toList with
    | .ok => if pvvStr key number pan.data.toList p.data.toList = value.data.toList then .ok else .no 12
    | e => e) := rfl
  have hl3 := pvvStr_len key number pan.data.toList p.data.toList
  generalize pverEr key number pan.data.toList p.data.toList value.data.toList = er at *
  generalize pvvStr key number pan.data.toList p.data.toList = V at *
  generalize pvvEr key.length number pan.data.toList p.data.toList = ep at *
  generalize key.length = n at *
  clear hA
  cases ep with
  | no m =>
    go_enter Tryd.func23, Tryd.ntmps23
    go_wp2_with fail
    refine (HO.out).mono ?_
    rintro e w1 ⟨⟨v, rfl, hv⟩, hb⟩
    obtain rfl : v = _ := hv
    go_wp2
    go_ret
    rw [HV.out]
    exact ⟨⟨_, rfl, rfl⟩, hb⟩
  | fa q m =>
    go_enter Tryd.func23, Tryd.ntmps23
    go_wp2_with fail
    refine (HO.out).mono ?_
    rintro e w1 ⟨⟨v, rfl, hv⟩, hb⟩
    have hv' := hv
    obtain ⟨g, rfl, _⟩ := hv'
    go_wp2
    go_ret
    rw [HV.out]
    exact ⟨⟨_, rfl, hv⟩, hb⟩
  | ok =>
    obtain ⟨X, hX⟩ : ∃ X : ByteArray, str V = X := ⟨_, rfl⟩
    have hXV : V = X.data.toList := by rw [← hX]; rfl
    have hXs : X.size ≤ 4 := by rw [hXV] at hl3; simpa using hl3
    rw [hX] at HO
    rw [hXV] at HV
    clear hX hXV hl3
    go_enter Tryd.func23, Tryd.ntmps23
    go_wp2_with fail
    refine (HO.out).mono ?_
    rintro e w1 ⟨⟨v, rfl, hv⟩, hb⟩
    obtain rfl : v = _ := hv
    go_wp2_with (first
      | (refine wpList_to_bytes rfl 9 34 5 (.tmp 26) rfl X rfl Tryd.underlying9 Tryd.underlying34 Tryd.underlying5 ?_; intro c2 w2 hc2 hb2 hB2 hs2)
      | (refine wpList_to_bytes rfl 9 34 5 (.tmp 28) rfl value rfl Tryd.underlying9 Tryd.underlying34 Tryd.underlying5 ?_; intro c3 w3 hc3 hb3 hB3 hs3))
    have e1 := equal_any (sN X) (sN value) (some ⟨w1.heap.size, 0, none⟩) (some ⟨w2.heap.size, 0, none⟩) c2 c3 (sN_lt _) (sN_lt _) (by rw [sN_len]; omega) (by rw [sN_len]; omega) w3 (fun _ => ⟨_, _, rfl, hB2.below hb3 (by omega)⟩) (fun _ => ⟨_, _, rfl, hB3⟩)
    rw [sN_len, sN_len, hs2] at e1
    have hbw := hb.trans ((hb2.mono hb.size).trans (hb3.mono (by have := hb.size; omega)))
    by_cases hXv : X = value
    · have hd : decide (sN X = sN value) = true := decide_eq_true ((sN_inj X value).2 hXv)
      rw [hd] at e1
      rw [if_pos (by rw [hXv])] at HV
      clear hd hXv
      refine e1.mono ?_
      rintro e w4 ⟨rfl, n4, rfl⟩
      clear e1
      go_wp2
      go_ret
      rw [HV.out]
      exact ⟨⟨_, rfl, rfl⟩, below_drewN hbw _⟩
    · have hd : decide (sN X = sN value) = false := decide_eq_false (fun h => hXv ((sN_inj X value).1 h))
      rw [hd] at e1
      rw [if_neg (by intro h; exact hXv (by apply ByteArray.ext; exact Array.toList_inj.1 h))] at HV
      clear hd hXv
      refine e1.mono ?_
      rintro e w4 ⟨rfl, n4, rfl⟩
      clear e1
      go_wp2
      go_ret
      rw [HV.out]
      exact ⟨⟨_, rfl, rfl⟩, below_drewN hbw _⟩


theorem decEr_cases (s : List UInt8) (lo hi : Nat) : decEr s lo hi = .no 2 ∨ (∃ k : Nat, decEr s lo hi = .fa k 16) ∨ decEr s lo hi = .ok := by
  unfold decEr
  split
  · exact .inl rfl
  · cases badAt isDec s with
    | none => exact .inr (.inr rfl)
    | some k => exact .inr (.inl ⟨k, rfl⟩)
def z16 : List Nat := List.replicate 16 0
def a16Pan : ByteArray := ⟨#[53, 52, 51, 50, 49, 48, 49, 50, 51, 52, 53, 54, 55, 56, 57, 49]⟩
def a16Pin : ByteArray := ⟨#[49, 50, 51, 52]⟩
theorem a16Ok : pvvEr 16 1 a16Pan.data.toList a16Pin.data.toList = .ok := by rfl
theorem a16Len : (pvvStr z16 1 a16Pan.data.toList a16Pin.data.toList).length = 4 := by
  rw [pvvStr_ok (key := z16) a16Ok, pvvVal_len]
theorem a16Ver (V : List UInt8) (h : pvvStr z16 1 a16Pan.data.toList a16Pin.data.toList = V) : pverEr z16 1 a16Pan.data.toList a16Pin.data.toList V = .ok := by
  unfold pverEr
  rw [show pvvEr z16.length 1 a16Pan.data.toList a16Pin.data.toList = .ok from a16Ok]
  simp only
  rw [if_pos h]
def a16Pk : ByteArray := ⟨#[48, 70, 66, 57, 67]⟩
theorem a16PkE : pickEr a16Pk.data.toList 4 = .ok := pickEr_hex _ 4 (by decide) (by decide)
theorem a16PkV : pickV a16Pk.data.toList 4 = .string ⟨#[48, 57, 53, 49]⟩ := (pickV_hex _ 4 (by decide) (by decide)).trans (by rw [show str ((pickL a16Pk.data.toList).take 4) = ⟨#[48, 57, 53, 49]⟩ by decide +kernel])

set_option maxHeartbeats 1000000 in
set_option maxRecDepth 100000 in
theorem awake16_any (w : World) :
    Calls Tryd.prog 21 #[] w fun e w' => e = .returned (.bool true) ∧ Below w.heap.size w w' := by
  have HK := pick_any a16Pk (by decide) 4 w
  rw [a16PkE, a16PkV] at HK
  unfold a16Pk at HK
  have HK := Lib.hid HK
  go_enter Tryd.func21, Tryd.ntmps21
  go_wp2_with fail
  refine (HK.out).mono ?_
  rintro e w0 ⟨⟨v, rfl, hv⟩, hb0⟩
  obtain rfl : v = _ := hv
  clear HK
  go_wp2_with (first
    | (refine wpList_make_bytes rfl _ _ rfl .i64 .i64 16 16 16 rfl rfl rfl rfl (by omega) ?_; intro w1 hb1 hB1 hs1))
  have hAt : At w1 (some ⟨w0.heap.size, 0, none⟩) z16 := fun _ => ⟨_, _, rfl, Bs.of_blk hB1 (fun j c hj => by rw [Nat.zero_add]; exact hj)⟩
  have HZ : ∀ c ∈ z16, c < 256 := by decide
  have HO := pvvOf_any z16 HZ (some ⟨w0.heap.size, 0, none⟩) 16 1 a16Pan a16Pin (by decide) (by decide) w1 hAt
  rw [show pvvEr z16.length 1 a16Pan.data.toList a16Pin.data.toList = .ok from a16Ok] at HO
  have hl := a16Len
  have hv := a16Ver
  generalize pvvStr z16 1 a16Pan.data.toList a16Pin.data.toList = V at *
  obtain ⟨X, hX⟩ : ∃ X : ByteArray, str V = X := ⟨_, rfl⟩
  have hXs : X.size = 4 := by rw [← hX, str_size]; exact hl
  have hve := hv _ rfl
  rw [show V = X.data.toList by rw [← hX]; rfl] at hve
  rw [hX] at HO
  have hV := fun W hb => pvvVerify_any z16 HZ (some ⟨w0.heap.size, 0, none⟩) 16 1 a16Pan a16Pin X (by decide) (by decide) (by omega) W (hAt.below (C := w1.heap.size) hb (Nat.le_refl _))
  rw [hve] at hV
  clear hv hve hl hX
  have hlen : z16.length = 16 := rfl
  rw [hlen] at HO hV
  clear hlen
  unfold a16Pan a16Pin at HO hV
  have HV := Lib.hid hV; clear hV
  have t1 : ((X.size : Int) == 4) = true := by rw [beq_iff_eq]; omega
  have hb01 := hb0.trans (hb1.mono hb0.size)
  refine HO.mono ?_
  rintro e w2 ⟨⟨v, rfl, hv⟩, hb2⟩
  obtain rfl : v = _ := hv
  clear HO hXs hb0 hb1
  go_wp2_with fail
  refine (HV.out _ hb2).mono ?_
  rintro e w4 ⟨⟨v, rfl, hv⟩, hb4⟩
  obtain rfl : v = _ := hv
  have hb24 := hb2.trans (hb4.mono hb2.size)
  have hb := hb01.trans (hb24.mono hb01.size)
  go_wp2
  go_ret
  exact ⟨rfl, hb⟩
end Go.Proofs.YtnkgglmfoimbhaaDoor
