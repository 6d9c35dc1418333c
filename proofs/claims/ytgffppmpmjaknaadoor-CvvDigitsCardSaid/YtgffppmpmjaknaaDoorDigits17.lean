/- lockboxlaw17.CvvDigits: the walk. -/
import Derived.Test.YtgffppmpmjaknaaDoorLawA
import Derived.Test.YtgffppmpmjaknaaDoorCode
import Derived.Test.YtgffppmpmjaknaaDoorRef8
import Derived.Test.YtgffppmpmjaknaaDoorArr
namespace Go.Proofs.YtgffppmpmjaknaaDoor
open Go Go.RowKit Pr

theorem lowd_dec (c : UInt8) (h : isHex c = true) (hd : isDec c = false) : isDec (lowd c) = true := all_u8 (p := fun c => isHex c = true → isDec c = false → isDec (lowd c) = true) (by decide +kernel) c h hd
theorem pickL_dec (s : List UInt8) (h : ∀ c ∈ s, isHex c = true) : ∀ c ∈ pickL s, isDec c = true := by
  intro c hc
  unfold pickL decsL lowsL at hc
  rcases List.mem_append.1 hc with h1 | h1
  · exact (List.mem_filter.1 h1).2
  · obtain ⟨x, hx, rfl⟩ := List.mem_map.1 h1
    obtain ⟨h2, h3⟩ := List.mem_filter.1 hx
    exact lowd_dec x (h x h2) (by simpa using h3)
theorem cvvVal_dec (k0 k1 : List Nat) (pan date service : List UInt8) : ∀ c ∈ cvvVal k0 k1 pan date service, isDec c = true := by
  intro c hc
  unfold cvvVal at hc
  exact pickL_dec _ (hexL_hex _ (cvvN_lt _ _ _ _)) c (List.mem_of_mem_take hc)
theorem cvvVal_len (k0 k1 : List Nat) (pan date service : List UInt8) : (cvvVal k0 k1 pan date service).length = 3 := by
  unfold cvvVal
  rw [List.length_take, pickL_len, hexL_len, cvvN_len]
  rfl

theorem service_at (x i : Int) (hi : i = x) (card : ByteArray) (hs : card.size ≤ 140737488351232) (S : ByteArray) (hS : ⟨(svcStr x card.data.toList).toArray⟩ = S) (hE : svcEr x card.data.toList = .ok) (w : World) :
    Calls Tryd.prog 20 #[.int .i64 i, .string card] w fun e w' => e = .returned (.tuple #[.string S, .nilIface]) ∧ Below w.heap.size w w' := by
  subst hi
  refine (cvvService_any i card hs w).mono ?_
  rintro e w' ⟨⟨v, rfl, hv⟩, hb⟩
  rw [hE] at hv
  obtain rfl : v = _ := hv
  exact ⟨by rw [hS], hb⟩

def c201 : ByteArray := ⟨#[50, 48, 49]⟩
theorem svc_fact (x : Int) (h : x = 1 ∨ x = 2 ∨ x = 3) : svcEr x c201.data.toList = .ok ∧ (svcStr x c201.data.toList).length = 3 := by
  rcases h with rfl | rfl | rfl <;> exact ⟨by rfl, by rfl⟩

set_option maxHeartbeats 2000000 in
set_option maxRecDepth 100000 in
theorem digits17 (l : List Nat) (hl : l.length = 16) (hb : ∀ c ∈ l, c < 256) (pan : ByteArray) (hp : pan.size ≤ 140737488351232) (date : ByteArray) (hd : date.size ≤ 140737488351232) (k : Nat) (hk : k < 256) (w : World) (hG : EtOk w) :
    Calls Tryd.prog 7 #[.agg (byteCells l), .string pan, .string date, .int .u8 (k : Int)] w fun e w' => e = .returned (.bool true) ∧ Below w.heap.size w w' := by
  obtain ⟨cl, hcl⟩ : ∃ cl, byteCells l = cl := ⟨_, rfl⟩
  rw [hcl]
  have HCL := Lib.hid hcl; clear hcl
  have HL := Lib.hid hl; clear hl
  obtain ⟨x, hx⟩ : ∃ x : Int, x = 1 + ((k % 3 : Nat) : Int) := ⟨_, rfl⟩
  obtain ⟨hsE, hsL⟩ := svc_fact x (by omega)
  obtain ⟨S, hS⟩ : ∃ S : ByteArray, ⟨(svcStr x c201.data.toList).toArray⟩ = S := ⟨_, rfl⟩
  have hSs : S.size = 3 := by rw [← hS]; show (svcStr x c201.data.toList).toArray.size = 3; simpa using hsL
  have HSV := Lib.hid (fun (i : Int) (hi : i = x) W => service_at x i hi c201 (by decide) S hS hsE W)
  unfold c201 at HSV
  have hSs1 : S.size ≤ 3 := by omega
  clear hsE hsL hS hSs
  have hat : ∀ W (g : Nat), Blk W g 32 cl → At W (some ⟨g, 0, none⟩) l := fun W g h _ => ⟨_, _, rfl, Bs.of_blk (by rw [← HCL.out] at h; exact h) (fun j c hj => by rw [Nat.zero_add]; exact hj)⟩
  have HAT := Lib.hid hat; clear hat
  have hO := fun W hA => cvvOf_any l hb (some ⟨w.heap.size, 0, none⟩) 16 (by rw [HL.out]; exact Nat.le_refl _) pan date S hp hd (by omega) W hA
  have hV := fun (V : ByteArray) (h : V.size ≤ 140737488351232) W hA => cvvVerify_any l hb (some ⟨w.heap.size, 0, none⟩) 16 (by rw [HL.out]; exact Nat.le_refl _) pan date S V hp hd (by omega) h W hA
  rw [HL.out] at hO hV
  have hx1 : 1 ≤ x := by omega
  have hx3 : x ≤ 3 := by omega
  have HX := Lib.hid hx; clear hx
  go_enter Tryd.func7, Tryd.ntmps7
  go_wp2_with fail
  refine (HSV.out (1 + (k : Int) % 3) (by have := HX.out; omega) _).mono ?_
  rintro e w1 ⟨rfl, hb1⟩
  have hK1 : Blk w1 w.heap.size 32 cl := (Blk.new w _ cl).below hb1 (by simp)
  have hbel1 : Below w.heap.size w w1 := ((Below.refl _ _).alloc (Nat.le_refl _) _).trans (hb1.mono (by simp))
  clear hb1
  go_wp2_with fail
  refine (awake17_any _).mono ?_
  rintro e w2 ⟨rfl, hb2⟩
  have hK2 := hK1.below hb2 hK1.lt
  have hbel2 := hbel1.trans (hb2.mono hbel1.size)
  clear hb2 hK1 hbel1
  by_cases hok : ofEr l pan.data.toList date.data.toList S.data.toList = .ok
  · have hval := ofStr_ok hok
    have hdec : ∀ c ∈ ofStr l pan.data.toList date.data.toList S.data.toList, isDec c = true := by rw [hval]; exact cvvVal_dec _ _ _ _ _
    have hlen : (ofStr l pan.data.toList date.data.toList S.data.toList).length = 3 := by rw [hval]; exact cvvVal_len _ _ _ _ _
    have hver : ∀ V, verEr l pan.data.toList date.data.toList S.data.toList V = if ofStr l pan.data.toList date.data.toList S.data.toList = V then .ok else .no 12 := fun V => by unfold verEr; rw [hok]
    simp only [hok, hver] at hO hV
    clear hver hval
    obtain ⟨X, hX⟩ : ∃ X : ByteArray, ⟨(ofStr l pan.data.toList date.data.toList S.data.toList).toArray⟩ = X := ⟨_, rfl⟩
    have hXV : ofStr l pan.data.toList date.data.toList S.data.toList = X.data.toList := by rw [← hX]
    rw [hX] at hO
    rw [hXV] at hdec hlen
    simp only [hXV] at hV
    clear hXV hX hok
    have hXs : X.size = 3 := by simpa using hlen
    have hV1 := hV X (by omega)
    rw [if_pos rfl] at hV1
    have hone : (⟨#[48]⟩ : ByteArray).size = 1 := rfl
    have hV2 := hV (X ++ ⟨#[48]⟩) (by rw [ByteArray.size_append, hone]; omega)
    rw [if_neg (by
      intro h
      have := congrArg List.length h
      simp [ByteArray.data_append] at this)] at hV2
    have hF := fun W => refFirst10 X (by omega) W
    have hz : badZ isDec X.data.toList = -1 := by unfold badZ; rw [badAt_none hdec]
    rw [hz] at hF
    have HO := Lib.hid hO
    have HV1 := Lib.hid hV1
    have HV2 := Lib.hid hV2
    have HF := Lib.hid hF
    have t3 : ((X.size : Int) == 3) = true := by rw [beq_iff_eq]; omega
    have hx4 : X.size ≤ 3 := by omega
    clear hO hV hV1 hV2 hF hz hdec hlen hXs hone
    go_wp2_with fail
    refine (HO.out _ (HAT.out _ _ hK2)).mono ?_
    rintro e w3 ⟨⟨v, rfl, hv⟩, hb3⟩
    obtain rfl : v = _ := hv
    have hK3 := hK2.below hb3 hK2.lt
    have hbel3 := hbel2.trans (hb3.mono hbel2.size)
    go_wp2_with fail
    refine (HO.out _ (HAT.out _ _ hK3)).mono ?_
    rintro e w4 ⟨⟨v, rfl, hv⟩, hb4⟩
    obtain rfl : v = _ := hv
    have hK4 := hK3.below hb4 hK3.lt
    have hbel4 := hbel3.trans (hb4.mono hbel3.size)
    go_wp2_with fail
    refine (HF.out _).mono ?_
    rintro e w' ⟨rfl, rfl⟩
    go_wp2_with fail
    refine (HV1.out _ (HAT.out _ _ hK4)).mono ?_
    rintro e w5 ⟨⟨v, rfl, hv⟩, hb5⟩
    obtain rfl : v = _ := hv
    have hK5 := hK4.below hb5 hK4.lt
    have hbel5 := hbel4.trans (hb5.mono hbel4.size)
    go_wp2_with fail
    refine (HV2.out _ (HAT.out _ _ hK5)).mono ?_
    rintro e w6 ⟨⟨v, rfl, hv⟩, hb6⟩
    have hbel6 := hbel5.trans (hb6.mono hbel5.size)
    go_wp2_with fail
    refine (code_any v _ _ _ hv (hG.below hbel6 (Nat.le_refl _))).mono ?_
    rintro e w7 ⟨rfl, hb7⟩
    have hbel7 := hbel6.trans (hb7.mono hbel6.size)
    have f1 : erCode (.no 12) = 12 := rfl
    go_wp2
    go_ret
    exact ⟨rfl, hbel7⟩
  · have hval := ofStr_bad hok
    rw [hval] at hO
    clear hval hV
    have HO := Lib.hid hO; clear hO
    generalize ofEr l pan.data.toList date.data.toList S.data.toList = er at *
    cases er with
    | ok => exact absurd rfl hok
    | no m =>
      clear hok
      go_wp2_with fail
      refine (HO.out _ (HAT.out _ _ hK2)).mono ?_
      rintro e w3 ⟨⟨v, rfl, hv⟩, hb3⟩
      obtain rfl : v = _ := hv
      have hbel3 := hbel2.trans (hb3.mono hbel2.size)
      go_wp2
      go_ret
      exact ⟨rfl, hbel3⟩
    | fa p m =>
      clear hok
      go_wp2_with fail
      refine (HO.out _ (HAT.out _ _ hK2)).mono ?_
      rintro e w3 ⟨⟨v, rfl, hv⟩, hb3⟩
      obtain ⟨g, rfl, _⟩ := hv
      have hbel3 := hbel2.trans (hb3.mono hbel2.size)
      go_wp2
      go_ret
      exact ⟨rfl, hbel3⟩
end Go.Proofs.YtgffppmpmjaknaaDoor
