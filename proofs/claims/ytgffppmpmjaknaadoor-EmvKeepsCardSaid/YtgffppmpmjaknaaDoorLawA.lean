/- lockboxlaw17: few, awake. -/
import Derived.Test.YtgffppmpmjaknaaDoorCvvC
namespace Go.Proofs.YtgffppmpmjaknaaDoor
open Go Go.RowKit Pr

def fewB (ss : List ByteArray) : Bool := ss.all fun s => decide (s.size ≤ 100)

set_option maxHeartbeats 1000000 in
theorem few17_any (n cp m c2 : Nat) (A : Option Addr) (ss : List ByteArray) (hm : ss.length = m) (hm2 : m ≤ 100) (bl : Nat) (w : World) (hcs : w.rangeAt bl 0 (ss.map Value.string)) :
    Calls Tryd.prog 26 #[.slice A n cp, .slice (some ⟨bl, 0, none⟩) m c2] w fun e w' => e = .returned (.bool (fewB ss && decide (n ≤ 100))) ∧ w = w' := by
  have HM := Lib.hid hm; clear hm
  have HCS := Lib.hid hcs; clear hcs
  go_enter Tryd.func26, Tryd.ntmps26
  go_wp2
  go_loop [5] (fun i => ∃ k : Nat, k ≤ m ∧ i = .int .i64 k ∧ Hid (∀ j (h : j < k) (h' : j < ss.length), ss[j].size ≤ 100)) (fun i => m - (intOf i).toNat)
  case atStart => exact ⟨0, by omega, rfl, fun j h => by omega⟩
  case round =>
    obtain ⟨k, hk, rfl, hall⟩ := hrel
    by_cases hlt : k < m
    · have hkl : k < ss.length := by rw [HM.out]; exact hlt
      have hc : w.cell? ⟨bl, k, none⟩ = some (.string ss[k]) := by
        have := HCS.out k (.string ss[k]) (by simp [hkl])
        rwa [Nat.zero_add] at this
      have hst : ∀ j (h : j < k + 1) (h' : j < ss.length), ss[j].size ≤ 100 ∨ j = k := fun j h h' => by
        by_cases e : j = k
        · exact .inr e
        · exact .inl (hall.out j (by omega) h')
      obtain ⟨s, hs⟩ : ∃ s, ss[k] = s := ⟨_, rfl⟩
      rw [hs] at hc
      by_cases hbig : s.size ≤ 100
      · have hall' : Hid (∀ j (h : j < k + 1) (h' : j < ss.length), ss[j].size ≤ 100) := fun j h h' => by
          rcases hst j h h' with h2 | rfl
          · exact h2
          · rw [hs]; exact hbig
        clear hst hs
        have hb2 : ¬ (100 : Int) < (s.size : Int) := by omega
        go_wp2
        go_round
        case rel => exact ⟨k + 1, by omega, by go_num, hall'⟩
        case measure => simp [intOf]; omega
      · have hfin : fewB ss = false := by
          unfold fewB
          rw [List.all_eq_false]
          exact ⟨s, by rw [← hs]; exact List.getElem_mem _, by simpa using hbig⟩
        have HF := Lib.hid hfin; clear hfin hst hs
        have hb2 : (100 : Int) < (s.size : Int) := by omega
        go_wp2
        go_ret
        exact ⟨by rw [HF.out]; rfl, rfl⟩
    · have hfin : fewB ss = true := by
        unfold fewB
        rw [List.all_eq_true]
        intro s hs
        obtain ⟨j, hj, rfl⟩ := List.getElem_of_mem hs
        have := hall.out j (by rw [HM.out] at hj; omega) hj
        simpa using this
      have HF := Lib.hid hfin; clear hfin
      by_cases hn : n ≤ 100
      · have h1 : (n : Int) ≤ 100 := by omega
        have HN := Lib.hid (decide_eq_true hn); clear hn
        go_wp2
        go_ret
        exact ⟨by rw [HF.out, HN.out]; rfl, rfl⟩
      · have h1 : ¬ (n : Int) ≤ 100 := by omega
        have HN := Lib.hid (decide_eq_false hn); clear hn
        go_wp2
        go_ret
        exact ⟨by rw [HF.out, HN.out]; rfl, rfl⟩

def z16 : List Nat := List.replicate 16 0
def aPan : ByteArray := ⟨#[52, 49, 50, 51, 52, 53, 54, 55, 56, 57, 48, 49, 50, 51, 52, 53]⟩
def aDate : ByteArray := ⟨#[56, 55, 48, 49]⟩
def aSvc : ByteArray := ⟨#[49, 48, 49]⟩
theorem aOk : ofEr z16 aPan.data.toList aDate.data.toList aSvc.data.toList = .ok := by rfl
theorem aLen : (ofStr z16 aPan.data.toList aDate.data.toList aSvc.data.toList).length = 3 := by
  rw [ofStr_ok aOk]
  unfold cvvVal
  rw [List.length_take, pickL_len, hexL_len, cvvN_len]
  rfl
theorem aVer (V : List UInt8) (h : ofStr z16 aPan.data.toList aDate.data.toList aSvc.data.toList = V) : verEr z16 aPan.data.toList aDate.data.toList aSvc.data.toList V = .ok := by
  unfold verEr
  rw [aOk]
  simp only
  rw [if_pos h]

set_option maxHeartbeats 1000000 in
set_option maxRecDepth 100000 in
theorem awake17_any (w : World) :
    Calls Tryd.prog 21 #[] w fun e w' => e = .returned (.bool true) ∧ Below w.heap.size w w' := by
  go_enter Tryd.func21, Tryd.ntmps21
  go_wp2_with (first
    | (refine wpList_make_bytes rfl _ _ rfl .i64 .i64 16 16 16 rfl rfl rfl rfl (by omega) ?_; intro w1 hb1 hB1 hs1))
  have hAt : At w1 (some ⟨w.heap.size, 0, none⟩) z16 := fun _ => ⟨_, _, rfl, Bs.of_blk hB1 (fun j c hj => by rw [Nat.zero_add]; exact hj)⟩
  have HZ : ∀ c ∈ z16, c < 256 := by decide
  have HO := cvvOf_any z16 HZ (some ⟨w.heap.size, 0, none⟩) 16 (by decide) aPan aDate aSvc (by decide) (by decide) (by decide) w1 hAt
  rw [aOk] at HO
  have hl := aLen
  have hv := aVer
  generalize ofStr z16 aPan.data.toList aDate.data.toList aSvc.data.toList = V at *
  have hX : ∃ X : ByteArray, ⟨V.toArray⟩ = X := ⟨_, rfl⟩
  obtain ⟨X, hX⟩ := hX
  have hXs : X.size = 3 := by rw [← hX]; show V.toArray.size = 3; simpa using hl
  have hve := hv _ rfl
  rw [show V = X.data.toList by rw [← hX]] at hve
  rw [hX] at HO
  have hV := fun W hb => cvvVerify_any z16 HZ (some ⟨w.heap.size, 0, none⟩) 16 (by decide) aPan aDate aSvc X (by decide) (by decide) (by decide) (by omega) W (hAt.below (C := w1.heap.size) hb (Nat.le_refl _))
  rw [hve] at hV
  have hS := fun W => cvvService_any 2 ⟨#[49, 48, 49]⟩ (by decide) W
  have es1 : svcEr 2 ((⟨#[49, 48, 49]⟩ : ByteArray).data.toList) = .ok := by rfl
  have es2 : svcStr 2 ((⟨#[49, 48, 49]⟩ : ByteArray).data.toList) = [48, 48, 48] := by rfl
  rw [es1, es2] at hS
  have HS := Lib.hid hS
  clear hS es1 es2 hv hve hl hX
  have hlen : z16.length = 16 := rfl
  rw [hlen] at HO hV
  clear hlen
  unfold aPan aDate aSvc at HO hV
  have HV := Lib.hid hV; clear hV
  have t1 : ((X.size : Int) == 3) = true := by rw [beq_iff_eq]; omega
  refine HO.mono ?_
  rintro e w2 ⟨⟨v, rfl, hv⟩, hb2⟩
  obtain rfl : v = _ := hv
  clear HO
  go_wp2_with fail
  refine (HS.out _).mono ?_
  rintro e w3 ⟨⟨v, rfl, hv⟩, hb3⟩
  obtain rfl : v = _ := hv
  have hb23 := hb2.trans (hb3.mono hb2.size)
  go_wp2_with fail
  refine (HV.out _ hb23).mono ?_
  rintro e w4 ⟨⟨v, rfl, hv⟩, hb4⟩
  obtain rfl : v = _ := hv
  have hb24 := hb23.trans (hb4.mono hb23.size)
  have hb := hb1.trans (hb24.mono hb1.size)
  go_wp2
  go_ret
  exact ⟨rfl, hb⟩
end Go.Proofs.YtgffppmpmjaknaaDoor
