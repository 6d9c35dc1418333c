/- The contracts of cvv.Of (of every key), cvv.Verify, cvv.Service. -/
import Derived.Test.YtgffppmpmjaknaaDoorCvvB
import Derived.Test.YtgffppmpmjaknaaDoorConv
namespace Go.Proofs.YtgffppmpmjaknaaDoor
open Go Go.RowKit Pr

/-- what cvv.Of answers -/
def ofEr (key : List Nat) (pan date service : List UInt8) : Er := cvvEr key.length pan date service
def ofStr (key : List Nat) (pan date service : List UInt8) : List UInt8 := match ofEr key pan date service with | .ok => cvvVal (key.take 8) (key.drop 8) pan date service | _ => []
theorem ofStr_ok {key : List Nat} {pan date service : List UInt8} (h : ofEr key pan date service = .ok) : ofStr key pan date service = cvvVal (key.take 8) (key.drop 8) pan date service := by unfold ofStr; rw [h]
theorem ofStr_bad {key : List Nat} {pan date service : List UInt8} (h : ofEr key pan date service ≠ .ok) : ofStr key pan date service = [] := by
  unfold ofStr
  split
  · rename_i h'; exact absurd h' h
  · rfl
theorem ofStr_len (key : List Nat) (pan date service : List UInt8) : (ofStr key pan date service).length ≤ 3 := by
  unfold ofStr
  split
  · unfold cvvVal; exact List.length_take_le _ _
  · simp

theorem cvvOf_any (key : List Nat) (hkb : ∀ c ∈ key, c < 256) (A : Option Addr) (cp : Nat) (hcp : key.length ≤ cp) (pan date service : ByteArray) (hp : pan.size ≤ 140737488351232) (hd : date.size ≤ 140737488351232) (hs : service.size ≤ 140737488351232) (w : World) (hA : At w A key) :
    Calls Tryd.prog 22 #[.slice A key.length cp, .string pan, .string date, .string service] w fun e w' =>
      (∃ v, e = .returned (.tuple #[.string ⟨(ofStr key pan.data.toList date.data.toList service.data.toList).toArray⟩, v]) ∧ ErIs w' w.heap.size v (ofEr key pan.data.toList date.data.toList service.data.toList)) ∧ Below w.heap.size w w' := by
  by_cases hok : ofEr key pan.data.toList date.data.toList service.data.toList = .ok
  · have hl := (cvvEr_ok hok).1
    obtain ⟨b, o, rfl, hB⟩ := hA (by intro h; rw [h] at hl; cases hl)
    have h0 : Bs w b o (key.take 8) := by have := hB.sub 0 8; simpa using this
    have h1 : Bs w b (o + 8) (key.drop 8) := by have := hB.sub 8 8; rw [List.take_of_length_le (by rw [List.length_drop, hl]; exact Nat.le_refl _)] at this; exact this
    rw [ofStr_ok hok, hok, hl]
    have hok' := hok
    unfold ofEr at hok'
    rw [hl] at hok'
    refine (cvvOf_ok pan date service (key.take 8) (key.drop 8) (by rw [List.length_take, hl]; rfl) (by rw [List.length_drop, hl]) (fun c h => hkb c (List.mem_of_mem_take h)) (fun c h => hkb c (List.mem_of_mem_drop h)) hok' b o cp (by omega) w h0 h1).mono ?_
    rintro e w' ⟨rfl, hb⟩
    exact ⟨⟨_, rfl, rfl⟩, hb⟩
  · rw [ofStr_bad hok]
    exact cvvOf_bad A key.length cp pan date service hp hd hs hok w

def verEr (key : List Nat) (pan date service value : List UInt8) : Er := match ofEr key pan date service with
  | .ok => if ofStr key pan date service = value then .ok else .no 12
  | e => e

set_option maxHeartbeats 1000000 in
set_option maxRecDepth 100000 in
theorem cvvVerify_any (key : List Nat) (hkb : ∀ c ∈ key, c < 256) (A : Option Addr) (cp : Nat) (hcp : key.length ≤ cp) (pan date service value : ByteArray) (hp : pan.size ≤ 140737488351232) (hd : date.size ≤ 140737488351232) (hs : service.size ≤ 140737488351232) (hv : value.size ≤ 140737488351232) (w : World) (hA : At w A key) :
    Calls Tryd.prog 24 #[.slice A key.length cp, .string pan, .string date, .string service, .string value] w fun e w' =>
      (∃ v, e = .returned v ∧ ErIs w' w.heap.size v (verEr key pan.data.toList date.data.toList service.data.toList value.data.toList)) ∧ Below w.heap.size w w' := by
  have HO := Lib.hid (cvvOf_any key hkb A cp hcp pan date service hp hd hs w hA)
  have HV : Hid (verEr key pan.data.toList date.data.toList service.data.toList value.data.toList = match ofEr key pan.data.toList date.data.toList service.data.toList with
    | .ok => if ofStr key pan.data.toList date.data.toList service.data.toList = value.data.toList then .ok else .no 12
    | e => e) := rfl
  have hl3 := ofStr_len key pan.data.toList date.data.toList service.data.toList
  generalize verEr key pan.data.toList date.data.toList service.data.toList value.data.toList = er at *
  generalize ofStr key pan.data.toList date.data.toList service.data.toList = V at *
  generalize key.length = n at *
  clear hA
  cases hE : ofEr key pan.data.toList date.data.toList service.data.toList with
  | no m =>
    rw [hE] at HO HV
    clear hE
    go_enter Tryd.func24, Tryd.ntmps24
    go_wp2_with fail
    refine (HO.out).mono ?_
    rintro e w1 ⟨⟨v, rfl, hv⟩, hb⟩
    obtain rfl : v = _ := hv
    go_wp2
    go_ret
    rw [HV.out]
    exact ⟨⟨_, rfl, rfl⟩, hb⟩
  | fa p m =>
    rw [hE] at HO HV
    clear hE
    go_enter Tryd.func24, Tryd.ntmps24
    go_wp2_with fail
    refine (HO.out).mono ?_
    rintro e w1 ⟨⟨v, rfl, hv⟩, hb⟩
    have hv' := hv
    obtain ⟨g, rfl, _⟩ := hv'
    go_wp2
    go_ret
    rw [HV.out]
    exact ⟨⟨_, rfl, hv⟩, hb⟩
  | ok =>
    rw [hE] at HO HV
    clear hE
    obtain ⟨X, hX⟩ : ∃ X : ByteArray, ⟨V.toArray⟩ = X := ⟨_, rfl⟩
    have hXV : V = X.data.toList := by rw [← hX]
    have hXs : X.size ≤ 3 := by rw [hXV] at hl3; simpa using hl3
    rw [hX] at HO
    rw [hXV] at HV
    clear hX hXV hl3
    go_enter Tryd.func24, Tryd.ntmps24
    go_wp2_with fail
    refine (HO.out).mono ?_
    rintro e w1 ⟨⟨v, rfl, hv⟩, hb⟩
    obtain rfl : v = _ := hv
    go_wp2_with (first
      | (refine wpList_to_bytes rfl 9 22 5 (.tmp 26) rfl X rfl Tryd.underlying9 Tryd.underlying22 Tryd.underlying5 ?_; intro c2 w2 hc2 hb2 hB2 hs2)
      | (refine wpList_to_bytes rfl 9 22 5 (.tmp 28) rfl value rfl Tryd.underlying9 Tryd.underlying22 Tryd.underlying5 ?_; intro c3 w3 hc3 hb3 hB3 hs3))
    have e1 := equal_any (sN X) (sN value) (some ⟨w1.heap.size, 0, none⟩) (some ⟨w2.heap.size, 0, none⟩) c2 c3 (sN_lt _) (sN_lt _) (by rw [sN_len]; omega) (by rw [sN_len]; omega) w3 (fun _ => ⟨_, _, rfl, hB2.below hb3 (by omega)⟩) (fun _ => ⟨_, _, rfl, hB3⟩)
    rw [sN_len, sN_len, hs2] at e1
    have hbw := hb.trans ((hb2.mono hb.size).trans (hb3.mono (by have := hb.size; omega)))
    by_cases hXv : X = value
    · have hd : decide (sN X = sN value) = true := decide_eq_true ((sN_inj X value).2 hXv)
      rw [hd] at e1
      rw [if_pos (by rw [hXv])] at HV
      clear hd hXv
      refine e1.mono ?_
      rintro e w4 ⟨rfl, n4, rfl⟩
      clear e1
      go_wp2
      go_ret
      rw [HV.out]
      exact ⟨⟨_, rfl, rfl⟩, below_drewN hbw _⟩
    · have hd : decide (sN X = sN value) = false := decide_eq_false (fun h => hXv ((sN_inj X value).1 h))
      rw [hd] at e1
      rw [if_neg (by intro h; exact hXv (by apply ByteArray.ext; exact Array.toList_inj.1 h))] at HV
      clear hd hXv
      refine e1.mono ?_
      rintro e w4 ⟨rfl, n4, rfl⟩
      clear e1
      go_wp2
      go_ret
      rw [HV.out]
      exact ⟨⟨_, rfl, rfl⟩, below_drewN hbw _⟩

/-- what cvv.Service answers -/
def svcEr (kind : Int) (card : List UInt8) : Er :=
  if kind = 1 then (if card.length ≠ 3 then .no 2 else wrEr card 0) else if kind = 2 ∨ kind = 3 then .ok else .no 1
def svcStr (kind : Int) (card : List UInt8) : List UInt8 := match svcEr kind card with
  | .ok => if kind = 1 then card else if kind = 2 then [48, 48, 48] else [57, 57, 57]
  | _ => []

set_option maxHeartbeats 1000000 in
theorem cvvService_any (kind : Int) (card : ByteArray) (hs : card.size ≤ 140737488351232) (w : World) :
    Calls Tryd.prog 20 #[.int .i64 kind, .string card] w fun e w' =>
      (∃ v, e = .returned (.tuple #[.string ⟨(svcStr kind card.data.toList).toArray⟩, v]) ∧ ErIs w' w.heap.size v (svcEr kind card.data.toList)) ∧ Below w.heap.size w w' := by
  have hlist : card.data.toList.length = card.size := by simp
  by_cases h1 : kind = 1
  · subst h1
    by_cases h3 : card.size = 3
    · have hE : svcEr 1 card.data.toList = wrEr card.data.toList 0 := by unfold svcEr; rw [if_pos rfl, if_neg (by omega)]
      have hS : svcStr 1 card.data.toList = match wrEr card.data.toList 0 with | .ok => card.data.toList | _ => [] := by unfold svcStr; rw [hE]; rfl
      rw [hE, hS]
      have t1 : ((card.size : Int) != 3) = false := by rw [bne_eq_false_iff_eq]; omega
      have HW := Lib.hid (fun W => cvvWrong_any card hs 0 (by omega) W)
      generalize wrEr card.data.toList 0 = er at *
      clear hE hS h3 hlist
      cases er with
      | no m =>
        go_enter Tryd.func20, Tryd.ntmps20
        go_wp2_with fail
        refine (HW.out _).mono ?_
        rintro e w1 ⟨⟨v, rfl, hv⟩, hb⟩
        obtain rfl : v = _ := hv
        go_wp2
        go_ret2
        exact ⟨⟨_, rfl, rfl⟩, hb⟩
      | fa p m =>
        go_enter Tryd.func20, Tryd.ntmps20
        go_wp2_with fail
        refine (HW.out _).mono ?_
        rintro e w1 ⟨⟨v, rfl, hv⟩, hb⟩
        have hv' := hv
        obtain ⟨g, rfl, _⟩ := hv'
        go_wp2
        go_ret2
        exact ⟨⟨_, rfl, hv⟩, hb⟩
      | ok =>
        go_enter Tryd.func20, Tryd.ntmps20
        go_wp2_with fail
        refine (HW.out _).mono ?_
        rintro e w1 ⟨⟨v, rfl, hv⟩, hb⟩
        obtain rfl : v = _ := hv
        go_wp2
        go_ret2
        exact ⟨⟨_, rfl, rfl⟩, hb⟩
    · have hE : svcEr 1 card.data.toList = .no 2 := by unfold svcEr; rw [if_pos rfl, if_pos (by omega)]
      have hS : svcStr 1 card.data.toList = [] := by unfold svcStr; rw [hE]
      rw [hE, hS]
      have t1 : ((card.size : Int) != 3) = true := by rw [bne_iff_ne]; omega
      clear hE hS h3 hlist
      go_enter Tryd.func20, Tryd.ntmps20
      go_wp2
      go_ret2
      exact ⟨⟨_, rfl, rfl⟩, Below.refl _ _⟩
  · by_cases h2 : kind = 2
    · subst h2
      have hE : svcEr 2 card.data.toList = .ok := by unfold svcEr; simp
      have hS : svcStr 2 card.data.toList = [48, 48, 48] := by unfold svcStr; rw [hE]; rfl
      rw [hE, hS]
      clear hE hS h1 hlist
      go_enter Tryd.func20, Tryd.ntmps20
      go_wp2
      go_ret2
      exact ⟨⟨_, rfl, rfl⟩, Below.refl _ _⟩
    · by_cases h3 : kind = 3
      · subst h3
        have hE : svcEr 3 card.data.toList = .ok := by unfold svcEr; simp
        have hS : svcStr 3 card.data.toList = [57, 57, 57] := by unfold svcStr; rw [hE]; rfl
        rw [hE, hS]
        clear hE hS h1 h2 hlist
        go_enter Tryd.func20, Tryd.ntmps20
        go_wp2
        go_ret2
        exact ⟨⟨_, rfl, rfl⟩, Below.refl _ _⟩
      · have hE : svcEr kind card.data.toList = .no 1 := by unfold svcEr; rw [if_neg h1, if_neg (by omega)]
        have hS : svcStr kind card.data.toList = [] := by unfold svcStr; rw [hE]
        rw [hE, hS]
        have t1 : (kind == 1) = false := by rw [beq_eq_false_iff_ne]; exact h1
        have t2 : (kind == 2) = false := by rw [beq_eq_false_iff_ne]; exact h2
        have t3 : (kind == 3) = false := by rw [beq_eq_false_iff_ne]; exact h3
        clear hE hS h1 h2 h3 hlist
        go_enter Tryd.func20, Tryd.ntmps20
        go_wp2
        go_ret2
        exact ⟨⟨_, rfl, rfl⟩, Below.refl _ _⟩
end Go.Proofs.YtgffppmpmjaknaaDoor
