/- The contracts of cvv.wrong, cvv.right. -/
import Derived.Test.YtgffppmpmjaknaaDoorPin
namespace Go.Proofs.YtgffppmpmjaknaaDoor
open Go Go.RowKit Pr

def wrEr (s : List UInt8) (ahead : Nat) : Er := match badAt isDec s with | some k => .fa ((ahead : Int) + k) 16 | none => .ok

set_option maxHeartbeats 1000000 in
theorem cvvWrong_any (s : ByteArray) (hs : s.size ≤ 140737488351232) (ah : Nat) (hah : ah ≤ 100) (w : World) :
    Calls Tryd.prog 40 #[.string s, .int .i64 ah] w fun e w' => (∃ v, e = .returned v ∧ ErIs w' w.heap.size v (wrEr s.data.toList ah)) ∧ Below w.heap.size w w' := by
  have HR : Hid (wrEr s.data.toList ah = match badAt isDec s.data.toList with | some k => .fa ((ah : Int) + k) 16 | none => .ok) := rfl
  go_enter Tryd.func40, Tryd.ntmps40
  go_wp2
  go_loop [8] (fun i => ∃ k : Nat, k ≤ s.size ∧ i = .int .i64 k ∧ Hid (∀ j (h : j < k) (h' : j < s.size), isDec s[j] = true)) (fun i => s.size - (intOf i).toNat)
  case atStart => exact ⟨0, by omega, rfl, fun j h => by omega⟩
  case round =>
    obtain ⟨k, hk, rfl, hall⟩ := hrel
    by_cases hlt : k < s.size
    · have hd := fun W => decimal_one s k hlt W
      obtain ⟨c, hc⟩ : ∃ c, s[k] = c := ⟨_, rfl⟩
      simp only [hc] at hd
      have HC := Lib.hid hc; clear hc
      cases hcd : isDec c with
      | true =>
        rw [hcd] at hd
        have HD := Lib.hid hd; clear hd
        have HCD := Lib.hid hcd; clear hcd
        go_wp2_with (go_at_call 32; refine (HD.out _).mono ?_; rintro e w' ⟨rfl, rfl⟩)
        go_round
        case rel => exact ⟨k + 1, by omega, by go_num, fun j h h' => by
          by_cases e : j = k
          · subst e; rw [HC.out]; exact HCD.out
          · exact hall.out j (by omega) h'⟩
        case measure => simp [intOf]; omega
      | false =>
        rw [hcd] at hd
        have HD := Lib.hid hd; clear hd
        have hfin : badAt isDec s.data.toList = some k := badAt_some (k := k) (by simpa using hlt) (fun j hj => hall.out j hj (by omega)) (by show isDec s[k] = false; rw [HC.out]; exact hcd)
        rw [hfin] at HR
        clear hfin hcd
        go_wp2_with (go_at_call 32; refine (HD.out _).mono ?_; rintro e w' ⟨rfl, rfl⟩)
        go_ret
        rw [HR.out]
        exact ⟨⟨_, rfl, _, rfl, Nat.le_refl _, Blk.new _ _ _⟩, (Below.refl _ _).alloc (Nat.le_refl _) _⟩
    · have hfin : badAt isDec s.data.toList = none := badAt_none fun c hc => by
        obtain ⟨j, hj, rfl⟩ := List.getElem_of_mem hc
        have hj' : j < s.size := by simpa using hj
        exact hall.out j (by omega) hj'
      rw [hfin] at HR
      clear hfin
      go_wp2
      go_ret
      rw [HR.out]
      exact ⟨⟨_, rfl, rfl⟩, Below.refl _ _⟩

def cvvEr (n : Nat) (pan date service : List UInt8) : Er :=
  if n ≠ 16 ∨ date.length ≠ 4 ∨ service.length ≠ 3 then .no 2 else
  match decEr pan 13 19 with
  | .ok => (match wrEr date 0 with
    | .ok => wrEr service 4
    | e => e)
  | e => e

set_option maxHeartbeats 2000000 in
theorem cvvRight_any (A : Option Addr) (n cp : Nat) (pan date service : ByteArray) (hp : pan.size ≤ 140737488351232) (hd : date.size ≤ 140737488351232) (hs : service.size ≤ 140737488351232) (w : World) :
    Calls Tryd.prog 41 #[.slice A n cp, .string pan, .string date, .string service] w fun e w' => (∃ v, e = .returned v ∧ ErIs w' w.heap.size v (cvvEr n pan.data.toList date.data.toList service.data.toList)) ∧ Below w.heap.size w w' := by
  have l1 : date.data.toList.length = date.size := by simp
  have l2 : service.data.toList.length = service.size := by simp
  have HA := Lib.hid (fun W => account_any pan hp W)
  have HD := Lib.hid (fun W => cvvWrong_any date hd 0 (by omega) W)
  have HS := Lib.hid (fun W => cvvWrong_any service hs 4 (by omega) W)
  by_cases hbad : n ≠ 16 ∨ date.size ≠ 4 ∨ service.size ≠ 3
  · have hr : cvvEr n pan.data.toList date.data.toList service.data.toList = .no 2 := by unfold cvvEr; rw [l1, l2, if_pos hbad]
    rw [hr]
    clear hr l1 l2
    by_cases h1 : n = 16
    · by_cases h2 : date.size = 4
      · have h3 : service.size ≠ 3 := by omega
        have t1 : ((n : Int) != 16) = false := by rw [bne_eq_false_iff_eq]; omega
        have t2 : ((date.size : Int) != 4) = false := by rw [bne_eq_false_iff_eq]; omega
        have t3 : ((service.size : Int) != 3) = true := by rw [bne_iff_ne]; omega
        clear h1 h2 h3 hbad
        go_enter Tryd.func41, Tryd.ntmps41
        go_wp2
        go_ret
        exact ⟨⟨_, rfl, rfl⟩, Below.refl _ _⟩
      · have t1 : ((n : Int) != 16) = false := by rw [bne_eq_false_iff_eq]; omega
        have t2 : ((date.size : Int) != 4) = true := by rw [bne_iff_ne]; omega
        clear h1 h2 hbad
        go_enter Tryd.func41, Tryd.ntmps41
        go_wp2
        go_ret
        exact ⟨⟨_, rfl, rfl⟩, Below.refl _ _⟩
    · have t1 : ((n : Int) != 16) = true := by rw [bne_iff_ne]; omega
      clear h1 hbad
      go_enter Tryd.func41, Tryd.ntmps41
      go_wp2
      go_ret
      exact ⟨⟨_, rfl, rfl⟩, Below.refl _ _⟩
  · have hr : cvvEr n pan.data.toList date.data.toList service.data.toList = match decEr pan.data.toList 13 19 with
        | .ok => (match wrEr date.data.toList 0 with
          | .ok => wrEr service.data.toList 4
          | e => e)
        | e => e := by unfold cvvEr; rw [l1, l2, if_neg hbad]
    have t1 : ((n : Int) != 16) = false := by rw [bne_eq_false_iff_eq]; omega
    have t2 : ((date.size : Int) != 4) = false := by rw [bne_eq_false_iff_eq]; omega
    have t3 : ((service.size : Int) != 3) = false := by rw [bne_eq_false_iff_eq]; omega
    rw [hr]
    clear hr hbad l1 l2
    generalize decEr pan.data.toList 13 19 = ea at *
    generalize wrEr date.data.toList 0 = ed at *
    generalize wrEr service.data.toList 4 = es at *
    have hret : ∀ (e : Er), e = e := fun _ => rfl
    cases ea with
    | no m =>
      go_enter Tryd.func41, Tryd.ntmps41
      go_wp2_with fail
      refine (HA.out _).mono ?_
      rintro e w1 ⟨⟨v, rfl, hv⟩, hb⟩
      obtain rfl : v = _ := hv
      go_wp2
      go_ret
      exact ⟨⟨_, rfl, rfl⟩, hb⟩
    | fa p m =>
      go_enter Tryd.func41, Tryd.ntmps41
      go_wp2_with fail
      refine (HA.out _).mono ?_
      rintro e w1 ⟨⟨v, rfl, hv⟩, hb⟩
      have hv' := hv
      obtain ⟨g, rfl, _⟩ := hv'
      go_wp2
      go_ret
      exact ⟨⟨_, rfl, hv⟩, hb⟩
    | ok =>
      go_enter Tryd.func41, Tryd.ntmps41
      go_wp2_with fail
      refine (HA.out _).mono ?_
      rintro e w1 ⟨⟨v, rfl, hv⟩, hb⟩
      obtain rfl : v = _ := hv
      go_wp2_with fail
      refine (HD.out _).mono ?_
      rintro e w2 ⟨⟨v, rfl, hv⟩, hb2⟩
      have hb12 := hb.trans (hb2.mono hb.size)
      cases ed with
      | no m =>
        obtain rfl : v = _ := hv
        go_wp2
        go_ret
        exact ⟨⟨_, rfl, rfl⟩, hb12⟩
      | fa p m =>
        have hv' := hv
        obtain ⟨g, rfl, _⟩ := hv'
        go_wp2
        go_ret
        exact ⟨⟨_, rfl, hv.more hb.size⟩, hb12⟩
      | ok =>
        obtain rfl : v = _ := hv
        go_wp2_with fail
        refine (HS.out _).mono ?_
        rintro e w3 ⟨⟨v, rfl, hv⟩, hb3⟩
        go_wp2
        go_ret
        exact ⟨⟨_, rfl, hv.more hb12.size⟩, hb12.trans (hb3.mono hb12.size)⟩
end Go.Proofs.YtgffppmpmjaknaaDoor
