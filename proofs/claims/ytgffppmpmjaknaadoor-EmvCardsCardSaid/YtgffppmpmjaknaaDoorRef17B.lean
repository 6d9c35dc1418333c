/- The contract of lockboxref17.Of, of every key and text. -/
import Derived.Test.YtgffppmpmjaknaaDoorRef17
import Derived.Test.YtgffppmpmjaknaaDoorCode
namespace Go.Proofs.YtgffppmpmjaknaaDoor
open Go Go.RowKit Pr

theorem wrEr_cases (s : List UInt8) (ah : Nat) : (∃ k, badAt isDec s = some k ∧ wrEr s ah = .fa ((ah : Int) + k) 16) ∨ (badAt isDec s = none ∧ wrEr s ah = .ok) := by
  unfold wrEr
  rcases badAt isDec s with _ | k
  · exact .inr ⟨rfl, rfl⟩
  · exact .inl ⟨k, rfl, rfl⟩
theorem ofEr_cases (key : List Nat) (pan date service : List UInt8) : ofEr key pan date service = .no 2 ∨ (∃ k : Nat, ofEr key pan date service = .fa k 16) ∨ ofEr key pan date service = .ok := by
  unfold ofEr cvvEr
  split
  · exact .inl rfl
  · rcases decEr_cases pan 13 19 with h | ⟨k, h⟩ | h <;> rw [h]
    · exact .inl rfl
    · exact .inr (.inl ⟨k, rfl⟩)
    · rcases wrEr_cases date 0 with ⟨k, _, h⟩ | ⟨_, h⟩ <;> rw [h]
      · exact .inr (.inl ⟨k, by simp⟩)
      · rcases wrEr_cases service 4 with ⟨k, _, h⟩ | ⟨_, h⟩ <;> rw [h]
        · exact .inr (.inl ⟨4 + k, by simp⟩)
        · exact .inr (.inr rfl)

set_option maxHeartbeats 2000000 in
set_option maxRecDepth 100000 in
theorem refOf_any (key : List Nat) (hkb : ∀ c ∈ key, c < 256) (A : Option Addr) (cp : Nat) (hcp : key.length ≤ cp) (pan date service : ByteArray) (hp : pan.size ≤ 100) (_hd : date.size ≤ 100) (_hs : service.size ≤ 100) (w : World) (hA : At w A key) :
    Calls Tryd.prog 27 #[.slice A key.length cp, .string pan, .string date, .string service] w fun e w' =>
      e = .returned (.tuple #[.string (str (ofStr key pan.data.toList date.data.toList service.data.toList)), .int .i64 (erCode (ofEr key pan.data.toList date.data.toList service.data.toList)), .int .i64 (erAt (ofEr key pan.data.toList date.data.toList service.data.toList))]) ∧ Below w.heap.size w w' := by
  have lp : pan.data.toList.length = pan.size := by simp
  have ld : date.data.toList.length = date.size := by simp
  have ls : service.data.toList.length = service.size := by simp
  by_cases hok : ofEr key pan.data.toList date.data.toList service.data.toList = .ok
  · have hl := (cvvEr_ok hok).1
    obtain ⟨b, o, rfl, hB⟩ := hA (by intro h; rw [h] at hl; cases hl)
    rw [ofStr_ok hok, hok, hl]
    have hok' := hok
    unfold ofEr at hok'
    rw [hl] at hok'
    exact refOf_ok pan date service key hl hkb hok' b o cp (by omega) w hB
  · rw [ofStr_bad hok]
    have hse : (str [] : ByteArray) = ⟨#[]⟩ := rfl
    rw [hse]
    clear hse hA
    by_cases hbad : key.length ≠ 16 ∨ date.size ≠ 4 ∨ service.size ≠ 3
    · have hr : ofEr key pan.data.toList date.data.toList service.data.toList = .no 2 := by unfold ofEr cvvEr; rw [ld, ls, if_pos hbad]
      rw [hr]
      have f1 : erCode (.no 2) = 2 := rfl
      have f2 : erAt (.no 2) = -1 := rfl
      rw [f1, f2]
      clear hr lp ld ls hok
      generalize key.length = n at *
      by_cases h1 : n = 16
      · by_cases h2 : date.size = 4
        · have h3 : service.size ≠ 3 := by omega
          have t1 : ((n : Int) != 16) = false := by rw [bne_eq_false_iff_eq]; omega
          have t2 : ((date.size : Int) != 4) = false := by rw [bne_eq_false_iff_eq]; omega
          have t3 : ((service.size : Int) != 3) = true := by rw [bne_iff_ne]; omega
          clear h1 h2 h3 hbad
          go_enter Tryd.func27, Tryd.ntmps27
          go_wp2
          go_ret3
          exact ⟨rfl, Below.refl _ _⟩
        · have t1 : ((n : Int) != 16) = false := by rw [bne_eq_false_iff_eq]; omega
          have t2 : ((date.size : Int) != 4) = true := by rw [bne_iff_ne]; omega
          clear h1 h2 hbad
          go_enter Tryd.func27, Tryd.ntmps27
          go_wp2
          go_ret3
          exact ⟨rfl, Below.refl _ _⟩
      · have t1 : ((n : Int) != 16) = true := by rw [bne_iff_ne]; omega
        clear h1 hbad
        go_enter Tryd.func27, Tryd.ntmps27
        go_wp2
        go_ret3
        exact ⟨rfl, Below.refl _ _⟩
    · have hr : ofEr key pan.data.toList date.data.toList service.data.toList = match decEr pan.data.toList 13 19 with
          | .ok => (match wrEr date.data.toList 0 with
            | .ok => wrEr service.data.toList 4
            | e => e)
          | e => e := by
        unfold ofEr cvvEr
        rw [ld, ls, if_neg hbad]
        cases decEr pan.data.toList 13 19 <;> first | rfl | (cases wrEr date.data.toList 0 <;> rfl)
      have hk16 : key.length = 16 := by omega
      have hd4 : date.size = 4 := by omega
      have hs3 : service.size = 3 := by omega
      rw [hk16]
      have t2 : ((date.size : Int) != 4) = false := by rw [bne_eq_false_iff_eq]; omega
      have t3 : ((service.size : Int) != 3) = false := by rw [bne_eq_false_iff_eq]; omega
      have HW := Lib.hid (fun W => wrongR_any pan (by omega) 13 19 (by omega) (by omega) W)
      rcases decEr_cases pan.data.toList 13 19 with h | ⟨k, h⟩ | h
      · rw [h] at HW hr
        rw [show ofEr key pan.data.toList date.data.toList service.data.toList = .no 2 from hr]
        have f1 : erCode (.no 2) = 2 := rfl
        have f2 : erAt (.no 2) = -1 := rfl
        rw [f1, f2] at HW ⊢
        clear hr h hok hbad hk16 hd4 hs3 lp ld ls
        go_enter Tryd.func27, Tryd.ntmps27
        go_wp2_with fail
        refine (HW.out _).mono ?_
        rintro e w1 ⟨rfl, rfl⟩
        go_wp2
        go_ret3
        exact ⟨rfl, Below.refl _ _⟩
      · rw [h] at HW hr
        rw [show ofEr key pan.data.toList date.data.toList service.data.toList = .fa k 16 from hr]
        have f1 : erCode (.fa (k : Int) 16) = 16 := rfl
        have f2 : erAt (.fa (k : Int) 16) = k := rfl
        rw [f1, f2] at HW ⊢
        clear hr h hok hbad hk16 hd4 hs3 lp ld ls
        go_enter Tryd.func27, Tryd.ntmps27
        go_wp2_with fail
        refine (HW.out _).mono ?_
        rintro e w1 ⟨rfl, rfl⟩
        go_wp2
        go_ret3
        exact ⟨rfl, Below.refl _ _⟩
      · rw [h] at HW hr
        simp only at hr
        have HF := Lib.hid (fun W => refFirst_any (date ++ service) (by rw [app_size]; omega) 10 (by omega) W)
        have hz : badZ (fun c => decide (valR c < 10)) (date ++ service).data.toList = badZ isDec (date.data.toList ++ service.data.toList) := by
          unfold badZ
          rw [badAt_congr valR_dec, app_list]
        rw [hz] at HF
        have f1 : erCode .ok = 0 := rfl
        have f2 : erAt .ok = -1 := rfl
        rw [f1, f2] at HW
        have b1 : ¬ 9223372036854775807 < date.size + service.size := by omega
        have hfin : ∃ k : Nat, badZ isDec (date.data.toList ++ service.data.toList) = (k : Int) ∧ ofEr key pan.data.toList date.data.toList service.data.toList = .fa k 16 := by
          unfold badZ
          rw [badAt_append, hr]
          rcases wrEr_cases date.data.toList 0 with ⟨k, hb, h⟩ | ⟨hb, h⟩
          · rw [hb, h]
            exact ⟨k, rfl, by simp⟩
          · rw [hb, h]
            rcases wrEr_cases service.data.toList 4 with ⟨k, hb2, h2⟩ | ⟨hb2, h2⟩
            · rw [hb2, h2]
              refine ⟨k + 4, by simp [ld, hd4], ?_⟩
              simp only
              congr 1
              omega
            · rw [h, h2] at hr
              exact absurd hr hok
        obtain ⟨k, hb1, hb2⟩ := hfin
        rw [hb1] at HF
        rw [hb2]
        have f3 : erCode (.fa (k : Int) 16) = 16 := rfl
        have f4 : erAt (.fa (k : Int) 16) = k := rfl
        rw [f3, f4]
        have hk0 : (0 : Int) ≤ (k : Int) := by omega
        clear hr h hok hbad hk16 hd4 hs3 lp ld ls hz hb1 hb2 f3 f4 f1 f2
        generalize hDS : date ++ service = DS at *
        have HDS := Lib.hid hDS; clear hDS
        go_enter Tryd.func27, Tryd.ntmps27
        go_wp2_with fail
        refine (HW.out _).mono ?_
        rintro e w1 ⟨rfl, rfl⟩
        go_wp2_with fail
        rw [HDS.out]
        refine (HF.out _).mono ?_
        rintro e w1 ⟨rfl, rfl⟩
        go_wp2
        go_ret3
        exact ⟨rfl, Below.refl _ _⟩
end Go.Proofs.YtgffppmpmjaknaaDoor
