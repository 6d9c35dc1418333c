/- The contract of lockboxref02.Same. -/
import Derived.Test.YtnkgglmfoimbhaaGreatDoorEqual
namespace Go.Proofs.YtnkgglmfoimbhaaGreatDoor
open Go Go.RowKit Pr

set_option maxHeartbeats 1000000 in
theorem same_any (la lb : List Nat) (A B : Option Addr) (ca cb : Nat) (_ha : ∀ c ∈ la, c < 256) (_hb : ∀ c ∈ lb, c < 256) (hla : la.length ≤ 140737488351232) (w : World) (hA : At w A la) (hB : At w B lb) :
    Calls Tryz.prog 25 #[.slice A la.length ca, .slice B lb.length cb] w fun e w' => e = .returned (.bool (decide (la = lb))) ∧ ∃ n, w' = w.drewN n := by
  by_cases hne : la.length = lb.length
  · obtain ⟨n, hn⟩ : ∃ n, la.length = n := ⟨_, rfl⟩
    have hn2 : lb.length = n := by rw [← hne, hn]
    rw [hn] at hla ⊢
    rw [hn2]
    have t1 : ((n : Int) != (n : Int)) = false := by simp
    have HN := Lib.hid hn; clear hn
    have HN2 := Lib.hid hn2; clear hn2 hne
    have HA := Lib.hid hA; clear hA
    have HB := Lib.hid hB; clear hB
    go_enter Tryz.func25, Tryz.ntmps25
    go_wp2
    go_loopw [5] (fun i wr => ∃ k : Nat, k ≤ n ∧ i = .int .i64 k ∧ Hid (la.take k = lb.take k) ∧ ∃ m, wr = w.drewN m) (fun i _ => n - (intOf i).toNat)
    case atStart => exact ⟨0, by omega, rfl, by show la.take 0 = lb.take 0; simp, 0, rfl⟩
    case round =>
      obtain ⟨k, hk, rfl, hrel, m, rfl⟩ := hrel
      by_cases hlt : k < n
      · have hka : k < la.length := by rw [HN.out]; exact hlt
        have hkb : k < lb.length := by rw [HN2.out]; exact hlt
        obtain ⟨b1, o1, rfl, hB1⟩ := HA.out (by intro h; rw [h] at hka; cases hka)
        obtain ⟨b2, o2, rfl, hB2⟩ := HB.out (by intro h; rw [h] at hkb; cases hkb)
        have c1 : w.cell? ⟨b1, o1 + k, none⟩ = some (.int .u8 (la[k] : Nat)) := hB1.cell k hka
        have c2 : w.cell? ⟨b2, o2 + k, none⟩ = some (.int .u8 (lb[k] : Nat)) := hB2.cell k hkb
        by_cases he : la[k] = lb[k]
        · have hst : Hid (la.take (k + 1) = lb.take (k + 1)) := by
            show la.take (k + 1) = lb.take (k + 1)
            rw [List.take_succ_eq_append_getElem hka, List.take_succ_eq_append_getElem hkb, hrel.out, he]
          have t2 : ((la[k] : Int) != (lb[k] : Int)) = false := by rw [he]; simp
          clear he
          generalize la[k] = x at *
          generalize lb[k] = y at *
          go_wp2
          go_quiet (fail)
          go_wp2
          go_roundw
          case rel => exact ⟨k + 1, by omega, by go_num, hst, _, rfl⟩
          case measure => simp [intOf]; omega
        · have hd : decide (la = lb) = false := decide_eq_false (fun h => he (by subst h; rfl))
          have HD := Lib.hid hd; clear hd
          have t2 : ((la[k] : Int) != (lb[k] : Int)) = true := by rw [bne_iff_ne]; omega
          clear he
          generalize la[k] = x at *
          generalize lb[k] = y at *
          go_wp2
          go_quiet (fail)
          go_wp2
          go_ret
          exact ⟨by rw [HD.out]; rfl, _, World.drewN_drewN _ _ _⟩
      · have hfin : decide (la = lb) = true := by
          have h1 : la.take k = la := List.take_of_length_le (by rw [HN.out]; omega)
          have h2 : lb.take k = lb := List.take_of_length_le (by rw [HN2.out]; omega)
          have := hrel.out
          rw [h1, h2] at this
          exact decide_eq_true this
        have HF := Lib.hid hfin; clear hfin
        go_wp2
        go_ret
        exact ⟨by rw [HF.out]; rfl, _, rfl⟩
  · have t1 : ((la.length : Int) != (lb.length : Int)) = true := by rw [bne_iff_ne]; omega
    have hd : decide (la = lb) = false := decide_eq_false (fun h => hne (by rw [h]))
    have HD := Lib.hid hd; clear hd
    go_enter Tryz.func25, Tryz.ntmps25
    go_wp2
    go_ret
    exact ⟨by rw [HD.out]; rfl, 0, rfl⟩
end Go.Proofs.YtnkgglmfoimbhaaGreatDoor
