/- lockboxlaw17.CvvServices: the walk. -/
import Derived.Test.YtgffppmpmjaknaaDoorLawA
import Derived.Test.YtgffppmpmjaknaaDoorCode
import Derived.Test.YtgffppmpmjaknaaDoorRef8
namespace Go.Proofs.YtgffppmpmjaknaaDoor
open Go Go.RowKit Pr

theorem self_bytes (s : ByteArray) : (⟨s.data.toList.toArray⟩ : ByteArray) = s := rfl

set_option maxHeartbeats 2000000 in
set_option maxRecDepth 100000 in
theorem services17 (kind : Int) (card : ByteArray) (hs : card.size ≤ 140737488351232) (w : World) (hG : EtOk w) :
    Calls Tryd.prog 11 #[.int .i64 kind, .string card] w fun e w' => e = .returned (.bool true) ∧ Below w.heap.size w w' := by
  have hlist : card.data.toList.length = card.size := by simp
  have HS := Lib.hid (fun W => cvvService_any kind card hs W)
  have hgl := hG.lt
  by_cases hbig : card.size ≤ 100
  · have hb1 : ¬ (100 : Int) < (card.size : Int) := by omega
    by_cases h2 : kind = 2
    · subst h2
      have hE : svcEr 2 card.data.toList = .ok := by unfold svcEr; simp
      have hT : svcStr 2 card.data.toList = [48, 48, 48] := by unfold svcStr; rw [hE]; rfl
      rw [hE, hT] at HS
      clear hE hT hlist
      go_enter Tryd.func11, Tryd.ntmps11
      go_wp2_with fail
      refine (awake17_any _).mono ?_
      rintro e w1 ⟨rfl, hb⟩
      go_wp2_with fail
      refine (HS.out _).mono ?_
      rintro e w2 ⟨⟨v, rfl, hv⟩, hb2⟩
      obtain rfl : v = _ := hv
      have hbb := hb.trans (hb2.mono hb.size)
      go_wp2
      go_ret
      exact ⟨rfl, hbb⟩
    · by_cases h3 : kind = 3
      · subst h3
        have hE : svcEr 3 card.data.toList = .ok := by unfold svcEr; simp
        have hT : svcStr 3 card.data.toList = [57, 57, 57] := by unfold svcStr; rw [hE]; rfl
        rw [hE, hT] at HS
        clear hE hT hlist h2
        go_enter Tryd.func11, Tryd.ntmps11
        go_wp2_with fail
        refine (awake17_any _).mono ?_
        rintro e w1 ⟨rfl, hb⟩
        go_wp2_with fail
        refine (HS.out _).mono ?_
        rintro e w2 ⟨⟨v, rfl, hv⟩, hb2⟩
        obtain rfl : v = _ := hv
        have hbb := hb.trans (hb2.mono hb.size)
        go_wp2
        go_ret
        exact ⟨rfl, hbb⟩
      · by_cases h1 : kind = 1
        · subst h1
          clear h2 h3
          by_cases h3 : card.size = 3
          · have hE : svcEr 1 card.data.toList = wrEr card.data.toList 0 := by unfold svcEr; rw [if_pos rfl, if_neg (by omega)]
            have t1 : ((card.size : Int) != 3) = false := by rw [bne_eq_false_iff_eq]; omega
            have HF := Lib.hid (fun W => refFirst10 card hs W)
            cases hbad : badAt isDec card.data.toList with
            | some k =>
              have hw : wrEr card.data.toList 0 = .fa ((0 : Nat) + (k : Int)) 16 := by unfold wrEr; rw [hbad]
              rw [hw] at hE
              have hT : svcStr 1 card.data.toList = [] := by unfold svcStr; rw [hE]
              have hz : badZ isDec card.data.toList = (k : Int) := by unfold badZ; rw [hbad]
              rw [hE, hT] at HS
              rw [hz] at HF
              have hk : k < 3 := by have := badAt_lt hbad; omega
              clear hE hT hlist hz hw hbad h3
              have e0 : ((0 : Nat) : Int) + (k : Int) = k := by simp
              rw [e0] at HS
              clear e0
              go_enter Tryd.func11, Tryd.ntmps11
              go_wp2_with fail
              refine (awake17_any _).mono ?_
              rintro e w1 ⟨rfl, hb⟩
              go_wp2_with fail
              refine (HS.out _).mono ?_
              rintro e w2 ⟨⟨v, rfl, hv⟩, hb2⟩
              have hbb := hb.trans (hb2.mono hb.size)
              go_wp2_with fail
              refine (HF.out _).mono ?_
              rintro e w' ⟨rfl, rfl⟩
              go_wp2_with fail
              refine (code_any v _ _ _ hv (hG.below hbb (Nat.le_refl _))).mono ?_
              rintro e w3 ⟨rfl, hb3⟩
              have hbc := hbb.trans (hb3.mono hbb.size)
              have hv3 := hv.below hb3 (Nat.le_refl _)
              go_wp2_with fail
              refine (at_any v _ _ _ hv3 (hG.below hbc (Nat.le_refl _))).mono ?_
              rintro e w4 ⟨rfl, hb4⟩
              have hbd := hbc.trans (hb4.mono hbc.size)
              have f1 : erCode (.fa (k : Int) 16) = 16 := rfl
              have f2 : erAt (.fa (k : Int) 16) = k := rfl
              rw [f2]
              clear hv hv3
              go_wp2
              go_ret
              exact ⟨rfl, hbd⟩
            | none =>
              have hw : wrEr card.data.toList 0 = .ok := by unfold wrEr; rw [hbad]
              rw [hw] at hE
              have hT : svcStr 1 card.data.toList = card.data.toList := by unfold svcStr; rw [hE]; rfl
              have hz : badZ isDec card.data.toList = -1 := by unfold badZ; rw [hbad]
              rw [hE, hT, self_bytes] at HS
              rw [hz] at HF
              clear hE hT hlist hz hw hbad h3
              go_enter Tryd.func11, Tryd.ntmps11
              go_wp2_with fail
              refine (awake17_any _).mono ?_
              rintro e w1 ⟨rfl, hb⟩
              go_wp2_with fail
              refine (HS.out _).mono ?_
              rintro e w2 ⟨⟨v, rfl, hv⟩, hb2⟩
              obtain rfl : v = _ := hv
              have hbb := hb.trans (hb2.mono hb.size)
              go_wp2_with fail
              refine (HF.out _).mono ?_
              rintro e w' ⟨rfl, rfl⟩
              go_wp2
              go_ret
              exact ⟨rfl, hbb⟩
          · have hE : svcEr 1 card.data.toList = .no 2 := by unfold svcEr; rw [if_pos rfl, if_pos (by omega)]
            have hT : svcStr 1 card.data.toList = [] := by unfold svcStr; rw [hE]
            have t1 : ((card.size : Int) != 3) = true := by rw [bne_iff_ne]; omega
            rw [hE, hT] at HS
            clear hE hT hlist h3
            go_enter Tryd.func11, Tryd.ntmps11
            go_wp2_with fail
            refine (awake17_any _).mono ?_
            rintro e w1 ⟨rfl, hb⟩
            go_wp2_with fail
            refine (HS.out _).mono ?_
            rintro e w2 ⟨⟨v, rfl, hv⟩, hb2⟩
            have hbb := hb.trans (hb2.mono hb.size)
            go_wp2_with fail
            refine (code_any v _ _ _ hv (hG.below hbb (Nat.le_refl _))).mono ?_
            rintro e w3 ⟨rfl, hb3⟩
            have hbc := hbb.trans (hb3.mono hbb.size)
            have f1 : erCode (.no 2) = 2 := rfl
            go_wp2
            go_ret
            exact ⟨rfl, hbc⟩
        · have hE : svcEr kind card.data.toList = .no 1 := by unfold svcEr; rw [if_neg h1, if_neg (by omega)]
          have hT : svcStr kind card.data.toList = [] := by unfold svcStr; rw [hE]
          rw [hE, hT] at HS
          have t1 : (kind == 2) = false := by rw [beq_eq_false_iff_ne]; exact h2
          have t2 : (kind == 3) = false := by rw [beq_eq_false_iff_ne]; exact h3
          have t3 : (kind != 1) = true := by rw [bne_iff_ne]; exact h1
          clear hE hT hlist h1 h2 h3
          go_enter Tryd.func11, Tryd.ntmps11
          go_wp2_with fail
          refine (awake17_any _).mono ?_
          rintro e w1 ⟨rfl, hb⟩
          go_wp2_with fail
          refine (HS.out _).mono ?_
          rintro e w2 ⟨⟨v, rfl, hv⟩, hb2⟩
          have hbb := hb.trans (hb2.mono hb.size)
          go_wp2_with fail
          refine (code_any v _ _ _ hv (hG.below hbb (Nat.le_refl _))).mono ?_
          rintro e w3 ⟨rfl, hb3⟩
          have hbc := hbb.trans (hb3.mono hbb.size)
          have f1 : erCode (.no 1) = 1 := rfl
          go_wp2
          go_ret
          exact ⟨rfl, hbc⟩
  · have hb1 : (100 : Int) < (card.size : Int) := by omega
    go_enter Tryd.func11, Tryd.ntmps11
    go_wp2_with fail
    refine (awake17_any _).mono ?_
    rintro e w1 ⟨rfl, hb⟩
    go_wp2_with fail
    refine (awake17_any _).mono ?_
    rintro e w2 ⟨rfl, hb2⟩
    go_wp2
    go_ret
    exact ⟨rfl, hb.trans (hb2.mono hb.size)⟩
end Go.Proofs.YtgffppmpmjaknaaDoor
