/- lockboxlaw14.PinOpens: the walk. -/
import Derived.Test.YtnkgglmfoimbhaaDoorMakes14
namespace Go.Proofs.YtnkgglmfoimbhaaDoor
open Go Go.RowKit Pr

theorem readEr_Z (l : List Nat) (f : Nat) : (readEr l f = .ok ∧ readZ l f = -1) ∨ (∃ k : Nat, readEr l f = .fa k 6 ∧ readZ l f = k ∧ readStr l f = []) := by
  unfold readEr readZ readStr
  cases readAt l f with
  | none => exact .inl ⟨rfl, rfl⟩
  | some k => exact .inr ⟨k, rfl, rfl, rfl⟩

set_option maxHeartbeats 4000000 in
set_option maxRecDepth 100000 in
theorem opens14 (f : Int) (b : List Nat) (hbl : b.length = 8) (hbb : ∀ c ∈ b, c < 256) (a : ByteArray) (ha : a.size ≤ 140737488351232) (w : World) (hG : EtOk w) :
    Calls Tryd.prog 4 #[.int .i64 f, .agg (byteCells b), .string a] w fun e w' => e = .returned (.bool true) ∧ Below w.heap.size w w' := by
  by_cases hsz : a.size ≤ 100
  · have HM := Lib.hid (fun W => open_any f b hbl hbb a ha W)
    have HW2 := Lib.hid (fun W => wrongR_any a ha 13 19 (by omega) (by omega) W)
    have hse : str [] = ⟨#[]⟩ := rfl
    have hcase : (¬ (f = 0 ∨ f = 1 ∨ f = 3) ∧ openEr f b a.data.toList = .no 1 ∧ str (openStr f b a.data.toList) = ⟨#[]⟩)
        ∨ ((f = 0 ∨ f = 1 ∨ f = 3) ∧ openEr f b a.data.toList = decEr a.data.toList 13 19 ∧ (erCode (decEr a.data.toList 13 19) != 0) = true ∧ str (openStr f b a.data.toList) = ⟨#[]⟩)
        ∨ ((f = 0 ∨ f = 1 ∨ f = 3) ∧ decEr a.data.toList 13 19 = .ok ∧ ∃ (z : Int), (∀ A cp W, At W A b → Calls Tryd.prog 19 #[.int .i64 f, .slice A 8 cp, .string a] W fun e w' =>
            e = .returned (.tuple #[.string (str (openStr f b a.data.toList)), .int .i64 z]) ∧ Below W.heap.size W w') ∧
            ((openEr f b a.data.toList = .ok ∧ z = -1) ∨ (∃ k : Nat, openEr f b a.data.toList = .fa k 6 ∧ z = k ∧ str (openStr f b a.data.toList) = ⟨#[]⟩))) := by
      by_cases hf : f = 0 ∨ f = 1 ∨ f = 3
      · by_cases hok : decEr a.data.toList 13 19 = .ok
        · have e1 : openEr f b a.data.toList = readEr (turnD f.toNat a.data.toList (nibN b)) f.toNat := by unfold openEr; rw [if_pos hf, hok]
          have e2 : openStr f b a.data.toList = readStr (turnD f.toNat a.data.toList (nibN b)) f.toNat := by unfold openStr; rw [if_pos hf, hok]
          obtain ⟨r1, r2, r3⟩ := field_ok a hok
          refine .inr (.inr ⟨hf, hok, readZ (turnD f.toNat a.data.toList (nibN b)) f.toNat, fun A cp W hA => ?_, ?_⟩)
          · rw [e2]
            obtain ⟨n, rfl⟩ : ∃ n : Nat, f = n := ⟨f.toNat, by omega⟩
            exact refOpen_any n (by omega) b hbl hbb A cp a r1 r2 r3 W hA
          · rw [e1, e2]
            rcases readEr_Z (turnD f.toNat a.data.toList (nibN b)) f.toNat with h | ⟨k, h1, h2, h3⟩
            · exact .inl h
            · exact .inr ⟨k, h1, h2, by rw [h3]; rfl⟩
        · refine .inr (.inl ⟨hf, ?_, ?_, ?_⟩)
          · unfold openEr; rw [if_pos hf]
            cases h : decEr a.data.toList 13 19 with
            | ok => exact absurd h hok
            | no m => rfl
            | fa q m => rfl
          · rcases decEr_cases a.data.toList 13 19 with e | ⟨k, e⟩ | e
            · rw [e]; rfl
            · rw [e]; rfl
            · exact absurd e hok
          · rw [← hse]; congr 1
            unfold openStr; rw [if_pos hf]
            cases h : decEr a.data.toList 13 19 with
            | ok => exact absurd h hok
            | no m => rfl
            | fa q m => rfl
      · refine .inl ⟨hf, ?_, ?_⟩
        · unfold openEr; rw [if_neg hf]
        · rw [← hse]; congr 1
          unfold openStr; rw [if_neg hf]
    clear hse
    generalize openEr f b a.data.toList = er at *
    generalize str (openStr f b a.data.toList) = S at *
    generalize decEr a.data.toList 13 19 = ea at *
    have HC := Lib.hid hcase; clear hcase
    have HBL := Lib.hid hbl; clear hbl hbb
    go_enter Tryd.func4, Tryd.ntmps4
    go_wp2_with fail
    refine (awake14_any _).mono ?_
    rintro e w1 ⟨rfl, hb1⟩
    have hF1 : Bs w1 w.heap.size 0 b := (Bs.of_blk (l := b) (Blk.new w _ _) (fun j c hj => by rw [Nat.zero_add]; exact hj)).below hb1 (by simp)
    have hbel1 := ((Below.refl w.heap.size w).alloc (Nat.le_refl _) (.cells (byteCells b) 22)).trans (hb1.mono (by simp))
    have hs1 : w.heap.size < w1.heap.size := by have := hb1.size; simp at this; omega
    clear hb1
    go_wp2_with (refine wpList_load_bs rfl 22 (.tmp 4) rfl w.heap.size 0 rfl b hF1 _ Tryd.underlying22 rfl (by rw [info_8u8, HBL.out]) ?_)
    refine (HM.out _).mono ?_
    rintro e w2 ⟨⟨v, rfl, hv⟩, hb2⟩
    have hbel2 := hbel1.trans (hb2.mono hbel1.size)
    have hF2 := hF1.below hb2 hs1
    have hs2 := hb2.size
    have HV2 := Lib.hid hv; clear hv hb2 hF1 HM
    rcases HC.out with ⟨hf, he, hz⟩ | ⟨hf, he, hne, hz⟩ | ⟨hf, hok, z, hM, hz⟩
    · have t0 : (f != 0) = true := by rw [bne_iff_ne]; omega
      have t1 : (f != 1) = true := by rw [bne_iff_ne]; omega
      have t3 : (f != 3) = true := by rw [bne_iff_ne]; omega
      subst he
      subst hz
      clear hf HC
      go_wp2_with fail
      refine (code_any _ _ _ _ HV2.out (hG.below hbel2 (Nat.le_refl _))).mono ?_
      rintro e W ⟨rfl, hb⟩
      have hbel := hbel2.trans (hb.mono hbel2.size)
      have f1 : erCode (.no 1) = 1 := rfl
      go_wp2
      go_ret
      exact ⟨rfl, hbel⟩
    · subst he
      subst hz
      clear HC
      have hE := hne
      rcases hf with rfl | rfl | rfl
      all_goals
        go_wp2_with fail
        refine (HW2.out _).mono ?_
        rintro e W0 ⟨rfl, rfl⟩
        go_wp2_with fail
        refine (code_any _ _ _ _ HV2.out (hG.below hbel2 (Nat.le_refl _))).mono ?_
        rintro e w10 ⟨rfl, hb⟩
        have hbel := hbel2.trans (hb.mono hbel2.size)
        have HV10 := Lib.hid (HV2.out.below hb (Nat.le_refl _))
        go_wp2_with fail
        refine (at_any _ _ _ _ HV10.out (hG.below hbel (Nat.le_refl _))).mono ?_
        rintro e W ⟨rfl, hb2⟩
        have hbelW := hbel.trans (hb2.mono hbel.size)
        go_wp2
        go_ret
        exact ⟨rfl, hbelW⟩
    · subst hok
      have HM := Lib.hid hM; clear hM HC
      have f1 : erCode .ok = 0 := rfl
      have f2 : erAt .ok = -1 := rfl
      rw [f1, f2] at HW2
      clear f1 f2
      rcases hz with ⟨he, hz⟩ | ⟨k, he, hz, hS⟩
      · subst he
        subst hz
        obtain rfl : v = _ := HV2.out
        rcases hf with rfl | rfl | rfl
        all_goals
          go_wp2_with fail
          refine (HW2.out _).mono ?_
          rintro e W0 ⟨rfl, rfl⟩
          go_wp2_with fail
          refine (HM.out _ _ _ (fun _ => ⟨_, _, rfl, hF2⟩)).mono ?_
          rintro e w10 ⟨rfl, hb⟩
          have hbel := hbel2.trans (hb.mono hbel2.size)
          go_wp2
          go_ret
          exact ⟨rfl, hbel⟩
      · subst he
        subst hz
        subst hS
        have hk0 : (0 : Int) ≤ (k : Int) := by omega
        rcases hf with rfl | rfl | rfl
        all_goals
          go_wp2_with fail
          refine (HW2.out _).mono ?_
          rintro e W0 ⟨rfl, rfl⟩
          go_wp2_with fail
          refine (HM.out _ _ _ (fun _ => ⟨_, _, rfl, hF2⟩)).mono ?_
          rintro e w10 ⟨rfl, hb⟩
          have hbel := hbel2.trans (hb.mono hbel2.size)
          have HV10 := Lib.hid (HV2.out.below hb (Nat.le_refl _))
          go_wp2_with fail
          refine (code_any _ _ _ _ HV10.out (hG.below hbel (Nat.le_refl _))).mono ?_
          rintro e w11 ⟨rfl, hb2⟩
          have hbel11 := hbel.trans (hb2.mono hbel.size)
          have HV11 := Lib.hid (HV10.out.below hb2 (Nat.le_refl _))
          have f1 : erCode (.fa (k : Int) 6) = 6 := rfl
          go_wp2_with fail
          refine (at_any _ _ _ _ HV11.out (hG.below hbel11 (Nat.le_refl _))).mono ?_
          rintro e W ⟨rfl, hb3⟩
          have hbelW := hbel11.trans (hb3.mono hbel11.size)
          have f2 : erAt (.fa (k : Int) 6) = k := rfl
          go_wp2
          go_ret
          exact ⟨rfl, hbelW⟩
  · have h1 : 100 < a.size := by omega
    clear hsz hbb
    go_enter Tryd.func4, Tryd.ntmps4
    go_wp2_with fail
    refine (awake14_any _).mono ?_
    rintro e w1 ⟨rfl, hb1⟩
    have hbel1 := ((Below.refl w.heap.size w).alloc (Nat.le_refl _) (.cells (byteCells b) 22)).trans (hb1.mono (by simp))
    go_wp2_with fail
    refine (awake14_any _).mono ?_
    rintro e w2 ⟨rfl, hb2⟩
    have hbel2 := hbel1.trans (hb2.mono hbel1.size)
    go_wp2
    go_ret
    exact ⟨rfl, hbel2⟩
end Go.Proofs.YtnkgglmfoimbhaaDoor
