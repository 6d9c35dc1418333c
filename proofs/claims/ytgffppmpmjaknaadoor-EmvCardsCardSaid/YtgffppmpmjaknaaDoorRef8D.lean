/- The contracts of lockboxref09.Odd, lockboxref08.Hex, lockboxref16.Pick. -/
import Derived.Test.YtgffppmpmjaknaaDoorRef8C
namespace Go.Proofs.YtgffppmpmjaknaaDoor
open Go Go.RowKit Pr

theorem evenZ_one (c : Nat) : evenZ [c] = if oddB c then -1 else 0 := by
  unfold evenZ
  simp only [firstNot]
  cases oddB c <;> rfl
theorem oddN_ref (c : Nat) (h : c < 256) : oddN c = if oddB c then c else if c % 2 = 1 then c - 1 else c + 1 := by
  have : ∀ c : Nat, c < 256 → oddN c = if oddB c then c else if c % 2 = 1 then c - 1 else c + 1 := by decide +kernel
  exact this c h

set_option maxHeartbeats 2000000 in
set_option maxRecDepth 100000 in
theorem oddR_any (l : List Nat) (hl : ∀ c ∈ l, c < 256) (hlen : l.length ≤ 1000) (A : Option Addr) (cp : Nat) (w : World) (hA : At w A l) :
    Calls Tryd.prog 39 #[.slice A l.length cp] w fun e w' => (∃ v, e = .returned v ∧ Own w' w.heap.size v (l.map oddN)) ∧ Below w.heap.size w w' := by
  obtain ⟨n, hn⟩ : ∃ n, l.length = n := ⟨_, rfl⟩
  rw [hn] at hlen ⊢
  have HN := Lib.hid hn; clear hn
  have HLT := Lib.hid hl; clear hl
  have HA := Lib.hid hA; clear hA
  go_enter Tryd.func39, Tryd.ntmps39
  go_wp2
  go_loopw [3, 4, 5] (fun v i _ wr => ∃ k : Nat, k ≤ n ∧ i = .int .i64 k ∧ Own wr w.heap.size v ((l.take k).map oddN) ∧ Below w.heap.size w wr) (fun _ i _ _ => n - (intOf i).toNat)
  case atStart => exact ⟨0, by omega, rfl, Own.nil _ _, Below.refl _ _⟩
  case round =>
    obtain ⟨k, hk, rfl, hown, hbel⟩ := hrel
    by_cases hlt : k < n
    · have hki : (k : Int) < (n : Int) := by omega
      have hkl : k < l.length := by rw [HN.out]; exact hlt
      obtain ⟨b, o, rfl, hBs⟩ := HA.out (by intro h; rw [h] at hkl; cases hkl)
      have hblt := hBs.lt (by intro h; rw [h] at hkl; cases hkl)
      have hcell := (hBs.below hbel hblt).cell k hkl
      have hc := HLT.out l[k] (List.getElem_mem _)
      have hstep : (l.take (k + 1)).map oddN = (l.take k).map oddN ++ [oddN l[k]] := by rw [List.take_succ_eq_append_getElem hkl, List.map_append]; rfl
      have hll : ((l.take k).map oddN).length ≤ 1000 := by rw [List.length_map, List.length_take]; omega
      obtain ⟨c, hc0⟩ : ∃ c, l[k] = c := ⟨_, rfl⟩
      rw [hc0] at hc hcell hstep
      clear hc0
      have hof := oddN_ref c hc
      have hoc := oddN_lt c hc
      obtain ⟨T, hT⟩ : ∃ T, (l.take k).map oddN = T := ⟨_, rfl⟩
      rw [hT] at hstep hown hll
      clear hT
      have HST := Lib.hid hstep; clear hstep
      have HE := Lib.hid (fun g W hA => even_any [c] (by intro x hx; simp at hx; subst hx; exact hc) (by simp) (some ⟨g, 0, none⟩) 1 (by simp) W hA)
      rw [show ([c] : List Nat).length = 1 from rfl, evenZ_one] at HE
      have hszr : w.heap.size ≤ wr.heap.size := hbel.size
      have hBn : Bs (wr.alloc (.cells #[.int .u8 (c : Int)] 5)) wr.heap.size 0 [c] := Ns.new .u8 wr 5 c
      have hcx : ∀ W, Below w.heap.size w W → True := fun _ _ => trivial
      cases ho : oddB c with
      | true =>
        rw [ho] at HE hof
        rw [if_pos rfl] at HE hof
        rw [hof] at HST
        clear hof
        go_wp2_with fail
        refine (HE.out _ _ (fun _ => ⟨_, _, rfl, hBn⟩)).mono ?_
        rintro e w1 ⟨rfl, hb1⟩
        have hb2 : Below w.heap.size w w1 := (hbel.alloc hszr _).trans (hb1.mono (by simp; omega))
        have hown1 : OwnN 5 .u8 w1 w.heap.size _ T := OwnN.below hown (((Below.refl wr.heap.size wr).alloc (Nat.le_refl _) _).trans (hb1.mono (by simp))) (Nat.le_refl _)
        go_wp2_with (at_builtin; refine wpList_append_nums rfl (.tmp 27) (.tmp 29) 22 rfl .u8 5 1 Tryd.underlying22 info_byte w.heap.size w _ T rfl (OwnN.below hown1 ((Below.refl w1.heap.size w1).alloc (Nat.le_refl _) _) (Nat.le_refl _)) (hb2.alloc hb2.size _) (by have := hb2.size; simp; omega) _ 1 1 [c] rfl rfl ⟨_, _, rfl, Ns.new .u8 w1 5 c⟩ (by omega) (by omega) ?_; intro v5 w5 hown5 hbel5 hsz5)
        rw [← HST.out] at hown5
        go_wp2
        go_roundw
        case rel => exact ⟨k + 1, by omega, by go_num, hown5, hbel5⟩
        case measure => simp [intOf]; omega
      | false =>
        rw [ho] at HE hof
        rw [if_neg (by decide)] at HE hof
        by_cases h2 : c % 2 = 1
        · rw [if_pos h2] at hof
          have t1 : ((c : Int) % 2 == 1) = true := by rw [beq_iff_eq]; omega
          have e1 : IntKind.u8.wrap ((c : Int) - 1) = ((c - 1 : Nat) : Int) := by simp [IntKind.wrap, IntKind.bits, IntKind.signed]; omega
          obtain ⟨d, hd⟩ : ∃ d, c - 1 = d := ⟨_, rfl⟩
          rw [hd] at e1 hof
          rw [hof] at HST
          have e2 : (c : Int) - 1 = (d : Int) := by omega
          have E2 := Lib.hid e2; clear e2
          clear hof hd h2
          go_wp2_with fail
          refine (HE.out _ _ (fun _ => ⟨_, _, rfl, hBn⟩)).mono ?_
          rintro e w1 ⟨rfl, hb1⟩
          have hb2 : Below w.heap.size w w1 := (hbel.alloc hszr _).trans (hb1.mono (by simp; omega))
          have hown1 : OwnN 5 .u8 w1 w.heap.size _ T := OwnN.below hown (((Below.refl wr.heap.size wr).alloc (Nat.le_refl _) _).trans (hb1.mono (by simp))) (Nat.le_refl _)
          go_wp2_with (at_builtin; refine wpList_append_nums rfl (.tmp 27) (.tmp 29) 22 rfl .u8 5 1 Tryd.underlying22 info_byte w.heap.size w _ T rfl (OwnN.below hown1 ((Below.refl w1.heap.size w1).alloc (Nat.le_refl _) _) (Nat.le_refl _)) (hb2.alloc hb2.size _) (by have := hb2.size; simp; omega) _ 1 1 [d] rfl rfl ⟨_, _, rfl, by first | exact Ns.new .u8 w1 5 d | (rw [E2.out]; exact Ns.new .u8 w1 5 d)⟩ (by omega) (by omega) ?_; intro v5 w5 hown5 hbel5 hsz5)
          rw [← HST.out] at hown5
          go_wp2
          go_roundw
          case rel => exact ⟨k + 1, by omega, by go_num, hown5, hbel5⟩
          case measure => simp [intOf]; omega
        · rw [if_neg h2] at hof
          have t1 : ((c : Int) % 2 == 1) = false := by rw [beq_eq_false_iff_ne]; omega
          rw [hof] at hoc
          have e1 : IntKind.u8.wrap ((c : Int) + 1) = ((c + 1 : Nat) : Int) := by simp [IntKind.wrap, IntKind.bits, IntKind.signed]; omega
          obtain ⟨d, hd⟩ : ∃ d, c + 1 = d := ⟨_, rfl⟩
          rw [hd] at e1 hof
          rw [hof] at HST
          have e2 : (c : Int) + 1 = (d : Int) := by omega
          have E2 := Lib.hid e2; clear e2
          clear hof h2
          go_wp2_with fail
          refine (HE.out _ _ (fun _ => ⟨_, _, rfl, hBn⟩)).mono ?_
          rintro e w1 ⟨rfl, hb1⟩
          have hb2 : Below w.heap.size w w1 := (hbel.alloc hszr _).trans (hb1.mono (by simp; omega))
          have hown1 : OwnN 5 .u8 w1 w.heap.size _ T := OwnN.below hown (((Below.refl wr.heap.size wr).alloc (Nat.le_refl _) _).trans (hb1.mono (by simp))) (Nat.le_refl _)
          go_wp2_with (at_builtin; refine wpList_append_nums rfl (.tmp 27) (.tmp 29) 22 rfl .u8 5 1 Tryd.underlying22 info_byte w.heap.size w _ T rfl (OwnN.below hown1 ((Below.refl w1.heap.size w1).alloc (Nat.le_refl _) _) (Nat.le_refl _)) (hb2.alloc hb2.size _) (by have := hb2.size; simp; omega) _ 1 1 [d] rfl rfl ⟨_, _, rfl, by first | exact Ns.new .u8 w1 5 d | (rw [E2.out]; exact Ns.new .u8 w1 5 d)⟩ (by omega) (by omega) ?_; intro v5 w5 hown5 hbel5 hsz5)
          rw [← HST.out] at hown5
          go_wp2
          go_roundw
          case rel => exact ⟨k + 1, by omega, by go_num, hown5, hbel5⟩
          case measure => simp [intOf]; omega
    · have hfin : l.take k = l := List.take_of_length_le (by rw [HN.out]; omega)
      rw [hfin] at hown
      clear hfin
      go_wp2
      go_ret
      exact ⟨⟨_, rfl, hown⟩, hbel⟩
end Go.Proofs.YtgffppmpmjaknaaDoor
