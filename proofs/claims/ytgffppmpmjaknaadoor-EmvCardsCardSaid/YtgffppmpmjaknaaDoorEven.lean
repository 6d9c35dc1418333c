/- The contract of lockboxref09.Even. -/
import Derived.Test.YtgffppmpmjaknaaDoorRef3A
import Derived.Test.YtgffppmpmjaknaaDoorOdd
namespace Go.Proofs.YtgffppmpmjaknaaDoor
open Go Go.RowKit Pr

theorem bits8_sum (c : Nat) (h : c < 256) : decide ((bits8 c).sum % 2 = 0) = !oddB c := by
  have : ∀ c : Nat, c < 256 → decide ((bits8 c).sum % 2 = 0) = !oddB c := by decide +kernel
  exact this c h
/-- the place of the first number that is not so; -1: there is none -/
def firstNot (p : Nat → Bool) : List Nat → Int
  | [] => -1
  | c :: l => if p c then (if firstNot p l < 0 then -1 else firstNot p l + 1) else 0
theorem firstNot_none {p : Nat → Bool} : ∀ {l : List Nat}, (∀ c ∈ l, p c = true) → firstNot p l = -1
  | [], _ => rfl
  | c :: l, h => by rw [firstNot, if_pos (h c (by simp)), firstNot_none (fun x hx => h x (by simp [hx]))]; rfl
theorem firstNot_some {p : Nat → Bool} : ∀ {l : List Nat} {k : Nat} (hk : k < l.length), (∀ j (h : j < k), p (l[j]'(by omega)) = true) → p l[k] = false → firstNot p l = k
  | c :: l, 0, _, _, h => by
    have h' : p c = false := h
    rw [firstNot, h']; rfl
  | c :: l, k + 1, hk, h1, h2 => by
    have ih := firstNot_some (p := p) (l := l) (k := k) (by simpa using hk) (fun j hj => h1 (j + 1) (by omega)) h2
    have h0 : p c = true := h1 0 (by omega)
    rw [firstNot, if_pos h0, ih, if_neg (by omega)]
    omega
/-- the place of the first byte that is even; -1: there is none -/
def evenZ (l : List Nat) : Int := firstNot oddB l

set_option maxHeartbeats 2000000 in
set_option maxRecDepth 100000 in
theorem even_any (l : List Nat) (hl : ∀ c ∈ l, c < 256) (hlen : l.length ≤ 1000) (A : Option Addr) (cp : Nat) (hcp : l.length ≤ cp) (w : World) (hA : At w A l) :
    Calls Tryd.prog 18 #[.slice A l.length cp] w fun e w' => e = .returned (.int .i64 (evenZ l)) ∧ Below w.heap.size w w' := by
  obtain ⟨n, hn⟩ : ∃ n, l.length = n := ⟨_, rfl⟩
  rw [hn] at hlen hcp ⊢
  have HN := Lib.hid hn; clear hn
  have HLT := Lib.hid hl; clear hl
  have HA := Lib.hid hA; clear hA
  go_enter Tryd.func18, Tryd.ntmps18
  go_wp2
  go_loopw [3] (fun i wr => ∃ k : Nat, k ≤ n ∧ i = .int .i64 k ∧ Hid (∀ j (h : j < k) (h' : j < l.length), oddB l[j] = true) ∧ Below w.heap.size w wr ∧ w.heap.size ≤ wr.heap.size) (fun i _ => n - (intOf i).toNat)
  case atStart => exact ⟨0, by omega, rfl, (fun j h => by omega), Below.refl _ _, Nat.le_refl _⟩
  case round =>
    obtain ⟨k, hk, rfl, hall, hbel, hsz⟩ := hrel
    by_cases hlt : k < n
    · have hkl : k < l.length := by rw [HN.out]; exact hlt
      obtain ⟨b, o, rfl, hBs⟩ := HA.out (by intro h; rw [h] at hkl; cases hkl)
      have hblt := hBs.lt (by intro h; rw [h] at hkl; cases hkl)
      have hc := HLT.out l[k] (List.getElem_mem _)
      have hB1 : Bs wr b (o + k) [l[k]] := by
        have := (hBs.below hbel hblt).sub k 1
        rw [List.drop_eq_getElem_cons hkl, List.take_succ_cons, List.take_zero] at this
        exact this
      have hk1 : (k : Int) + 1 ≤ (cp : Int) := by omega
      have HBITS := Lib.hid (bits_any [l[k]] (by intro x hx; simp at hx; subst hx; exact hc) (by simp) (some ⟨b, o + k, none⟩) (cp - k) wr (fun _ => ⟨_, _, rfl, hB1⟩))
      rw [show ([l[k]] : List Nat).length = 1 from rfl, show bitsL [l[k]] = bits8 l[k] by simp [bitsL]] at HBITS
      have hpar := bits8_sum l[k] hc
      have hblen := bits8_len l[k]
      have hb2 := bits8_lt l[k]
      have hnext : oddB l[k] = true → Hid (∀ j (h : j < k + 1) (h' : j < l.length), oddB l[j] = true) := fun ho j h h' => by
        by_cases e : j = k
        · subst e; exact ho
        · exact hall.out j (by omega) h'
      have hend : oddB l[k] = false → evenZ l = k := fun ho => firstNot_some hkl (fun j hj => hall.out j hj (by omega)) ho
      generalize oddB l[k] = ob at *
      generalize bits8 l[k] = bl at *
      have HNEXT := Lib.hid hnext; clear hnext
      have HEND := Lib.hid hend; clear hend
      have HPAR := Lib.hid hpar; clear hpar
      have HBL := Lib.hid hblen; clear hblen
      have HB2 := Lib.hid hb2; clear hb2 hc hB1
      go_wp2_with fail
      refine HBITS.out.mono ?_
      rintro e w2 ⟨⟨v, rfl, hv⟩, hb2⟩
      have hbel2 := hbel.trans (hb2.mono hsz)
      obtain ⟨A2, cap2, rfl, hcap2, hA2⟩ := hv.form
      rw [HBL.out] at hcap2 ⊢
      obtain ⟨g2, o2, rfl, hN2⟩ := hA2 (by intro h; have := HBL.out; rw [h] at this; cases this)
      clear HBITS hv hA2
      go_wp2_with fail
      go_loopw [5, 6] (fun sm i wr => ∃ j S : Nat, j ≤ 8 ∧ i = .int .i64 j ∧ sm = .int .i64 S ∧ Hid ((bl.take j).sum = S) ∧ S ≤ j ∧ w2 = wr) (fun _ i _ => 8 - (intOf i).toNat)
      case atStart => exact ⟨0, 0, by omega, rfl, rfl, (by show (bl.take 0).sum = 0; simp), by omega, rfl⟩
      case round =>
        obtain ⟨j, S, hj, rfl, rfl, hS, hSj, rfl⟩ := hrel
        by_cases hj8 : j < 8
        · have hjl : j < bl.length := by rw [HBL.out]; exact hj8
          have hcell := hN2.cell j hjl
          have hlt2 := HB2.out bl[j] (List.getElem_mem _)
          have hst : Hid ((bl.take (j + 1)).sum = S + bl[j]) := by
            show (bl.take (j + 1)).sum = S + bl[j]
            rw [List.take_succ_eq_append_getElem hjl, List.sum_append, hS.out]; simp
          generalize bl[j] = x at *
          go_wp2
          go_roundw
          case rel => exact ⟨j + 1, S + x, by omega, by go_num, by go_num, hst, by omega, by trivial⟩
          case measure => simp [intOf]; omega
        · have hfull : bl.take j = bl := List.take_of_length_le (by rw [HBL.out]; omega)
          rw [hfull] at hS
          cases ob with
          | true =>
            have hodd : ¬ S % 2 = 0 := by
              have := HPAR.out
              rw [hS.out] at this
              simpa using this
            have t1 : ((S : Int) % 2 == 0) = false := by rw [beq_eq_false_iff_ne]; omega
            clear hodd hfull
            go_wp2
            go_roundw
            case rel => exact ⟨k + 1, by omega, by go_num, HNEXT.out rfl, hbel2, hbel2.size⟩
            case measure => simp [intOf]; omega
          | false =>
            have hev : S % 2 = 0 := by
              have := HPAR.out
              rw [hS.out] at this
              simpa using this
            have t1 : ((S : Int) % 2 == 0) = true := by rw [beq_iff_eq]; omega
            have hz := Lib.hid (HEND.out rfl)
            clear hev hfull
            go_wp2
            go_ret
            exact ⟨retI (by rw [hz.out]), hbel2⟩
    · have hz := Lib.hid (firstNot_none (p := oddB) (l := l) fun c hc => by
        obtain ⟨j, hj, rfl⟩ := List.getElem_of_mem hc
        exact hall.out j (by rw [HN.out] at hj; omega) hj)
      go_wp2
      go_ret
      exact ⟨retI (by unfold evenZ; rw [hz.out]), hbel⟩
end Go.Proofs.YtgffppmpmjaknaaDoor
