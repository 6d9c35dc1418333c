/- head.number, head.ahead, head.Right; lockboxref10.in, pair, Wrong. -/
import Derived.Test.YtcjnkobddeiahaaDoorHeadA
namespace Go.Proofs.YtcjnkobddeiahaaDoor
open Go Go.RowKit Pr
namespace Pr
theorem isIn_mem (l : List UInt8) (c : UInt8) : isIn l c = decide (c ∈ l) := by
  unfold isIn
  rw [Bool.eq_iff_iff, decide_eq_true_eq, decide_eq_true_eq]
  induction l with
  | nil => simp [Lib.indexByte]
  | cons b l ih =>
    have hge := Lib.indexByte_ge l c
    rw [Lib.indexByte]
    by_cases h : b = c
    · subst h; simp
    · have h1 : (b == c) = false := beq_eq_false_iff_ne.2 h
      rw [h1]
      simp only [List.mem_cons, Bool.false_eq_true, if_false]
      by_cases h2 : Lib.indexByte l c = -1
      · rw [h2]
        simp only [beq_self_eq_true, if_true]
        constructor
        · intro h'; omega
        · rintro (h' | h')
          · exact absurd h'.symm h
          · have := ih.2 h'; omega
      · have h3 : (Lib.indexByte l c == -1) = false := beq_eq_false_iff_ne.2 h2
        rw [h3]
        simp only [Bool.false_eq_true, if_false]
        constructor
        · intro _; exact .inr (ih.1 (by omega))
        · intro _; omega
def numF (l : List UInt8) : Nat := l.foldl (fun a c => 10 * a + (c.toNat - 48)) 0
theorem numF_snoc (l : List UInt8) (c : UInt8) : numF (l ++ [c]) = 10 * numF l + (c.toNat - 48) := by simp [numF]
theorem numF_lt (l : List UInt8) (h : ∀ c ∈ l, isDec c = true) : numF l < 10 ^ l.length := by
  revert h
  refine snoc_ind (C := fun l => (∀ c ∈ l, isDec c = true) → numF l < 10 ^ l.length) (fun _ => by simp [numF]) (fun l c ih h => ?_) l
  have h1 := ih (fun x hx => h x (List.mem_append_left _ hx))
  have h2 : 48 ≤ c.toNat ∧ c.toNat ≤ 57 := of_decide_eq_true (h c (by simp))
  rw [numF_snoc, List.length_append, List.length_singleton, Nat.pow_succ]
  omega
end Pr

set_option maxHeartbeats 1000000 in
theorem numberH_any (s : ByteArray) (hs : s.size ≤ 9) (w : World) :
    Calls Tryd.prog 20 #[.string s] w fun e w' => e = .returned (.int .i64 (numZ s.data.toList)) ∧ w = w' := by
  have hlist : s.data.toList.length = s.size := by simp
  have HLL := Lib.hid hlist; clear hlist
  obtain ⟨R, hR⟩ : ∃ R, numZ s.data.toList = R := ⟨_, rfl⟩
  rw [hR]
  have HR := Lib.hid hR; clear hR
  go_enter Tryd.func20, Tryd.ntmps20
  go_wp2
  go_loop [3, 4, 7] (fun n _ i => ∃ k : Nat, k ≤ s.size ∧ i = .int .i64 k ∧ n = .int .i64 (numF (s.data.toList.take k) : Nat) ∧ Hid (∀ c ∈ s.data.toList.take k, isDec c = true)) (fun _ _ i => s.size - (intOf i).toNat)
  case atStart => exact ⟨0, by omega, rfl, rfl, fun j h => by cases h⟩
  case round =>
    obtain ⟨k, hk, rfl, rfl, hall⟩ := hrel
    by_cases hlt : k < s.size
    · have hki : (k : Int) < (s.size : Int) := by omega
      have hkl : k < s.data.toList.length := by rw [HLL.out]; exact hlt
      have i1 := index_str (P := Tryd.prog) 9 Tryd.underlying9 s k hlt k rfl _ rfl
      have hsn : numF (s.data.toList.take (k + 1)) = 10 * numF (s.data.toList.take k) + (s[k].toNat - 48) := by rw [List.take_succ_eq_append_getElem hkl, numF_snoc]; rfl
      have hnl := numF_lt _ hall.out
      have hp : 10 ^ (s.data.toList.take k).length ≤ 10 ^ 9 := Nat.pow_le_pow_right (by omega) (by rw [List.length_take]; omega)
      have hnext : isDec s[k] = true → Hid (∀ c ∈ s.data.toList.take (k + 1), isDec c = true) := fun hd c hc => by
        rw [List.take_succ_eq_append_getElem hkl] at hc
        rcases List.mem_append.1 hc with h | h
        · exact hall.out c h
        · simp at h; subst h; exact hd
      obtain ⟨c, hc⟩ : ∃ c, s[k] = c := ⟨_, rfl⟩
      rw [hc] at i1 hsn hnext
      have hcl := c.toNat_lt
      have hN : numF (s.data.toList.take k) < 1000000000 := Nat.lt_of_lt_of_le hnl hp
      by_cases hd : 48 ≤ c.toNat ∧ c.toNat ≤ 57
      · have hn := hnext (decide_eq_true hd)
        obtain ⟨h2a, h2b⟩ := hd
        generalize numF (s.data.toList.take k) = N at *
        have e1 : 10 * (N : Int) + ((c.toNat : Int) - 48) = ((10 * N + (c.toNat - 48) : Nat) : Int) := by omega
        rw [← hsn] at e1
        have E1 := Lib.hid e1; clear e1
        have q2 : (48 : Int) ≤ (c.toNat : Int) := by omega
        have q3 : (c.toNat : Int) ≤ 57 := by omega
        clear hnext hsn hnl hp hc
        go_wp2
        go_round
        case rel => exact ⟨k + 1, by omega, by go_num, by rw [E1.out], hn⟩
        case measure => simp [intOf]; omega
      · have hfin : numZ s.data.toList = -1 := by
          unfold numZ
          rw [if_neg]
          intro h
          have := List.all_eq_true.1 h s[k] (List.getElem_mem (l := s.data.toList) hkl)
          rw [hc] at this
          exact hd (of_decide_eq_true this)
        have HFIN := Lib.hid hfin; clear hfin
        clear hnext hsn hnl hp hc
        generalize numF (s.data.toList.take k) = N at *
        by_cases a1 : c.toNat < 48
        · have q1 : (c.toNat : Int) < 48 := by omega
          go_wp2
          go_ret
          exact ⟨by rw [← HR.out, HFIN.out]; rfl, rfl⟩
        · have q1 : ¬ (c.toNat : Int) < 48 := by omega
          have q2 : (57 : Int) < (c.toNat : Int) := by omega
          go_wp2
          go_ret
          exact ⟨by rw [← HR.out, HFIN.out]; rfl, rfl⟩
    · have hki : ¬ (k : Int) < (s.size : Int) := by omega
      have hfin : s.data.toList.take k = s.data.toList := List.take_of_length_le (by rw [HLL.out]; omega)
      rw [hfin] at hall ⊢
      have hz : numZ s.data.toList = (numF s.data.toList : Nat) := by unfold numZ; rw [if_pos (List.all_eq_true.2 hall.out)]; rfl
      have HZ := Lib.hid hz; clear hz hfin
      go_wp2
      go_ret
      exact ⟨by rw [← HR.out, HZ.out]; rfl, rfl⟩

set_option maxHeartbeats 1000000 in
theorem inR_any (c : UInt8) (x : Int) (hx : x = c.toNat) (s : ByteArray) (hs : s.size ≤ 1000) (w : World) :
    Calls Tryd.prog 25 #[.int .u8 x, .string s] w fun e w' => e = .returned (.bool (isIn s.data.toList c)) ∧ w = w' := by
  subst hx
  rw [isIn_mem]
  obtain ⟨R, hR⟩ : ∃ R, decide (c ∈ s.data.toList) = R := ⟨_, rfl⟩
  rw [hR]
  have HR := Lib.hid hR; clear hR
  go_enter Tryd.func25, Tryd.ntmps25
  go_wp2
  go_loop [5] (fun i => ∃ k : Nat, k ≤ s.size ∧ i = .int .i64 k ∧ Hid (∀ j (h : j < k) (h' : j < s.size), s[j] ≠ c)) (fun i => s.size - (intOf i).toNat)
  case atStart => exact ⟨0, by omega, rfl, fun j h => by omega⟩
  case round =>
    obtain ⟨k, hk, rfl, hall⟩ := hrel
    by_cases hlt : k < s.size
    · have hki : (k : Int) < (s.size : Int) := by omega
      have i1 := index_str (P := Tryd.prog) 9 Tryd.underlying9 s k hlt k rfl _ rfl
      by_cases he : s[k] = c
      · have hd : decide (c ∈ s.data.toList) = true := decide_eq_true (by rw [← he]; exact List.getElem_mem (l := s.data.toList) (by simpa using hlt))
        have HD := Lib.hid hd; clear hd
        rw [he] at i1
        clear he
        go_wp2
        go_ret
        exact ⟨by rw [← HR.out, HD.out]; rfl, rfl⟩
      · have hnext : Hid (∀ j (h : j < k + 1) (h' : j < s.size), s[j] ≠ c) := fun j h h' => by
          by_cases e : j = k
          · subst e; exact he
          · exact hall.out j (by omega) h'
        have t1 : ((s[k].toNat : Int) == (c.toNat : Int)) = false := by
          rw [beq_eq_false_iff_ne]
          intro h
          exact he (UInt8.toNat_inj.1 (by omega))
        have t2 : ¬ s[k].toNat = c.toNat := fun h => he (UInt8.toNat_inj.1 h)
        generalize s[k].toNat = y at *
        clear he
        go_wp2
        go_round
        case rel => exact ⟨k + 1, by omega, by go_num, hnext⟩
        case measure => simp [intOf]; omega
    · have hd : decide (c ∈ s.data.toList) = false := decide_eq_false fun hc => by
        obtain ⟨j, hj, e⟩ := List.getElem_of_mem hc
        have hj' : j < s.size := by simpa using hj
        exact hall.out j (by omega) hj' e
      have HD := Lib.hid hd; clear hd
      have hki : ¬ (k : Int) < (s.size : Int) := by omega
      go_wp2
      go_ret
      exact ⟨by rw [← HR.out, HD.out]; rfl, rfl⟩

set_option maxHeartbeats 1000000 in
theorem pairR_any (s : ByteArray) (_hs : s.size ≤ 140737488351232) (w : World) :
    Calls Tryd.prog 26 #[.string s] w fun e w' => e = .returned (.bool (letB s.data.toList)) ∧ w = w' := by
  have hlist : s.data.toList.length = s.size := by simp
  by_cases h2 : s.size = 2
  · have i1 := index_str (P := Tryd.prog) 9 Tryd.underlying9 s 0 (by omega) 0 rfl _ rfl
    have i2 := index_str (P := Tryd.prog) 9 Tryd.underlying9 s 1 (by omega) 1 rfl _ rfl
    have hr : letB s.data.toList = (isLet (s[0]'(by omega)) && isLet (s[1]'(by omega))) := by
      unfold letB
      rw [hlist, decide_eq_true h2, Bool.true_and]
      have hl : s.data.toList = [s[0]'(by omega), s[1]'(by omega)] := by
        apply List.ext_getElem
        · rw [hlist]; exact h2
        · intro i a b
          rcases (by simp at b; omega : i = 0 ∨ i = 1) with rfl | rfl <;> rfl
      rw [hl]
      simp
    rw [hr]
    have H1 := Lib.hid (fun W => inR_any (s[0]'(by omega)) _ rfl ⟨allLet.toArray⟩ (by decide) W)
    have H2 := Lib.hid (fun W => inR_any (s[1]'(by omega)) _ rfl ⟨allLet.toArray⟩ (by decide) W)
    have hal : (⟨allLet.toArray⟩ : ByteArray).data.toList = allLet := rfl
    rw [hal, isIn_let] at H1 H2
    unfold allLet at H1 H2
    generalize isLet (s[0]'(by omega)) = p1 at *
    generalize isLet (s[1]'(by omega)) = p2 at *
    generalize (s[0]'(by omega)).toNat = y1 at *
    generalize (s[1]'(by omega)).toNat = y2 at *
    have t2 : ((s.size : Int) == 2) = true := by rw [beq_iff_eq]; omega
    clear hr hlist hal
    go_enter Tryd.func26, Tryd.ntmps26
    go_wp2_with fail
    refine (H1.out _).mono ?_
    rintro e w1 ⟨rfl, rfl⟩
    cases p1 with
    | false =>
      go_wp2
      go_ret
      exact ⟨rfl, rfl⟩
    | true =>
      go_wp2_with fail
      refine (H2.out _).mono ?_
      rintro e w1 ⟨rfl, rfl⟩
      go_wp2
      go_ret
      exact ⟨rfl, rfl⟩
  · have hr : letB s.data.toList = false := by unfold letB; rw [hlist, decide_eq_false h2]; rfl
    rw [hr]
    have t2 : ((s.size : Int) == 2) = false := by rw [beq_eq_false_iff_ne]; omega
    clear hr hlist h2
    go_enter Tryd.func26, Tryd.ntmps26
    go_wp2
    go_ret
    exact ⟨rfl, rfl⟩
end Go.Proofs.YtcjnkobddeiahaaDoor
