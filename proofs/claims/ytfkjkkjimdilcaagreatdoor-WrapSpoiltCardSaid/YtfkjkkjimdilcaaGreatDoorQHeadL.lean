/- head.one, head.letters, head.wrong, head.number, and the reference's in, pair. head.number, head.ahead, head.Right; lockboxref10.in, pair, Wrong. head.Right, head.ahead, head.Fits, lockboxref10.Wrong. head.ahead, head.Fits; how a length is printed. -/
import Derived.Test.YtfkjkkjimdilcaaGreatDoorQAs
import Derived.Test.YtfkjkkjimdilcaaGreatDoorQPureAll
import Derived.Lib.ItoaNum
set_option maxHeartbeats 8000000
set_option maxRecDepth 100000
/- head.one, head.letters, head.wrong, head.number, and the reference's in, pair. -/
namespace Go.Proofs.YtfkjkkjimdilcaaGreatDoor
open Go Go.RowKit Pr
namespace Pr
def isLet (c : UInt8) : Bool := decide (65 ≤ c.toNat ∧ c.toNat ≤ 90) || decide (48 ≤ c.toNat ∧ c.toNat ≤ 57)
def letB (l : List UInt8) : Bool := decide (l.length = 2) && l.all isLet
def numZ (l : List UInt8) : Int := if l.all isDec then ((l.foldl (fun a c => 10 * a + (c.toNat - 48)) 0 : Nat) : Int) else -1
def allLet : List UInt8 := [65, 66, 67, 68, 69, 70, 71, 72, 73, 74, 75, 76, 77, 78, 79, 80, 81, 82, 83, 84, 85, 86, 87, 88, 89, 90, 48, 49, 50, 51, 52, 53, 54, 55, 56, 57]
theorem isIn_let (c : UInt8) : isIn allLet c = isLet c := all_u8 (p := fun c => isIn allLet c = isLet c) (by decide +kernel) c
end Pr

theorem one_any (c : UInt8) (x : Int) (hx : x = c.toNat) (s : ByteArray) (w : World) :
    Calls Tryz.prog 53 #[.int .u8 x, .string s] w fun e w' => e = .returned (.bool (isIn s.data.toList c)) ∧ w = w' := by
 subst hx; have hix := fun W => Tryz.strings_IndexByte s (c.toNat : Int) W; have hcc : ((c.toNat : Int)).toNat.toUInt8 = c := by simp
 rw [hcc] at hix; have hr : isIn s.data.toList c = decide (0 ≤ Lib.indexByte s.data.toList c) := rfl; rw [hr]; generalize Lib.indexByte s.data.toList c = z at *; have HIX := Hh hix; clear hix; clear hcc hr
 go_enter Tryz.func53, Tryz.ntmps53
 go_wp2_with fail
 refine (HIX.out _).mono ?_; rintro e w1 ⟨rfl, rfl⟩; go_wp2
 go_ret
 exact ⟨rfl, rfl⟩

theorem wrongH_any (p : Int) (w : World) :
    Calls Tryz.prog 54 #[.int .i64 p] w fun e w' => (∃ v, e = .returned v ∧ ErIs w' w.heap.size v (.fa p 6)) ∧ Below w.heap.size w w' := by
 go_enter Tryz.func54, Tryz.ntmps54
 go_wp2
 go_ret
 exact ⟨⟨_, rfl, _, rfl, Nat.le_refl _, Blk.new _ _ _⟩, (Below.refl _ _).alloc lr _⟩

theorem letters_any (s : ByteArray) (hs : s.size ≤ 140737488351232) (w : World) :
    Calls Tryz.prog 55 #[.string s] w fun e w' => e = .returned (.bool (letB s.data.toList)) ∧ w = w' := by
 have hlist : s.data.toList.length = s.size := by simp
 have hr : letB s.data.toList = (decide (s.size = 2) && s.data.toList.all isLet) := by unfold letB; rw [hlist]
 obtain ⟨R, hR⟩ : ∃ R, letB s.data.toList = R := ⟨_, rfl⟩; rw [hR]; rw [hr] at hR; have HR := Hh hR; clear hR hr; have HLL := Hh hlist; clear hlist
 go_enter Tryz.func55, Tryz.ntmps55
 go_wp2
 go_loop [3, 4, 7] (fun _ _ i => ∃ k : Nat, k ≤ s.size ∧ i = .int .i64 k ∧ Hid (∀ j (h : j < k) (h' : j < s.size), isLet s[j] = true)) (fun _ _ i => s.size - (intOf i).toNat)
 case atStart => exact ⟨0, by omega, rfl, fun j h => by omega⟩
 case round =>
  obtain ⟨k, hk, rfl, hall⟩ := hrel
  by_cases hlt : k < s.size
  ·
   have hki : (k : Int) < (s.size : Int) := by omega
   have i1 := index_str (P := Tryz.prog) 9 Tryz.underlying9 s k hlt k rfl _ rfl; obtain ⟨c, hc⟩ : ∃ c, s[k] = c := ⟨_, rfl⟩; rw [hc] at i1; have HC := Hh hc; clear hc; have hcl := c.toNat_lt
   have hnext : isLet c = true → Hid (∀ j (h : j < k + 1) (h' : j < s.size), isLet s[j] = true) := fun hl j h h' => by
    by_cases e : j = k
    ·
     subst e; rw [HC.out]; exact hl
    ·
     exact hall.out j (by omega) h'
   by_cases h1 : 65 ≤ c.toNat ∧ c.toNat ≤ 90
   ·
    have hl : isLet c = true := by unfold isLet; rw [decide_eq_true h1]; rfl
    have hn := hnext hl; obtain ⟨h1a, h1b⟩ := h1; have q1 : (65 : Int) ≤ (c.toNat : Int) := by omega
    have q2 : (c.toNat : Int) ≤ 90 := by omega
    clear hnext hl; go_wp2
    go_round
    case rel => exact ⟨k + 1, by omega, by go_num, hn⟩
    case measure => simp [intOf]; omega
   ·
    by_cases h2 : 48 ≤ c.toNat ∧ c.toNat ≤ 57
    ·
     have hl : isLet c = true := by unfold isLet; rw [decide_eq_true h2]; simp
     have hn := hnext hl; obtain ⟨h2a, h2b⟩ := h2; have q1 : ¬ (65 : Int) ≤ (c.toNat : Int) := by omega
     have q2 : (48 : Int) ≤ (c.toNat : Int) := by omega
     have q3 : (c.toNat : Int) ≤ 57 := by omega
     clear hnext hl h1; go_wp2
     go_round
     case rel => exact ⟨k + 1, by omega, by go_num, hn⟩
     case measure => simp [intOf]; omega
    ·
     have hl : isLet c = false := by unfold isLet; rw [decide_eq_false h1, decide_eq_false h2]; rfl
     have hfin : (decide (s.size = 2) && s.data.toList.all isLet) = false := by
      rw [Bool.and_eq_false_iff]
      right
      rw [Bool.eq_false_iff]; intro h; have := List.all_eq_true.1 h s[k] (List.getElem_mem (l := s.data.toList) (by rw [HLL.out]; exact hlt)); rw [HC.out, hl] at this
      cases this
     have HFIN := Hh hfin; clear hfin; clear hnext hl
     by_cases a1 : 65 ≤ c.toNat
     ·
      have q1 : (65 : Int) ≤ (c.toNat : Int) := by omega
      have q2 : ¬ (c.toNat : Int) ≤ 90 := by omega
      have q3 : (48 : Int) ≤ (c.toNat : Int) := by omega
      have q4 : ¬ (c.toNat : Int) ≤ 57 := by omega
      go_wp2
      go_ret
      exact ⟨by rw [← HR.out, HFIN.out]; rfl, rfl⟩
     ·
      by_cases a2 : 48 ≤ c.toNat
      ·
       have q1 : ¬ (65 : Int) ≤ (c.toNat : Int) := by omega
       have q3 : (48 : Int) ≤ (c.toNat : Int) := by omega
       have q4 : ¬ (c.toNat : Int) ≤ 57 := by omega
       go_wp2
       go_ret
       exact ⟨by rw [← HR.out, HFIN.out]; rfl, rfl⟩
      ·
       have q1 : ¬ (65 : Int) ≤ (c.toNat : Int) := by omega
       have q3 : ¬ (48 : Int) ≤ (c.toNat : Int) := by omega
       go_wp2
       go_ret
       exact ⟨by rw [← HR.out, HFIN.out]; rfl, rfl⟩
  ·
   have hall2 : s.data.toList.all isLet = true := by
    rw [List.all_eq_true]; intro c hc; obtain ⟨j, hj, rfl⟩ := List.getElem_of_mem hc; have hj' : j < s.size := by simpa using hj
    exact hall.out j (by omega) hj'
   have hfin : (decide (s.size = 2) && s.data.toList.all isLet) = decide (s.size = 2) := by rw [hall2, Bool.and_true]
   have HFIN := Hh hfin; clear hfin; have hki : ¬ (k : Int) < (s.size : Int) := by omega
   clear hall2 hall
   by_cases h2 : s.size = 2
   ·
    have hq : ((s.size : Int) == 2) = true := by rw [beq_iff_eq]; omega
    have hd : decide (s.size = 2) = true := decide_eq_true h2; have HD := Hh hd; clear hd h2; go_wp2
    go_ret
    exact ⟨by rw [← HR.out, HFIN.out, HD.out]; rfl, rfl⟩
   ·
    have hq : ((s.size : Int) == 2) = false := by rw [beq_eq_false_iff_ne]; omega
    have hd : decide (s.size = 2) = false := decide_eq_false h2; have HD := Hh hd; clear hd h2; go_wp2
    go_ret
    exact ⟨by rw [← HR.out, HFIN.out, HD.out]; rfl, rfl⟩
namespace Pr
theorem isIn_mem (l : List UInt8) (c : UInt8) : isIn l c = decide (c ∈ l) := by
 unfold isIn
 rw [Bool.eq_iff_iff, decide_eq_true_eq, decide_eq_true_eq]
 induction l with
 | nil => simp [Lib.indexByte]
 | cons b l ih =>
  have hge := Lib.indexByte_ge l c; rw [Lib.indexByte]
  by_cases h : b = c
  ·
   subst h; simp
  ·
   have h1 : (b == c) = false := beq_eq_false_iff_ne.2 h; rw [h1]; simp only [List.mem_cons, Bool.false_eq_true, if_false]
   by_cases h2 : Lib.indexByte l c = -1
   ·
    rw [h2]; simp only [beq_self_eq_true, if_true]
    constructor
    ·
     intro h'; omega
    ·
     rintro (h' | h')
     ·
      exact absurd h'.symm h
     ·
      have := ih.2 h'; omega
   ·
    have h3 : (Lib.indexByte l c == -1) = false := beq_eq_false_iff_ne.2 h2; rw [h3]; simp only [Bool.false_eq_true, if_false]
    constructor
    ·
     intro _; exact .inr (ih.1 (by omega))
    ·
     intro _; omega
def numF (l : List UInt8) : Nat := l.foldl (fun a c => 10 * a + (c.toNat - 48)) 0
theorem numF_snoc (l : List UInt8) (c : UInt8) : numF (l ++ [c]) = 10 * numF l + (c.toNat - 48) := by simp [numF]
theorem numF_lt (l : List UInt8) (h : ∀ c ∈ l, isDec c = true) : numF l < 10 ^ l.length := by
 revert h
 refine snoc_ind (C := fun l => (∀ c ∈ l, isDec c = true) → numF l < 10 ^ l.length) (fun _ => by simp [numF]) (fun l c ih h => ?_) l; have h1 := ih (fun x hx => h x (List.mem_append_left _ hx)); have h2 : 48 ≤ c.toNat ∧ c.toNat ≤ 57 := of_decide_eq_true (h c (by simp)); rw [numF_snoc, List.length_append, List.length_singleton, Nat.pow_succ]; omega
end Pr

theorem numberH_any (s : ByteArray) (hs : s.size ≤ 9) (w : World) :
    Calls Tryz.prog 69 #[.string s] w fun e w' => e = .returned (.int .i64 (numZ s.data.toList)) ∧ w = w' := by
 have hlist : s.data.toList.length = s.size := by simp
 have HLL := Hh hlist; clear hlist; obtain ⟨R, hR⟩ : ∃ R, numZ s.data.toList = R := ⟨_, rfl⟩; rw [hR]; have HR := Hh hR; clear hR
 go_enter Tryz.func69, Tryz.ntmps69
 go_wp2
 go_loop [3, 4, 7] (fun n _ i => ∃ k : Nat, k ≤ s.size ∧ i = .int .i64 k ∧ n = .int .i64 (numF (s.data.toList.take k) : Nat) ∧ Hid (∀ c ∈ s.data.toList.take k, isDec c = true)) (fun _ _ i => s.size - (intOf i).toNat)
 case atStart => exact ⟨0, by omega, rfl, rfl, fun j h => by cases h⟩
 case round =>
  obtain ⟨k, hk, rfl, rfl, hall⟩ := hrel
  by_cases hlt : k < s.size
  ·
   have hki : (k : Int) < (s.size : Int) := by omega
   have hkl : k < s.data.toList.length := by rw [HLL.out]; exact hlt
   have i1 := index_str (P := Tryz.prog) 9 Tryz.underlying9 s k hlt k rfl _ rfl; have hsn : numF (s.data.toList.take (k + 1)) = 10 * numF (s.data.toList.take k) + (s[k].toNat - 48) := by rw [List.take_succ_eq_append_getElem hkl, numF_snoc]; rfl
   have hnl := numF_lt _ hall.out; have hp : 10 ^ (s.data.toList.take k).length ≤ 10 ^ 9 := Nat.pow_le_pow_right (by omega) (by rw [List.length_take]; omega)
   have hnext : isDec s[k] = true → Hid (∀ c ∈ s.data.toList.take (k + 1), isDec c = true) := fun hd c hc => by
    rw [List.take_succ_eq_append_getElem hkl] at hc
    rcases List.mem_append.1 hc with h | h
    ·
     exact hall.out c h
    ·
     simp at h; subst h; exact hd
   obtain ⟨c, hc⟩ : ∃ c, s[k] = c := ⟨_, rfl⟩; rw [hc] at i1 hsn hnext; have hcl := c.toNat_lt; have hN : numF (s.data.toList.take k) < 1000000000 := Nat.lt_of_lt_of_le hnl hp
   by_cases hd : 48 ≤ c.toNat ∧ c.toNat ≤ 57
   ·
    have hn := hnext (decide_eq_true hd); obtain ⟨h2a, h2b⟩ := hd; generalize numF (s.data.toList.take k) = N at *; have e1 : 10 * (N : Int) + ((c.toNat : Int) - 48) = ((10 * N + (c.toNat - 48) : Nat) : Int) := by omega
    rw [← hsn] at e1; have E1 := Hh e1; clear e1; have q2 : (48 : Int) ≤ (c.toNat : Int) := by omega
    have q3 : (c.toNat : Int) ≤ 57 := by omega
    clear hnext hsn hnl hp hc; go_wp2
    go_round
    case rel => exact ⟨k + 1, by omega, by go_num, by rw [E1.out], hn⟩
    case measure => simp [intOf]; omega
   ·
    have hfin : numZ s.data.toList = -1 := by
     unfold numZ
     rw [if_neg]; intro h; have := List.all_eq_true.1 h s[k] (List.getElem_mem (l := s.data.toList) hkl); rw [hc] at this; exact hd (of_decide_eq_true this)
    have HFIN := Hh hfin; clear hfin; clear hnext hsn hnl hp hc; generalize numF (s.data.toList.take k) = N at *
    by_cases a1 : c.toNat < 48
    ·
     have q1 : (c.toNat : Int) < 48 := by omega
     go_wp2
     go_ret
     exact ⟨by rw [← HR.out, HFIN.out]; rfl, rfl⟩
    ·
     have q1 : ¬ (c.toNat : Int) < 48 := by omega
     have q2 : (57 : Int) < (c.toNat : Int) := by omega
     go_wp2
     go_ret
     exact ⟨by rw [← HR.out, HFIN.out]; rfl, rfl⟩
  ·
   have hki : ¬ (k : Int) < (s.size : Int) := by omega
   have hfin : s.data.toList.take k = s.data.toList := List.take_of_length_le (by rw [HLL.out]; omega); rw [hfin] at hall ⊢; have hz : numZ s.data.toList = (numF s.data.toList : Nat) := by unfold numZ; rw [if_pos (List.all_eq_true.2 hall.out)]; rfl
   have HZ := Hh hz; clear hz hfin; go_wp2
   go_ret
   exact ⟨by rw [← HR.out, HZ.out]; rfl, rfl⟩

theorem inR_any (c : UInt8) (x : Int) (hx : x = c.toNat) (s : ByteArray) (hs : s.size ≤ 1000) (w : World) :
    Calls Tryz.prog 27 #[.int .u8 x, .string s] w fun e w' => e = .returned (.bool (isIn s.data.toList c)) ∧ w = w' := by
 subst hx; rw [isIn_mem]; obtain ⟨R, hR⟩ : ∃ R, decide (c ∈ s.data.toList) = R := ⟨_, rfl⟩; rw [hR]; have HR := Hh hR; clear hR
 go_enter Tryz.func27, Tryz.ntmps27
 go_wp2
 go_loop [5] (fun i => ∃ k : Nat, k ≤ s.size ∧ i = .int .i64 k ∧ Hid (∀ j (h : j < k) (h' : j < s.size), s[j] ≠ c)) (fun i => s.size - (intOf i).toNat)
 case atStart => exact ⟨0, by omega, rfl, fun j h => by omega⟩
 case round =>
  obtain ⟨k, hk, rfl, hall⟩ := hrel
  by_cases hlt : k < s.size
  ·
   have hki : (k : Int) < (s.size : Int) := by omega
   have i1 := index_str (P := Tryz.prog) 9 Tryz.underlying9 s k hlt k rfl _ rfl
   by_cases he : s[k] = c
   ·
    have hd : decide (c ∈ s.data.toList) = true := decide_eq_true (by rw [← he]; exact List.getElem_mem (l := s.data.toList) (by simpa using hlt)); have HD := Hh hd; clear hd; rw [he] at i1; clear he; go_wp2
    go_ret
    exact ⟨by rw [← HR.out, HD.out]; rfl, rfl⟩
   ·
    have hnext : Hid (∀ j (h : j < k + 1) (h' : j < s.size), s[j] ≠ c) := fun j h h' => by
     by_cases e : j = k
     ·
      subst e; exact he
     ·
      exact hall.out j (by omega) h'
    have t1 : ((s[k].toNat : Int) == (c.toNat : Int)) = false := by
     rw [beq_eq_false_iff_ne]; intro h; exact he (UInt8.toNat_inj.1 (by omega))
    have t2 : ¬ s[k].toNat = c.toNat := fun h => he (UInt8.toNat_inj.1 h); generalize s[k].toNat = y at *; clear he; go_wp2
    go_round
    case rel => exact ⟨k + 1, by omega, by go_num, hnext⟩
    case measure => simp [intOf]; omega
  ·
   have hd : decide (c ∈ s.data.toList) = false := decide_eq_false fun hc => by
    obtain ⟨j, hj, e⟩ := List.getElem_of_mem hc; have hj' : j < s.size := by simpa using hj
    exact hall.out j (by omega) hj' e
   have HD := Hh hd; clear hd; have hki : ¬ (k : Int) < (s.size : Int) := by omega
   go_wp2
   go_ret
   exact ⟨by rw [← HR.out, HD.out]; rfl, rfl⟩

theorem pairR_any (s : ByteArray) (_hs : s.size ≤ 140737488351232) (w : World) :
    Calls Tryz.prog 28 #[.string s] w fun e w' => e = .returned (.bool (letB s.data.toList)) ∧ w = w' := by
 have hlist : s.data.toList.length = s.size := by simp
 by_cases h2 : s.size = 2
 ·
  have i1 := index_str (P := Tryz.prog) 9 Tryz.underlying9 s 0 (by omega) 0 rfl _ rfl; have i2 := index_str (P := Tryz.prog) 9 Tryz.underlying9 s 1 (by omega) 1 rfl _ rfl
  have hr : letB s.data.toList = (isLet (s[0]'(by omega)) && isLet (s[1]'(by omega))) := by
   unfold letB
   rw [hlist, decide_eq_true h2, Bool.true_and]
   have hl : s.data.toList = [s[0]'(by omega), s[1]'(by omega)] := by
    apply List.ext_getElem
    ·
     rw [hlist]; exact h2
    ·
     intro i a b
     rcases (by simp at b; omega : i = 0 ∨ i = 1) with rfl | rfl <;> rfl
   rw [hl]
   simp
  rw [hr]; have H1 := Hh (fun W => inR_any (s[0]'(by omega)) _ rfl ⟨allLet.toArray⟩ (by decide) W); have H2 := Hh (fun W => inR_any (s[1]'(by omega)) _ rfl ⟨allLet.toArray⟩ (by decide) W); have hal : (⟨allLet.toArray⟩ : ByteArray).data.toList = allLet := rfl; rw [hal, isIn_let] at H1 H2
  unfold allLet at H1 H2
  generalize isLet (s[0]'(by omega)) = p1 at *; generalize isLet (s[1]'(by omega)) = p2 at *; generalize (s[0]'(by omega)).toNat = y1 at *; generalize (s[1]'(by omega)).toNat = y2 at *; have t2 : ((s.size : Int) == 2) = true := by rw [beq_iff_eq]; omega
  clear hr hlist hal
  go_enter Tryz.func28, Tryz.ntmps28
  go_wp2_with fail
  refine (H1.out _).mono ?_; rintro e w1 ⟨rfl, rfl⟩
  cases p1 with
  | false =>
   go_wp2
   go_ret
   exact ⟨rfl, rfl⟩
  | true =>
   go_wp2_with fail
   refine (H2.out _).mono ?_; rintro e w1 ⟨rfl, rfl⟩; go_wp2
   go_ret
   exact ⟨rfl, rfl⟩
 ·
  have hr : letB s.data.toList = false := by unfold letB; rw [hlist, decide_eq_false h2]; rfl
  rw [hr]; have t2 : ((s.size : Int) == 2) = false := by rw [beq_eq_false_iff_ne]; omega
  clear hr hlist h2
  go_enter Tryz.func28, Tryz.ntmps28
  go_wp2
  go_ret
  exact ⟨rfl, rfl⟩
namespace Pr
/-- a head's fields -/
structure Hd where
 ver : UInt8
 usage : ByteArray
 alg : UInt8
 mode : UInt8
 serial : ByteArray
 exp : UInt8
def Hd.cells (h : Hd) : Array Value := #[.int .u8 (h.ver.toNat : Int), .string h.usage, .int .u8 (h.alg.toNat : Int), .int .u8 (h.mode.toNat : Int), .string h.serial, .int .u8 (h.exp.toNat : Int)]
def sBD : ByteArray := ⟨#[66, 68]⟩
def sTA : ByteArray := ⟨#[84, 65]⟩
def sMO : ByteArray := ⟨#[66, 67, 68, 69, 71, 78, 83, 84, 86, 88, 89]⟩
def sEX : ByteArray := ⟨#[69, 78, 83]⟩
/-- the place of the first field that is wrong -/
def rE (b0 b1 b2 b3 b4 b5 : Bool) : Er := if b0 then (if b1 then (if b2 then (if b3 then (if b4 then (if b5 then .ok else .fa 11 6) else .fa 9 6) else .fa 8 6) else .fa 7 6) else .fa 5 6) else .fa 0 6
def rightEr (h : Hd) : Er := rE (isIn sBD.data.toList h.ver) (letB h.usage.data.toList) (isIn sTA.data.toList h.alg) (isIn sMO.data.toList h.mode) (letB h.serial.data.toList) (isIn sEX.data.toList h.exp)
theorem rightEr_cases (h : Hd) : rightEr h = .ok ∨ ∃ k : Nat, rightEr h = .fa k 6 ∧ k ≤ 11 := by
 unfold rightEr rE
 repeat' split
 all_goals first | exact .inl rfl | exact .inr ⟨0, rfl, by omega⟩ | exact .inr ⟨5, rfl, by omega⟩ | exact .inr ⟨7, rfl, by omega⟩ | exact .inr ⟨8, rfl, by omega⟩ | exact .inr ⟨9, rfl, by omega⟩ | exact .inr ⟨11, rfl, by omega⟩
end Pr

theorem right_any (h : Hd) (hu : h.usage.size ≤ 140737488351232) (hs : h.serial.size ≤ 140737488351232) (w : World) :
    Calls Tryz.prog 31 #[.agg h.cells] w fun e w' => (∃ v, e = .returned v ∧ ErIs w' w.heap.size v (rightEr h)) ∧ Below w.heap.size w w' := by
 have H0 := Hh (fun W => one_any h.ver _ rfl sBD W); have H1 := Hh (fun W => letters_any h.usage hu W); have H2 := Hh (fun W => one_any h.alg _ rfl sTA W); have H3 := Hh (fun W => one_any h.mode _ rfl sMO W); have H4 := Hh (fun W => letters_any h.serial hs W); have H5 := Hh (fun W => one_any h.exp _ rfl sEX W); have HWR := Hh (fun p W => wrongH_any p W)
 unfold rightEr Hd.cells
 generalize isIn sBD.data.toList h.ver = b0 at *; generalize letB h.usage.data.toList = b1 at *; generalize isIn sTA.data.toList h.alg = b2 at *; generalize isIn sMO.data.toList h.mode = b3 at *; generalize letB h.serial.data.toList = b4 at *; generalize isIn sEX.data.toList h.exp = b5 at *
 unfold sBD at H0
 unfold sTA at H2
 unfold sMO at H3
 unfold sEX at H5
 generalize h.ver.toNat = v0 at *; generalize h.usage = v1 at *; generalize h.alg.toNat = v2 at *; generalize h.mode.toNat = v3 at *; generalize h.serial = v4 at *; generalize h.exp.toNat = v5 at *; have hb0 : Below w.heap.size w (w.alloc (.cells #[.int .u8 (v0 : Int), .string v1, .int .u8 (v2 : Int), .int .u8 (v3 : Int), .string v4, .int .u8 (v5 : Int)] 24)) := (Below.refl _ _).alloc lr _; obtain ⟨R, hR⟩ : ∃ R, rE b0 b1 b2 b3 b4 b5 = R := ⟨_, rfl⟩; rw [hR]; have HR := Hh hR; clear hR
 have hfin : ∀ (w' : World) (p : Int) (v : Value), R = .fa p 6 → ErIs w' (w.heap.size + 1) v (.fa p 6) → Below (w.heap.size + 1) (w.alloc (.cells #[.int .u8 (v0 : Int), .string v1, .int .u8 (v2 : Int), .int .u8 (v3 : Int), .string v4, .int .u8 (v5 : Int)] 24)) w' → (∃ v', Ending.returned v = .returned v' ∧ ErIs w' w.heap.size v' R) ∧ Below w.heap.size w w' := fun w' p v e h1 h2 => by
  rw [e]; exact ⟨⟨v, rfl, h1.more (by omega)⟩, hb0.trans (h2.mono (by omega))⟩
 have HFIN := Hh hfin; clear hfin
 go_enter Tryz.func31, Tryz.ntmps31
 go_wp2_with fail
 refine (H0.out _).mono ?_; rintro e w1 ⟨rfl, rfl⟩
 cases b0 with
 | false =>
  go_wp2_with fail
  refine (HWR.out _ _).mono ?_; rintro e w1 ⟨⟨v, rfl, hv⟩, hb⟩; go_wp2
  go_ret
  exact HFIN.out _ 0 v (HR.out.symm) (by simpa using hv) (by simpa using hb)
 | true =>
  go_wp2_with fail
  refine (H1.out _).mono ?_; rintro e w1 ⟨rfl, rfl⟩
  cases b1 with
  | false =>
   go_wp2_with fail
   refine (HWR.out _ _).mono ?_; rintro e w1 ⟨⟨v, rfl, hv⟩, hb⟩; go_wp2
   go_ret
   exact HFIN.out _ 5 v (HR.out.symm) (by simpa using hv) (by simpa using hb)
  | true =>
   go_wp2_with fail
   refine (H2.out _).mono ?_; rintro e w1 ⟨rfl, rfl⟩
   cases b2 with
   | false =>
    go_wp2_with fail
    refine (HWR.out _ _).mono ?_; rintro e w1 ⟨⟨v, rfl, hv⟩, hb⟩; go_wp2
    go_ret
    exact HFIN.out _ 7 v (HR.out.symm) (by simpa using hv) (by simpa using hb)
   | true =>
    go_wp2_with fail
    refine (H3.out _).mono ?_; rintro e w1 ⟨rfl, rfl⟩
    cases b3 with
    | false =>
     go_wp2_with fail
     refine (HWR.out _ _).mono ?_; rintro e w1 ⟨⟨v, rfl, hv⟩, hb⟩; go_wp2
     go_ret
     exact HFIN.out _ 8 v (HR.out.symm) (by simpa using hv) (by simpa using hb)
    | true =>
     go_wp2_with fail
     refine (H4.out _).mono ?_; rintro e w1 ⟨rfl, rfl⟩
     cases b4 with
     | false =>
      go_wp2_with fail
      refine (HWR.out _ _).mono ?_; rintro e w1 ⟨⟨v, rfl, hv⟩, hb⟩; go_wp2
      go_ret
      exact HFIN.out _ 9 v (HR.out.symm) (by simpa using hv) (by simpa using hb)
     | true =>
      go_wp2_with fail
      refine (H5.out _).mono ?_; rintro e w1 ⟨rfl, rfl⟩
      cases b5 with
      | false =>
       go_wp2_with fail
       refine (HWR.out _ _).mono ?_; rintro e w1 ⟨⟨v, rfl, hv⟩, hb⟩; go_wp2
       go_ret
       exact HFIN.out _ 11 v (HR.out.symm) (by simpa using hv) (by simpa using hb)
      | true =>
       go_wp2
       go_ret
       exact ⟨⟨_, rfl, by rw [← HR.out]; rfl⟩, hb0⟩

theorem refWrong_any (h : Hd) (hu : h.usage.size ≤ 140737488351232) (hs : h.serial.size ≤ 140737488351232) (w : World) :
    Calls Tryz.prog 11 #[.agg h.cells] w fun e w' => e = .returned (.int .i64 (erAt (rightEr h))) ∧ Below w.heap.size w w' := by
 have H0 := Hh (fun W => inR_any h.ver _ rfl sBD (by decide) W); have H1 := Hh (fun W => pairR_any h.usage hu W); have H2 := Hh (fun W => inR_any h.alg _ rfl sTA (by decide) W); have H3 := Hh (fun W => inR_any h.mode _ rfl sMO (by decide) W); have H4 := Hh (fun W => pairR_any h.serial hs W); have H5 := Hh (fun W => inR_any h.exp _ rfl sEX (by decide) W)
 unfold rightEr Hd.cells
 generalize isIn sBD.data.toList h.ver = b0 at *; generalize letB h.usage.data.toList = b1 at *; generalize isIn sTA.data.toList h.alg = b2 at *; generalize isIn sMO.data.toList h.mode = b3 at *; generalize letB h.serial.data.toList = b4 at *; generalize isIn sEX.data.toList h.exp = b5 at *
 unfold sBD at H0
 unfold sTA at H2
 unfold sMO at H3
 unfold sEX at H5
 generalize h.ver.toNat = v0 at *; generalize h.usage = v1 at *; generalize h.alg.toNat = v2 at *; generalize h.mode.toNat = v3 at *; generalize h.serial = v4 at *; generalize h.exp.toNat = v5 at *; have hb0 : Below w.heap.size w (w.alloc (.cells #[.int .u8 (v0 : Int), .string v1, .int .u8 (v2 : Int), .int .u8 (v3 : Int), .string v4, .int .u8 (v5 : Int)] 24)) := (Below.refl _ _).alloc lr _; obtain ⟨R, hR⟩ : ∃ R, erAt (rE b0 b1 b2 b3 b4 b5) = R := ⟨_, rfl⟩; rw [hR]; have HR := Hh hR; clear hR
 go_enter Tryz.func11, Tryz.ntmps11
 go_wp2_with fail
 refine (H0.out _).mono ?_; rintro e w1 ⟨rfl, rfl⟩
 cases b0 with
 | false =>
  go_wp2
  go_ret
  exact ⟨by rw [← HR.out]; rfl, hb0⟩
 | true =>
  go_wp2_with fail
  refine (H1.out _).mono ?_; rintro e w1 ⟨rfl, rfl⟩
  cases b1 with
  | false =>
   go_wp2
   go_ret
   exact ⟨by rw [← HR.out]; rfl, hb0⟩
  | true =>
   go_wp2_with fail
   refine (H2.out _).mono ?_; rintro e w1 ⟨rfl, rfl⟩
   cases b2 with
   | false =>
    go_wp2
    go_ret
    exact ⟨by rw [← HR.out]; rfl, hb0⟩
   | true =>
    go_wp2_with fail
    refine (H3.out _).mono ?_; rintro e w1 ⟨rfl, rfl⟩
    cases b3 with
    | false =>
     go_wp2
     go_ret
     exact ⟨by rw [← HR.out]; rfl, hb0⟩
    | true =>
     go_wp2_with fail
     refine (H4.out _).mono ?_; rintro e w1 ⟨rfl, rfl⟩
     cases b4 with
     | false =>
      go_wp2
      go_ret
      exact ⟨by rw [← HR.out]; rfl, hb0⟩
     | true =>
      go_wp2_with fail
      refine (H5.out _).mono ?_; rintro e w1 ⟨rfl, rfl⟩
      cases b5 with
      | false =>
       go_wp2
       go_ret
       exact ⟨by rw [← HR.out]; rfl, hb0⟩
      | true =>
       go_wp2
       go_ret
       exact ⟨by rw [← HR.out]; rfl, hb0⟩

theorem as_nil (v : Value) (w : World) : Calls Tryz.prog 47 #[.nilIface, v] w fun e w' => e = .returned (.bool false) ∧ w = w' := by
 go_enter Tryz.func47, Tryz.ntmps47
 go_wp2
 go_ret
 exact ⟨rfl, rfl⟩
def aheadB : Er → Bool
 | .fa p _ => p == 0
 | _ => false

theorem ahead_any (v : Value) (er : Er) (hno : ∀ n, er ≠ .no n) (B : Nat) (w : World) (hE : ErIs w B v er) (hG : EtOk w) :
    Calls Tryz.prog 70 #[v] w fun e w' => e = .returned (.bool (aheadB er)) ∧ Below w.heap.size w w' := by
 have hb0 : Below w.heap.size w (w.alloc (.cells #[.pointer none] 74)) := (Below.refl _ _).alloc lr _; have hN := Blk.new w 74 #[.pointer none]; have hc := hN.cell 0; rw [show (#[Value.pointer none] : Array Value)[0]? = some (.pointer none) from rfl] at hc; have hf := hN.frozen 0; have hG1 := hG.alloc (.cells #[.pointer none] 74)
 cases er with
 | no n => exact absurd rfl (hno n)
 | ok =>
  obtain rfl : v = _ := hE; have HA := Hh (as_nil (.iface 91 (.pointer (some ⟨w.heap.size, 0, none⟩))) (w.alloc (.cells #[.pointer none] 74))); clear hG1 hc hf
  go_enter Tryz.func70, Tryz.ntmps70
  go_wp2_with fail
  refine HA.out.mono ?_; rintro e w' ⟨rfl, rfl⟩; go_wp2
  go_ret
  exact ⟨rfl, hb0⟩
 | fa p n =>
  obtain ⟨g, rfl, hg, hF⟩ := hE; have HA := Hh (as_fa_fa ⟨g, 0, none⟩ ⟨w.heap.size, 0, none⟩ (.pointer none) _ hG1 hc hf); have hs := hN.lt; have hgl := hF.lt; clear hG1 hc hf
  go_enter Tryz.func70, Tryz.ntmps70
  go_wp2_with fail
  refine HA.out.mono ?_; rintro e w' ⟨rfl, w1, hb1, rfl⟩; have hN1 := (hN.below hb1 hs).set_ 0 (.pointer (some ⟨g, 0, none⟩)); have hc1 := hN1.cell 0; rw [show ((#[Value.pointer none] : Array Value).setIfInBounds 0 (.pointer (some ⟨g, 0, none⟩)))[0]? = some (.pointer (some ⟨g, 0, none⟩)) from rfl] at hc1; have hbb := below_setCell hb0 hb1 (Nat.le_of_lt hs) ⟨w.heap.size, 0, none⟩ lr (.pointer (some ⟨g, 0, none⟩)); have hF1 := (hF.below hbb hgl).cell 0; rw [show (#[Value.int .i64 p, .iface 64 (.int .i64 (n : Int))] : Array Value)[0]? = some (.int .i64 p) from rfl] at hF1; clear hN1 hN hb1 hb0 HA hG hs hF; generalize w1.setCell ⟨w.heap.size, 0, none⟩ (.pointer (some ⟨g, 0, none⟩)) = w2 at *; go_wp2
  go_ret
  exact ⟨rfl, hbb⟩

theorem str_ne {a b : ByteArray} (h : ¬ a = b) : (a.toList == b.toList) = false := by
 rw [beq_eq_false_iff_ne, ByteArray.toList_eq, ByteArray.toList_eq]; intro h2
 apply h
 apply ByteArray.ext
 exact Array.toList_inj.1 h2

/-- four decimal digits -/
def dig4 (n : Nat) : List UInt8 := [UInt8.ofNat (48 + n / 1000), UInt8.ofNat (48 + n / 100 % 10), UInt8.ofNat (48 + n / 10 % 10), UInt8.ofNat (48 + n % 10)]
theorem itoa4 (n : Nat) (h1 : 16 ≤ n) (h2 : n ≤ 9999) : (Lib.itoa (n : Int)).length ≤ 4 ∧ Lib.repeatL [48] (4 - (Lib.itoa (n : Int)).length) ++ Lib.itoa (n : Int) = dig4 n := by
 have e0 : Lib.itoa (n : Int) = Lib.decDigits n := by unfold Lib.itoa; rw [if_neg (by omega)]; rfl
 rw [e0]
 unfold dig4
 by_cases h3 : n < 100
 ·
  rw [Lib.decDigits, dif_neg (by omega), Lib.decDigits, dif_pos (by omega), show n / 1000 = 0 by omega, show n / 100 % 10 = 0 by omega, show n / 10 % 10 = n / 10 by omega]; exact ⟨by simp, rfl⟩
 ·
  by_cases h4 : n < 1000
  ·
   rw [Lib.decDigits, dif_neg (by omega), Lib.decDigits, dif_neg (by omega), Lib.decDigits, dif_pos (by omega), show n / 1000 = 0 by omega, show n / 100 % 10 = n / 10 / 10 by omega]; exact ⟨by simp, rfl⟩
  ·
   rw [Lib.decDigits, dif_neg (by omega), Lib.decDigits, dif_neg (by omega), Lib.decDigits, dif_neg (by omega), Lib.decDigits, dif_pos (by omega), show n / 1000 = n / 10 / 10 / 10 by omega, show n / 100 % 10 = n / 10 / 10 % 10 by omega]; exact ⟨by simp, rfl⟩
end Go.Proofs.YtfkjkkjimdilcaaGreatDoor
