/- The contract of part.Odd. -/
import Derived.Test.YtgffppmpmjaknaaDoorOdd
namespace Go.Proofs.YtgffppmpmjaknaaDoor
open Go Go.RowKit Pr

theorem Own.set {w : World} {B g n cap : Nat} {l : List Nat} (h : Own w B (.slice (some ⟨g, 0, none⟩) n cap) l) (k c : Nat) : Own (w.setCell ⟨g, k, none⟩ (.int .u8 (c : Int))) B (.slice (some ⟨g, 0, none⟩) n cap) (l.set k c) := by
  rcases h with ⟨h1, h2⟩
  unfold Own
  rw [List.length_set]
  refine ⟨by simp [byteCells], ?_⟩
  rcases h2 with ⟨h2, _⟩ | ⟨g', cap', cur, hv, hg, hb, hn, hm, hs, ht⟩
  · cases h2
  · injection hv with e1 e2 e3
    injection e1 with e1
    injection e1 with e1
    subst e1; subst e3
    refine .inr ⟨g, cap, cur.setIfInBounds k (.int .u8 (c : Int)), by rw [e2], hg, Blk.set_ hb k _, hn, hm, by simpa using hs, ?_⟩
    rw [Array.toList_setIfInBounds, List.take_set, ht]
    simp [byteCells]
theorem Own.cellAt {w : World} {B g n cap : Nat} {l : List Nat} (h : Own w B (.slice (some ⟨g, 0, none⟩) n cap) l) (j : Nat) (hj : j < l.length) : w.cell? ⟨g, j, none⟩ = some (.int .u8 (l[j] : Nat)) := by
  have := World.ownsRow.cells h (g := g) rfl j (.int .u8 (l[j] : Nat)) (by simp [byteCells, hj])
  rw [Addr.add_mid, Nat.zero_add] at this
  exact this
theorem Own.frz {w : World} {B g n cap : Nat} {l : List Nat} (h : Own w B (.slice (some ⟨g, 0, none⟩) n cap) l) (hn : l.length = n) (j : Nat) : w.frozen? ⟨g, j, none⟩ = false := by
  subst hn
  exact World.ownsRow.frozenAt h j

def oddTo (l : List Nat) (k : Nat) : List Nat := (l.take k).map oddN ++ l.drop k
theorem oddTo_len (l : List Nat) (k : Nat) : (oddTo l k).length = l.length := by unfold oddTo; simp; omega
theorem oddTo_get (l : List Nat) (k : Nat) (h : k < l.length) : (oddTo l k)[k]'(by rw [oddTo_len]; exact h) = l[k] := by
  unfold oddTo
  rw [List.getElem_append_right (by simp; omega)]
  simp [show min k l.length = k by omega]
theorem oddTo_step (l : List Nat) (k : Nat) (h : k < l.length) : (oddTo l k).set k (oddN l[k]) = oddTo l (k + 1) := by
  unfold oddTo
  rw [List.take_succ_eq_append_getElem h, List.map_append, List.set_append_right _ _ (by simp; omega)]
  have e : l.drop k = l[k] :: l.drop (k + 1) := List.drop_eq_getElem_cons h
  have hz : k - ((l.take k).map oddN).length = 0 := by simp; omega
  rw [e, hz, List.set_cons_zero, List.append_assoc]
  rfl

set_option maxHeartbeats 1000000 in
set_option maxRecDepth 100000 in
theorem partOdd_any (l : List Nat) (hl : l ≠ []) (hlt : ∀ c ∈ l, c < 256) (hlen : l.length ≤ 1000000) (b o cp : Nat) (w : World) (hB : Bs w b o l) :
    Calls Tryd.prog 35 #[.slice (some ⟨b, o, none⟩) l.length cp] w fun e w' => (∃ v, e = .returned v ∧ Own w' w.heap.size v (l.map oddN)) ∧ Below w.heap.size w w' := by
  have HC := Lib.hid (clone_any l hl hlen b o cp w hB)
  obtain ⟨n, hn⟩ : ∃ n, l.length = n := ⟨_, rfl⟩
  rw [hn] at HC hlen ⊢
  have HN := Lib.hid hn; clear hn
  have HLT := Lib.hid hlt; clear hlt
  go_enter Tryd.func35, Tryd.ntmps35
  go_wp2_with fail
  refine HC.out.mono ?_
  rintro e w1 ⟨⟨v, rfl, hv⟩, hb1⟩
  obtain ⟨g, cap, rfl, hg, hcap, hgl, -⟩ := hv.form hl
  rw [HN.out] at hv hcap ⊢
  go_wp2_with fail
  go_loopw [10] (fun i wr => ∃ k : Nat, k ≤ n ∧ i = .int .i64 k ∧ Own wr w.heap.size (.slice (some ⟨g, 0, none⟩) n cap) (oddTo l k) ∧ Below w.heap.size w wr) (fun i _ => n - (intOf i).toNat)
  case atStart => exact ⟨0, by omega, rfl, by simpa [oddTo] using hv, hb1⟩
  case round =>
    obtain ⟨k, hk, rfl, hown, hbel⟩ := hrel
    by_cases hlt : k < n
    · have hkl : k < l.length := by rw [HN.out]; exact hlt
      have hcell := hown.cellAt k (by rw [oddTo_len]; exact hkl)
      rw [oddTo_get l k hkl] at hcell
      have hfr := hown.frz (by rw [oddTo_len]; exact HN.out) k
      have hc := HLT.out l[k] (List.getElem_mem _)
      have hst := oddTo_step l k hkl
      have hget := oddTo_get l k hkl
      have hO := Lib.hid (fun W => odd_any l[k] hc W)
      cases hob : oddB l[k] with
      | true =>
        have e1 : oddN l[k] = l[k] := by unfold oddN; rw [hob]; rfl
        have hnext : Hid (oddTo l (k + 1) = oddTo l k) := by
          show oddTo l (k + 1) = oddTo l k
          rw [← hst, e1]
          conv => lhs; rw [← hget]
          exact List.set_getElem_self _
        rw [hob] at hO
        clear hst hget e1 hob
        generalize l[k] = c at *
        go_wp2_with fail
        refine (hO.out _).mono ?_
        rintro e w' ⟨rfl, rfl⟩
        go_wp2
        go_roundw
        case rel => exact ⟨k + 1, by omega, by go_num, by rw [hnext.out]; exact hown, hbel⟩
        case measure => simp [intOf]; omega
      | false =>
        have e1 : oddN l[k] = l[k] ^^^ 1 := by unfold oddN; rw [hob]; rfl
        rw [e1] at hst
        have HST := Lib.hid hst
        rw [hob] at hO
        have hx : bits .xor .u8 (l[k] : Int) 1 = ((l[k] ^^^ 1 : Nat) : Int) := u8_xor_nat l[k] 1 hc (by omega)
        have hs1 := hown.set k (l[k] ^^^ 1)
        rw [hst] at hs1
        have HS1 := Lib.hid hs1
        have hbs : Below w.heap.size w (wr.setCell ⟨g, k, none⟩ (.int .u8 ((l[k] ^^^ 1 : Nat) : Int))) := hbel.setCell hg _
        have HBS := Lib.hid hbs
        clear hst hget e1 hob hs1 hbs
        generalize l[k] ^^^ 1 = d at *
        generalize l[k] = c at *
        go_wp2_with fail
        refine (hO.out _).mono ?_
        rintro e w' ⟨rfl, rfl⟩
        go_wp2
        go_roundw
        case rel => exact ⟨k + 1, by omega, by go_num, HS1.out, HBS.out⟩
        case measure => simp [intOf]; omega
    · have hfin : oddTo l k = l.map oddN := by
        unfold oddTo
        rw [List.take_of_length_le (by rw [HN.out]; omega), List.drop_of_length_le (by rw [HN.out]; omega), List.append_nil]
      rw [hfin] at hown
      clear hfin
      go_wp2
      go_ret
      exact ⟨⟨_, rfl, hown⟩, hbel⟩
end Go.Proofs.YtgffppmpmjaknaaDoor
