/- The contracts of lockboxref08.Unhex, lockboxref14.Wrong, lockboxref06.Xor. -/
import Derived.Test.YtgffppmpmjaknaaDoorRef8
import Derived.Test.YtgffppmpmjaknaaDoorRef3BC
import Derived.Test.YtgffppmpmjaknaaDoorPureAll
import Derived.Test.YtgffppmpmjaknaaDoorPinAll
import Derived.Test.YtgffppmpmjaknaaDoorCode
namespace Go.Proofs.YtgffppmpmjaknaaDoor
open Go Go.RowKit Pr

theorem valR_hexv (c : UInt8) (h : isHex c = true) : valR c = hexv c := all_u8 (p := fun c => isHex c = true → valR c = hexv c) (by decide +kernel) c h

set_option maxHeartbeats 2000000 in
set_option maxRecDepth 100000 in
theorem unhexR_any (s : ByteArray) (hs : s.size ≤ 100000) (hx : ∀ c ∈ s.data.toList, isHex c = true) (hev : s.size % 2 = 0) (w : World) :
    Calls Tryd.prog 38 #[.string s] w fun e w' => (∃ v, e = .returned v ∧ Own w' w.heap.size v (unhexL s.data.toList)) ∧ Below w.heap.size w w' := by
  have HE := Lib.hid hev; clear hev
  have hlist : s.data.toList.length = s.size := by simp
  have HLL := Lib.hid hlist; clear hlist
  have HALL := Lib.hid hx; clear hx
  go_enter Tryd.func38, Tryd.ntmps38
  go_wp2
  go_loopw [3, 4] (fun v i wr => ∃ j k : Nat, Hid (k = 2 * j) ∧ k ≤ s.size ∧ i = .int .i64 k ∧ Own wr w.heap.size v ((unhexL s.data.toList).take j) ∧ Below w.heap.size w wr ∧ w.heap.size ≤ wr.heap.size) (fun _ i _ => s.size - (intOf i).toNat)
  case atStart => exact ⟨0, 0, rfl, by omega, rfl, Own.nil _ _, Below.refl _ _, Nat.le_refl _⟩
  case round =>
    obtain ⟨j, k, hk, hks, rfl, hown, hbel, hsz⟩ := hrel
    by_cases hlt : k < s.size
    · have hlt2 : k + 1 < s.size := by have := HE.out; have := hk.out; omega
      have hj : j < s.data.toList.length / 2 := by rw [HLL.out]; have := hk.out; omega
      obtain ⟨ca, hca⟩ : ∃ c, s[k] = c := ⟨_, rfl⟩
      obtain ⟨cb, hcb⟩ : ∃ c, s[k + 1] = c := ⟨_, rfl⟩
      have i1 := index_str (P := Tryd.prog) 9 Tryd.underlying9 s k hlt k rfl ca.toNat (by rw [hca])
      have i2 := index_str (P := Tryd.prog) 9 Tryd.underlying9 s (k + 1) hlt2 ((k : Int) + 1) (by omega) cb.toNat (by rw [hcb])
      have ga : isHex ca = true := HALL.out ca (by rw [← hca]; exact List.getElem_mem (l := s.data.toList) (by rw [HLL.out]; exact hlt))
      have gb : isHex cb = true := HALL.out cb (by rw [← hcb]; exact List.getElem_mem (l := s.data.toList) (by rw [HLL.out]; exact hlt2))
      have ha : unhexAt s.data.toList j = 16 * hexv ca + hexv cb := by
        unfold unhexAt
        rw [← hk.out, List.getD_eq_getElem?_getD, List.getD_eq_getElem?_getD, List.getElem?_eq_getElem (by rw [HLL.out]; exact hlt), List.getElem?_eq_getElem (by rw [HLL.out]; exact hlt2)]
        simp only [Option.getD_some, get_list s k hlt, get_list s (k + 1) hlt2, hca, hcb]
        omega
      have x1 := fun W => value_any ca _ rfl W
      have x2 := fun W => value_any cb _ rfl W
      simp only [valR_hexv _ ga] at x1
      simp only [valR_hexv _ gb] at x2
      have va := hexv_lt _ ga
      have vb := hexv_lt _ gb
      clear hca hcb ga gb
      generalize hexv ca = a at *
      generalize hexv cb = b at *
      have X1 := Lib.hid x1; clear x1
      have X2 := Lib.hid x2; clear x2
      have HA := Lib.hid ha; clear ha
      have HTK := Lib.hid (unhexL_take s.data.toList j hj)
      have htl : ((unhexL s.data.toList).take j).length = j := by rw [List.length_take, unhexL_len]; omega
      obtain ⟨L, hL⟩ : ∃ L, (unhexL s.data.toList).take j = L := ⟨_, rfl⟩
      rw [hL] at HTK htl hown
      have hLl : L.length ≤ 100000 := by have := hk.out; omega
      clear hL htl
      have e1 : IntKind.u8.wrap (16 * (a : Int) + (b : Int)) = ((16 * a + b : Nat) : Int) := by simp [IntKind.wrap, IntKind.bits, IntKind.signed]; omega
      obtain ⟨d, hd⟩ : ∃ d, 16 * a + b = d := ⟨_, rfl⟩
      rw [hd] at e1 HA
      clear hd
      have hsz2 : w.heap.size ≤ wr.drew.heap.size := by simpa using hsz
      go_wp2_with fail
      refine wp_region_tree (.q 0 (.q 1 (.q 2 (.q 3 (.q 6 (.q 7 (.q 8 (.q 9 (.e [4] fun _ => .q 5 (.e [10] fun _ => .q 11 (.q 12 (.e [13] fun _ => .e [14] fun _ => .q 15 (.done))))))))))))) (fun _ => True) rfl (by kernel_rfl) (fun _ _ d _ _ h => by cases d <;> exact h) ?_
      iterate 3 (refine t_q rfl rfl trivial _ (fun W hW => by (go_simp; rfl)) ?_; go_simp)
      refine t_q rfl rfl trivial (.int .u8 (ca.toNat : Int)) (fun W hW => by (go_simp)) ?_
      go_simp
      iterate 2 (refine t_q rfl rfl trivial _ (fun W hW => by (go_simp; rfl)) ?_; go_simp)
      have hE1 : IntKind.i64.wrap ((k : Int) + 1) = (k : Int) + 1 := IntWalk.i64_in _ (by omega)
      refine t_q rfl rfl trivial (.int .i64 ((k : Int) + 1)) (fun W hW => by (go_simp)) ?_
      go_simp
      refine t_q rfl rfl trivial (.int .u8 (cb.toNat : Int)) (fun W hW => by (go_simp)) ?_
      go_simp
      refine t_e rfl rfl fun K hK => ?_
      go_simp
      refine (X1.out _).mono ?_
      rintro e wy ⟨rfl, rfl⟩
      refine hK _ _ trivial ?_
      clear hK K
      go_simp
      have e2 : IntKind.i64.wrap (16 * (a : Int)) = 16 * (a : Int) := IntWalk.i64_in _ (by omega)
      refine t_q rfl rfl trivial (.int .i64 (16 * (a : Int))) (fun W hW => by (go_simp)) ?_
      go_simp
      refine t_e rfl rfl fun K hK => ?_
      go_simp
      refine (X2.out _).mono ?_
      rintro e wy ⟨rfl, rfl⟩
      refine hK _ _ trivial ?_
      clear hK K
      go_simp
      have e3 : IntKind.i64.wrap (16 * (a : Int) + (b : Int)) = 16 * (a : Int) + (b : Int) := IntWalk.i64_in _ (by omega)
      refine t_q rfl rfl trivial (.int .i64 (16 * (a : Int) + (b : Int))) (fun W hW => by (go_simp)) ?_
      go_simp
      refine t_q rfl rfl trivial (.int .u8 (d : Int)) (fun W hW => by (go_simp)) ?_
      go_simp
      refine t_e rfl rfl fun K hK => ?_
      go_simp
      refine hK _ _ trivial ?_
      clear hK K
      change wpT _ _ _ _ _ _ (wr.drew.alloc (.cells #[.int .u8 (d : Int)] 5))
      refine t_e rfl rfl fun K hK => ?_
      refine op_append_nums (.tmp 12) (.tmp 25) 22 rfl .u8 5 1 Tryd.underlying22 info_byte w.heap.size w _ L rfl (OwnN.below hown ((below_drewN (Below.refl wr.heap.size wr) 1).alloc (Nat.le_refl _) _) (Nat.le_refl _)) ((below_drewN hbel 1).alloc hsz2 _) (by simp; omega) _ 1 1 [d] rfl rfl ⟨_, _, rfl, Ns.new .u8 wr.drew 5 d⟩ (by omega) (by omega) fun v6 w6 hown6 hbel6 hsz6 => ?_
      have hnx : L ++ [d] = (unhexL s.data.toList).take (j + 1) := by rw [HTK.out, HA.out]
      rw [hnx] at hown6
      refine hK _ _ trivial ?_
      clear hK K
      go_simp
      refine t_q rfl rfl trivial _ (fun W hW => by (go_simp; rfl)) ?_
      go_simp
      refine t_done ?_
      have hsz7 : w.heap.size ≤ w6.heap.size := hbel6.size
      go_wp2
      go_roundw
      case rel => exact ⟨j + 1, k + 2, (by have := hk.out; exact (by omega : k + 2 = 2 * (j + 1))), by omega, by go_num, hown6, hbel6, hsz7⟩
      case measure => simp [intOf]; omega
    · have hfin : (unhexL s.data.toList).take j = unhexL s.data.toList := List.take_of_length_le (by rw [unhexL_len, HLL.out]; have := hk.out; have := HE.out; omega)
      rw [hfin] at hown
      have hks2 : ¬ (k : Int) + 1 < (s.size : Int) := by omega
      clear hfin
      go_wp2
      go_ret
      exact ⟨⟨_, rfl, hown⟩, hbel⟩

/-- what is wrong with decimal digits, as the reference says it -/
theorem wrongR_any (s : ByteArray) (hs : s.size ≤ 140737488351232) (lo hi : Nat) (_hlo : lo ≤ 1000) (_hhi : hi ≤ 1000) (w : World) :
    Calls Tryd.prog 37 #[.string s, .int .i64 lo, .int .i64 hi] w fun e w' => e = .returned (.tuple #[.int .i64 (erCode (decEr s.data.toList lo hi)), .int .i64 (erAt (decEr s.data.toList lo hi))]) ∧ w = w' := by
  have lp : s.data.toList.length = s.size := by simp
  have HF := Lib.hid (fun W => refFirst_any s hs 10 (by omega) W)
  have hb : badZ (fun c => decide (valR c < 10)) s.data.toList = badZ isDec s.data.toList := by
    unfold badZ
    rw [badAt_congr valR_dec]
  simp only [hb] at HF
  by_cases h1 : s.size < lo
  · have hE : decEr s.data.toList lo hi = .no 2 := by unfold decEr; rw [if_pos (.inl (by omega))]
    rw [hE]
    clear hE hb lp
    go_enter Tryd.func37, Tryd.ntmps37
    go_wp2
    go_ret2
    exact ⟨rfl, rfl⟩
  · by_cases h2 : hi < s.size
    · have hE : decEr s.data.toList lo hi = .no 2 := by unfold decEr; rw [if_pos (.inr (by omega))]
      rw [hE]
      clear hE hb lp
      go_enter Tryd.func37, Tryd.ntmps37
      go_wp2
      go_ret2
      exact ⟨rfl, rfl⟩
    · rcases hbz : badAt isDec s.data.toList with _ | k
      · have hE : decEr s.data.toList lo hi = .ok := by unfold decEr; rw [if_neg (by omega), hbz]
        have hz : badZ isDec s.data.toList = -1 := by unfold badZ; rw [hbz]
        rw [hz] at HF
        rw [hE]
        clear hE hb lp hz hbz
        go_enter Tryd.func37, Tryd.ntmps37
        go_wp2_with fail
        refine (HF.out _).mono ?_
        rintro e w1 ⟨rfl, rfl⟩
        go_wp2
        go_ret2
        exact ⟨rfl, rfl⟩
      · have hE : decEr s.data.toList lo hi = .fa k 16 := by unfold decEr; rw [if_neg (by omega), hbz]
        have hz : badZ isDec s.data.toList = k := by unfold badZ; rw [hbz]
        rw [hz] at HF
        rw [hE]
        clear hE hb lp hz hbz
        go_enter Tryd.func37, Tryd.ntmps37
        go_wp2_with fail
        refine (HF.out _).mono ?_
        rintro e w1 ⟨rfl, rfl⟩
        go_wp2
        go_ret2
        exact ⟨rfl, rfl⟩

theorem xorTo_take (x y : List Nat) (n : Nat) (hx : x.length = n) (hy : y.length = n) (k : Nat) (hk : k < n) : (xorTo x y n).take (k + 1) = (xorTo x y n).take k ++ [x.getD k 0 ^^^ y.getD k 0] := by
  rw [List.take_succ_eq_append_getElem (by rw [xorTo_len, hx]; exact hk)]
  congr 1
  have hg : ∀ m j, j < m → (xorTo x y m)[j]? = if j < x.length then some (x.getD j 0 ^^^ y.getD j 0) else none := by
    intro m
    induction m with
    | zero => intro j h; omega
    | succ m ih =>
      intro j h
      rw [xorTo, List.getElem?_set]
      by_cases e : m = j
      · subst e
        rw [if_pos rfl, xorTo_len]
      · rw [if_neg e]; exact ih j (by omega)
  have := hg n k hk
  rw [if_pos (by omega), List.getElem?_eq_getElem (by rw [xorTo_len]; omega)] at this
  rw [Option.some.inj this]
end Go.Proofs.YtgffppmpmjaknaaDoor
