/- lockboxlaw16.PvvBehind: the walk. -/
import Derived.Test.YtnkgglmfoimbhaaDoorLaw16
import Derived.Test.YtnkgglmfoimbhaaDoorRef8
namespace Go.Proofs.YtnkgglmfoimbhaaDoor
open Go Go.RowKit Pr

theorem decEr_mk {s : List UInt8} {lo hi : Nat} (h1 : lo ≤ s.length) (h2 : s.length ≤ hi) (h : ∀ c ∈ s, isDec c = true) : decEr s lo hi = .ok := by
  unfold decEr
  rw [if_neg (by omega), badAt_none h]
theorem bothEr_mk {p a : List UInt8} (h1 : decEr p 4 12 = .ok) (h2 : decEr a 13 19 = .ok) : bothEr p a = .ok := by unfold bothEr; rw [h1]; exact h2
theorem decEr_un {s : List UInt8} {lo hi : Nat} (h : decEr s lo hi = .ok) : lo ≤ s.length ∧ s.length ≤ hi ∧ ∀ c ∈ s, isDec c = true := by
  unfold decEr at h
  split at h
  · cases h
  · rename_i h1
    split at h
    · cases h
    · rename_i h2
      exact ⟨by omega, by omega, all_of_badAt h2⟩
theorem lowd_dec (c : UInt8) (h : isHex c = true) (hd : isDec c = false) : isDec (lowd c) = true := all_u8 (p := fun c => isHex c = true → isDec c = false → isDec (lowd c) = true) (by decide +kernel) c h hd
theorem pickL_dec (s : List UInt8) (h : ∀ c ∈ s, isHex c = true) : ∀ c ∈ pickL s, isDec c = true := by
  intro c hc
  unfold pickL decsL lowsL at hc
  rcases List.mem_append.1 hc with h1 | h1
  · exact (List.mem_filter.1 h1).2
  · obtain ⟨x, hx, rfl⟩ := List.mem_map.1 h1
    obtain ⟨hx1, hx2⟩ := List.mem_filter.1 hx
    exact lowd_dec x (h x hx1) (by simpa using hx2)
theorem pvvVal_dec (key : List Nat) (n : Nat) (pan p : List UInt8) : ∀ c ∈ pvvVal key n pan p, isDec c = true := by
  intro c hc
  exact pickL_dec _ (hexL_hex _ (triple16_lt _ _ _ _)) c (List.mem_of_mem_take hc)
theorem badZ_dec {s : List UInt8} (h : ∀ c ∈ s, isDec c = true) : badZ isDec s = -1 := by unfold badZ; rw [badAt_none h]

theorem behind_p {p pan : List UInt8} (h : bothEr p pan = .ok) (m : Nat) (h4 : 4 ≤ m) (key : List Nat) (n : Nat) :
    bothEr (p.take m) pan = .ok ∧ pvvVal key n pan (p.take m) = pvvVal key n pan p := by
  obtain ⟨h1, h2⟩ := bothEr_ok h
  obtain ⟨a, b, c⟩ := decEr_un h1
  refine ⟨bothEr_mk (decEr_mk (by rw [List.length_take]; omega) (by rw [List.length_take]; omega) (fun x hx => c x (List.mem_of_mem_take hx))) h2, ?_⟩
  unfold pvvVal pvvText
  rw [List.take_take, Nat.min_eq_left h4]
theorem behind_a {p pan : List UInt8} (h : bothEr p pan = .ok) (key : List Nat) (n : Nat) :
    bothEr p (pan.take (pan.length - 1) ++ [48]) = .ok ∧ pvvVal key n (pan.take (pan.length - 1) ++ [48]) p = pvvVal key n pan p := by
  obtain ⟨h1, h2⟩ := bothEr_ok h
  obtain ⟨a, b, c⟩ := decEr_un h2
  have hl : (pan.take (pan.length - 1) ++ [48]).length = pan.length := by simp; omega
  refine ⟨bothEr_mk h1 (decEr_mk (by rw [hl]; exact a) (by rw [hl]; exact b) (fun x hx => ?_)), ?_⟩
  · rcases List.mem_append.1 hx with h3 | h3
    · exact c x (List.mem_of_mem_take h3)
    · have : x = 48 := by simpa using h3
      subst this; decide
  · unfold pvvVal pvvText
    rw [hl]
    have e : ((pan.take (pan.length - 1) ++ [48]).drop (pan.length - 12)).take 11 = (pan.drop (pan.length - 12)).take 11 := by
      rw [List.drop_append_of_le_length (by rw [List.length_take]; omega), List.take_append_of_le_length (by rw [List.length_drop, List.length_take]; omega), List.drop_take, List.take_take]
      congr 1
      omega
    rw [e]

theorem pvvEr_both {kl n : Nat} (hk : kl = 16) (hn : n < 10) (pan p : List UInt8) : pvvEr kl n pan p = bothEr p pan := by
  unfold pvvEr
  rw [if_neg (by omega), if_neg (by omega)]
theorem extract_take (s : ByteArray) (m : Nat) : (s.extract 0 m).data.toList = s.data.toList.take m := by
  rw [Lib.extract_data]; simp

set_option maxHeartbeats 4000000 in
set_option maxRecDepth 100000 in
theorem behind16 (l : List Nat) (hll : l.length = 16) (hb : ∀ c ∈ l, c < 256) (num : Nat) (hnum : num < 256) (pan : ByteArray) (hp : pan.size ≤ 140737488351232) (p : ByteArray) (hd : p.size ≤ 140737488351232) (tail : Nat) (ht : tail < 256) (w : World) :
    Calls Tryd.prog 6 #[.agg (byteCells l), .int .u8 num, .string pan, .string p, .int .u8 tail] w fun e w' => e = .returned (.bool true) ∧ Below w.heap.size w w' := by
  have hnn : (num : Int) % 10 = ((num % 10 : Nat) : Int) := by omega
  have hn10 : num % 10 < 10 := by omega
  have hO1 := fun A cp (n : Nat) (pan p : ByteArray) hp hd W hA => pvvOf_any l hb A cp (n : Int) pan p hp hd W hA
  rw [hll] at hO1
  have HOA := Lib.hid hO1; clear hO1
  have HO := Lib.hid (fun A cp W hA => HOA.out A cp (num % 10) pan p hp hd W hA)
  rw [pvvEr_both rfl hn10] at HO
  generalize num % 10 = n at *
  have hB0 : Bs (w.alloc (.cells (byteCells l) 44)) w.heap.size 0 l := Bs.of_blk (l := l) (Blk.new w _ _) (fun j c hj => by rw [Nat.zero_add]; exact hj)
  have hbel0 := (Below.refl w.heap.size w).alloc (Nat.le_refl _) (.cells (byteCells l) 44)
  have hs0 : w.heap.size < (w.alloc (.cells (byteCells l) 44)).heap.size := by simp
  generalize hw0 : w.alloc (.cells (byteCells l) 44) = w0 at *
  have HW0 := Lib.hid hw0; clear hw0
  have HLL := Lib.hid hll; clear hll
  by_cases hok : bothEr p.data.toList pan.data.toList = .ok
  · rw [hok] at HO
    obtain ⟨hp1, ha1⟩ := bothEr_ok hok
    obtain ⟨h13, h19, had⟩ := acc_ok pan ha1
    obtain ⟨h4, h12, hpd⟩ := pn_ok p hp1
    have hpE : pvvEr l.length n pan.data.toList p.data.toList = .ok := (pvvEr_both HLL.out hn10 _ _).trans hok
    rw [pvvStr_ok hpE] at HO
    have hpl : p.data.toList.length = p.size := by simp
    have hal : pan.data.toList.length = pan.size := by simp
    obtain ⟨m, hm⟩ : ∃ m : Nat, 4 + tail % (p.size - 3) = m := ⟨_, rfl⟩
    have hmod : tail % (p.size - 3) < p.size - 3 := Nat.mod_lt _ (by omega)
    have hm4 : 4 ≤ m := by omega
    have hmp : m ≤ p.size := by omega
    have hmI : (tail : Int) % ((p.size : Int) - 3) = (m : Int) - 4 := by
      have e : ((p.size : Int) - 3) = ((p.size - 3 : Nat) : Int) := by omega
      rw [e, ← hm]
      have : (tail : Int) % ((p.size - 3 : Nat) : Int) = ((tail % (p.size - 3) : Nat) : Int) := by simp
      rw [this]
      omega
    obtain ⟨q1, q2⟩ := behind_p hok m hm4 l n
    obtain ⟨r1, r2⟩ := behind_a hok l n
    have HP2 := Lib.hid (fun A cp W hA => HOA.out A cp n pan (p.extract 0 m) hp (by rw [ByteArray.size_extract]; omega) W hA)
    rw [extract_take, pvvEr_both rfl hn10, q1, pvvStr_ok ((pvvEr_both HLL.out hn10 _ _).trans q1), show ((n : Int)).toNat = n from rfl, q2] at HP2
    have hpan2 : (pan.extract 0 (pan.size - 1) ++ ⟨#[48]⟩).data.toList = pan.data.toList.take (pan.data.toList.length - 1) ++ [48] := by
      rw [ByteArray.data_append, Array.toList_append, extract_take, hal]
    have hpan2s : (pan.extract 0 (pan.size - 1) ++ ⟨#[48]⟩).size = pan.size := by
      rw [ByteArray.size_append, ByteArray.size_extract]
      have : (⟨#[48]⟩ : ByteArray).size = 1 := rfl
      omega
    have HA2 := Lib.hid (fun A cp W hA => HOA.out A cp n (pan.extract 0 (pan.size - 1) ++ ⟨#[48]⟩) p (by rw [hpan2s]; exact hp) hd W hA)
    rw [hpan2, pvvEr_both rfl hn10, r1, pvvStr_ok ((pvvEr_both HLL.out hn10 _ _).trans r1), show ((n : Int)).toNat = n from rfl, r2] at HA2
    rw [show ((n : Int)).toNat = n from rfl] at HO
    have hVl := pvvVal_len l n pan.data.toList p.data.toList
    have hVd := pvvVal_dec l n pan.data.toList p.data.toList
    have HF := fun W => refFirst10 (str (pvvVal l n pan.data.toList p.data.toList)) (by rw [str_size, hVl]; decide) W
    rw [str_list, badZ_dec hVd] at HF
    have hVs : (str (pvvVal l n pan.data.toList p.data.toList)).size = 4 := by rw [str_size, hVl]
    generalize str (pvvVal l n pan.data.toList p.data.toList) = V at *
    have F10 := Lib.hid HF; clear HF
    have hV4 : ((V.size : Int) == 4) = true := by rw [beq_iff_eq]; omega
    clear hVl hVd hVs q1 q2 r1 r2 hpE hp1 ha1 had hpd hok hpl hal hpan2 HOA hmod hb
    have HM := Lib.hid hm; clear hm
    obtain ⟨PM, hPM⟩ : ∃ PM, p.extract 0 m = PM := ⟨_, rfl⟩
    rw [hPM] at HP2
    have HPM := Lib.hid hPM; clear hPM
    obtain ⟨PN, hPN⟩ : ∃ PN, pan.extract 0 (pan.size - 1) = PN := ⟨_, rfl⟩
    rw [hPN] at HA2 hpan2s
    have HPN := Lib.hid hPN; clear hPN
    have hPNs : PN.size ≤ 19 := by rw [ByteArray.size_append] at hpan2s; omega
    obtain ⟨PZ, hPZ⟩ : ∃ PZ, PN ++ (⟨#[48]⟩ : ByteArray) = PZ := ⟨_, rfl⟩
    rw [hPZ] at HA2
    have HPZ := Lib.hid hPZ; clear hPZ hpan2s
    have HNN := Lib.hid hnn
    have w2 : IntKind.i64.wrap ((pan.size : Int) - 1) = (pan.size : Int) - 1 := IntWalk.i64_in _ (by omega)
    have e2 : ((pan.size : Int) - 1).toNat = pan.size - 1 := by omega
    have W2 := Lib.hid w2; clear w2
    have E2 := Lib.hid e2; clear e2
    have HMI := Lib.hid hmI; clear hmI
    go_enter Tryd.func6, Tryd.ntmps6
    go_wp2_with fail
    rw [HW0.out]
    refine (HO.out _ _ _ (fun _ => ⟨_, _, rfl, hB0⟩)).mono ?_
    rintro e w1 ⟨⟨v, rfl, hv⟩, hb1⟩
    obtain rfl : v = _ := hv
    have hbel1 := hbel0.trans (hb1.mono hbel0.size)
    have hB1 := hB0.below hb1 hs0
    have hs1 : w.heap.size < w1.heap.size := Nat.lt_of_lt_of_le hs0 hb1.size
    clear hb1 HO
    go_wp2_with fail
    refine (awake16_any _).mono ?_
    rintro e w2 ⟨rfl, hb2⟩
    have hbel2 := hbel1.trans (hb2.mono hbel1.size)
    have hB2 := hB1.below hb2 hs1
    have hs2 : w.heap.size < w2.heap.size := Nat.lt_of_lt_of_le hs1 hb2.size
    clear hb2
    have hmi := HMI.out
    go_wp2_with fail
    rw [show (4 : Int) + ((m : Int) - 4) = (m : Int) by omega]
    have hmpI : ¬ (p.size : Int) < m := by omega
    refine wp_region_tree (.q 0 (.q 1 (.q 2 (.q 3 (.q 4 (.q 5 (.e [6] fun _ => .q 7 (.q 8 (.q 9 (.q 10 (.q 11 (.done)))))))))))) (fun W => Below w2.heap.size w2 W) rfl (by kernel_rfl) (fun _ _ d _ _ h => by cases d <;> exact h) ?_
    have hw : Below w2.heap.size w2 w2.drew := below_drewN (Below.refl _ _) 1
    iterate 5 (refine t_q rfl rfl hw _ (fun W hW => by (go_simp; rfl)) ?_; go_simp)
    refine t_q rfl rfl hw (.string PM) (fun W hW => by (rw [← HPM.out]; go_simp)) ?_
    go_simp
    refine t_e rfl rfl fun K hK => ?_
    go_simp
    refine (HP2.out _ _ _ (fun _ => ⟨_, _, rfl, hB2.below hw hs2⟩)).mono ?_
    rintro e w3 ⟨⟨v, rfl, hv⟩, hb3⟩
    obtain rfl : v = _ := hv
    have hw3 := hw.trans (hb3.mono hw.size)
    refine hK _ _ hw3 ?_
    clear hK K hb3
    go_simp
    iterate 5 (refine t_q rfl rfl hw3 _ (fun W hW => by (go_simp; rfl)) ?_; go_simp)
    refine t_done ?_
    have hbel3 := hbel2.trans (hw3.mono hbel2.size)
    have hB3 := hB2.below hw3 hs2
    have hs3 : w.heap.size < w3.heap.size := Nat.lt_of_lt_of_le hs2 hw3.size
    clear hw hw3 HP2
    go_wp2_with fail
    refine wp_region_tree (.q 0 (.q 1 (.q 2 (.q 3 (.q 4 (.q 5 (.q 6 (.q 7 (.q 8 (.e [9] fun _ => .q 10 (.q 11 (.q 12 (.q 13 (.q 14 (.done))))))))))))))) (fun W => Below w3.heap.size w3 W) rfl (by kernel_rfl) (fun _ _ d _ _ h => by cases d <;> exact h) ?_
    have hw : Below w3.heap.size w3 w3.drew := below_drewN (Below.refl _ _) 1
    iterate 5 (refine t_q rfl rfl hw _ (fun W hW => by (go_simp; rfl)) ?_; go_simp)
    refine t_q rfl rfl hw (.int .i64 ((pan.size : Int) - 1)) (fun W hW => by (go_simp; exact W2.out)) ?_
    go_simp
    refine t_q rfl rfl hw (.string PN) (fun W hW => by (rw [← HPN.out]; have e2 := E2.out; go_simp; intro h; have := h (by omega); omega)) ?_
    go_simp
    refine t_q rfl rfl hw (.string PZ) (fun W hW => by (rw [← HPZ.out]; go_simp; try omega)) ?_
    go_simp
    refine t_q rfl rfl hw _ (fun W hW => by (go_simp; rfl)) ?_
    go_simp
    refine t_e rfl rfl fun K hK => ?_
    go_simp
    refine (HA2.out _ _ _ (fun _ => ⟨_, _, rfl, hB3.below hw hs3⟩)).mono ?_
    rintro e w4 ⟨⟨v, rfl, hv⟩, hb4⟩
    obtain rfl : v = _ := hv
    have hw4 := hw.trans (hb4.mono hw.size)
    refine hK _ _ hw4 ?_
    clear hK K hb4
    go_simp
    iterate 5 (refine t_q rfl rfl hw4 _ (fun W hW => by (go_simp; rfl)) ?_; go_simp)
    refine t_done ?_
    have hbel4 := hbel3.trans (hw4.mono hbel3.size)
    clear hw hw4 HA2
    go_wp2_with fail
    refine (F10.out _).mono ?_
    rintro e w5 ⟨rfl, rfl⟩
    go_wp2
    go_ret
    exact ⟨rfl, hbel4⟩
  · generalize pvvStr l n pan.data.toList p.data.toList = V at *
    generalize bothEr p.data.toList pan.data.toList = er at *
    clear HOA hb
    cases er with
    | ok => exact absurd rfl hok
    | no k =>
      clear hok
      go_enter Tryd.func6, Tryd.ntmps6
      go_wp2_with fail
      rw [HW0.out]
      refine (HO.out _ _ _ (fun _ => ⟨_, _, rfl, hB0⟩)).mono ?_
      rintro e w1 ⟨⟨v, rfl, hv⟩, hb1⟩
      obtain rfl : v = _ := hv
      have hbel1 := hbel0.trans (hb1.mono hbel0.size)
      go_wp2_with fail
      refine (awake16_any _).mono ?_
      rintro e w2 ⟨rfl, hb2⟩
      have hbel2 := hbel1.trans (hb2.mono hbel1.size)
      go_wp2_with fail
      refine (awake16_any _).mono ?_
      rintro e w3 ⟨rfl, hb3⟩
      go_wp2
      go_ret
      exact ⟨rfl, hbel2.trans (hb3.mono hbel2.size)⟩
    | fa q k =>
      clear hok
      go_enter Tryd.func6, Tryd.ntmps6
      go_wp2_with fail
      rw [HW0.out]
      refine (HO.out _ _ _ (fun _ => ⟨_, _, rfl, hB0⟩)).mono ?_
      rintro e w1 ⟨⟨v, rfl, hv⟩, hb1⟩
      obtain ⟨g, rfl, _⟩ := hv
      have hbel1 := hbel0.trans (hb1.mono hbel0.size)
      go_wp2_with fail
      refine (awake16_any _).mono ?_
      rintro e w2 ⟨rfl, hb2⟩
      have hbel2 := hbel1.trans (hb2.mono hbel1.size)
      go_wp2_with fail
      refine (awake16_any _).mono ?_
      rintro e w3 ⟨rfl, hb3⟩
      go_wp2
      go_ret
      exact ⟨rfl, hbel2.trans (hb3.mono hbel2.size)⟩
end Go.Proofs.YtnkgglmfoimbhaaDoor
