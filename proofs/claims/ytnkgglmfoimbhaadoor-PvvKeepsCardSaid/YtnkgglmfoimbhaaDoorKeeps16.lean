/- lockboxlaw16.PvvKeeps: the walk. -/
import Derived.Test.YtnkgglmfoimbhaaDoorBehind16
import Derived.Test.YtnkgglmfoimbhaaDoorArr
namespace Go.Proofs.YtnkgglmfoimbhaaDoor
open Go Go.RowKit Pr

theorem info_16u8 : (Tryd.prog.info? 44).map (·.size) = some 16 := by kernel_rfl
theorem dec_pick {s : List UInt8} (h : ∀ c ∈ s, isDec c = true) : pickL s = s := by
  unfold pickL decsL lowsL
  have e1 : s.filter isDec = s := List.filter_eq_self.2 h
  have e2 : s.filter (fun c => !isDec c) = [] := List.filter_eq_nil_iff.2 (fun c hc => by rw [h c hc]; decide)
  rw [e1, e2]
  simp

/-- what pvv.Pick answers of a text, all of its digits -/
theorem keeps_pick (s : ByteArray) (_hs : s.size ≤ 100) :
    (badZ isDec s.data.toList = -1 ∧ pickEr s.data.toList s.size = .ok ∧ pickV s.data.toList s.size = .string s)
    ∨ (0 ≤ badZ isDec s.data.toList ∧ pickEr s.data.toList s.size = .ok ∧ ∃ X : ByteArray, pickV s.data.toList s.size = .string X ∧ X.size = s.size ∧ badZ isDec X.data.toList = -1)
    ∨ (0 ≤ badZ isDec s.data.toList ∧ pickEr s.data.toList s.size ≠ .ok ∧ ∃ X : ByteArray, pickV s.data.toList s.size = .string X ∧ X.size ≤ 100) := by
  have hl : s.data.toList.length = s.size := by simp
  have ht : (pickL s.data.toList).take s.size = pickL s.data.toList := List.take_of_length_le (by rw [pickL_len, hl]; exact Nat.le_refl _)
  cases hd : badAt isDec s.data.toList with
  | none =>
    have hdec := all_of_badAt hd
    have hhex : ∀ c ∈ s.data.toList, isHex c = true := fun c hc => isHex_of_dec (hdec c hc)
    refine .inl ⟨by unfold badZ; rw [hd], pickEr_hex _ _ hhex (by omega), ?_⟩
    rw [pickV_hex _ _ hhex (by omega), ht, dec_pick hdec, str_of]
  | some k =>
    have hz : badZ isDec s.data.toList = k := by unfold badZ; rw [hd]
    cases hh : badAt isHex s.data.toList with
    | none =>
      have hhex := all_of_badAt hh
      refine .inr (.inl ⟨by omega, pickEr_hex _ _ hhex (by omega), str (pickL s.data.toList), ?_, ?_, ?_⟩)
      · rw [pickV_hex _ _ hhex (by omega), ht]
      · rw [str_size, pickL_len, hl]
      · rw [str_list]; exact badZ_dec (pickL_dec _ hhex)
    | some j =>
      have hE : pickEr s.data.toList s.size = .fa j 16 := by unfold pickEr; rw [hh]
      exact .inr (.inr ⟨by omega, (by rw [hE]; intro h; cases h), ⟨#[]⟩, pickV_fa hE, by decide⟩)

set_option maxHeartbeats 4000000 in
set_option maxRecDepth 100000 in
theorem keeps16 (l : List Nat) (hll : l.length = 16) (hb : ∀ c ∈ l, c < 256) (num : Nat) (hnum : num < 256) (pan : ByteArray) (hp : pan.size ≤ 140737488351232) (p : ByteArray) (hd : p.size ≤ 140737488351232) (s : ByteArray) (hs : s.size ≤ 140737488351232) (w : World) :
    Calls Tryd.prog 7 #[.agg (byteCells l), .int .u8 num, .string pan, .string p, .string s] w fun e w' => e = .returned (.bool true) ∧ Below w.heap.size w w' := by
  by_cases hall : s.size ≤ 100 ∧ pan.size ≤ 100 ∧ p.size ≤ 100
  · obtain ⟨h1, h2, h3⟩ := hall
    have hnn : (num : Int) % 10 = ((num % 10 : Nat) : Int) := by omega
    have hO1 := fun A cp W hA => pvvOf_any l hb A cp ((num % 10 : Nat) : Int) pan p hp hd W hA
    have hV1 := fun A cp W hA => pvvVerify_any l hb A cp ((num % 10 : Nat) : Int) pan p ⟨#[48, 48, 48, 48]⟩ hp hd (by decide) W hA
    rw [hll] at hO1 hV1
    have HO := Lib.hid hO1; clear hO1
    have HV := Lib.hid hV1; clear hV1
    have HP := Lib.hid (fun W => pick_any s hs s.size W)
    have HF := Lib.hid (fun W => refFirst10 s hs W)
    have hcase := keeps_pick s h1
    generalize num % 10 = n at *
    generalize pvvEr 16 n pan.data.toList p.data.toList = er at *
    generalize pverEr l n pan.data.toList p.data.toList (ByteArray.data ⟨#[48, 48, 48, 48]⟩).toList = ver at *
    generalize str (pvvStr l n pan.data.toList p.data.toList) = SV at *
    generalize pickEr s.data.toList s.size = pe at *
    generalize pickV s.data.toList s.size = pv at *
    generalize badZ isDec s.data.toList = z at *
    have HCA := Lib.hid hcase; clear hcase
    have HLL := Lib.hid hll; clear hll
    have heq : ∀ W, (Op.equalIn 10000 44 (.agg (byteCells l)) (.agg (byteCells l))).run Tryd.prog W = .ok true W := fun W => by
      have := eqBytes (P := Tryd.prog) W 44 5 16 Tryd.underlying44 Tryd.underlying5 (fun w => size_u8 info_u8 w) l l HLL.out HLL.out hb hb
      rw [this]
      simp
    have HEQ := Lib.hid heq; clear heq hb
    go_enter Tryd.func7, Tryd.ntmps7
    go_wp2_with fail
    refine (awake16_any _).mono ?_
    rintro e w1 ⟨rfl, hb1⟩
    have hB1 : Blk w1 w.heap.size 44 (byteCells l) := (Blk.new w _ _).below hb1 (by simp)
    have hbel1 := ((Below.refl w.heap.size w).alloc (Nat.le_refl _) (.cells (byteCells l) 44)).trans (hb1.mono (by simp))
    have hs1 := hB1.lt
    clear hb1
    go_wp2_with (first
      | (refine wpList_load_row rfl 44 (.tmp 5) rfl w.heap.size rfl 44 _ (0,0) _ hB1 Tryd.underlying44 rfl (by rw [info_16u8, size_byteCells, HLL.out]) ?_)
      | (refine wpList_store_all rfl 44 (.tmp 11) (.tmp 32) rfl w1.heap.size (byteCells l) rfl rfl 44 _ (Blk.new w1 _ _) (by rw [info_16u8, size_byteCells, HLL.out]) (by rw [size_byteCells, HLL.out]; rfl) (bytes_one _) ?_; intro w2 hW2 hO2))
    have hB2 : Blk w2 w.heap.size 44 (byteCells l) := (hB1.alloc _).only hO2 (by omega)
    have hbel2 : Below w.heap.size w w2 := hO2.below (hbel1.alloc hbel1.size _) hbel1.size
    have hs2 := hB2.lt
    have hs2' := hW2.lt
    have hbs : ∀ W, Blk W w.heap.size 44 (byteCells l) → At W (some ⟨w.heap.size, 0, none⟩) l := fun W h => fun _ => ⟨_, _, rfl, Bs.of_blk h (fun j c hj => by rw [Nat.zero_add]; exact hj)⟩
    have HBS := Lib.hid hbs; clear hbs
    clear hO2 hbel1 hB1
    refine (HO.out _ _ _ (HBS.out _ hB2)).mono ?_
    rintro e w3 ⟨⟨v3, rfl, hv3⟩, hb3⟩
    have hbel3 := hbel2.trans (hb3.mono hbel2.size)
    have hB3 := hB2.below hb3 hs2
    have hW3 := hW2.below hb3 hs2'
    clear hv3 hb3 hB2 hW2 hbel2 HO
    go_wp2_with fail
    refine (HV.out _ _ _ (HBS.out _ hB3)).mono ?_
    rintro e w4 ⟨⟨v4, rfl, hv4⟩, hb4⟩
    have hbel4 := hbel3.trans (hb4.mono hbel3.size)
    have hB4 := hB3.below hb4 hB3.lt
    have hW4 := hW3.below hb4 hW3.lt
    clear hv4 hb4 hB3 hW3 hbel3 HV
    go_wp2_with fail
    refine (HP.out _).mono ?_
    rintro e w5 ⟨⟨v5, rfl, hv5⟩, hb5⟩
    have hbel5 := hbel4.trans (hb5.mono hbel4.size)
    have hB5 := hB4.below hb5 hB4.lt
    have hW5 := hW4.below hb5 hW4.lt
    have HV5 := Lib.hid hv5
    clear hv5 hb5 hB4 hW4 hbel4 HP
    have hq := HEQ.out w5
    go_wp2_with (first
      | (refine wpList_load_row rfl 44 (.tmp 5) rfl w.heap.size rfl 44 _ (0,0) _ hB5 Tryd.underlying44 rfl (by rw [info_16u8, size_byteCells, HLL.out]) ?_)
      | (refine wpList_load_row rfl 44 (.tmp 11) rfl w1.heap.size rfl 44 _ (0,0) _ hW5 Tryd.underlying44 rfl (by rw [info_16u8, size_byteCells, HLL.out]) ?_))
    refine (HF.out _).mono ?_
    rintro e w6 ⟨rfl, rfl⟩
    clear hq hB5 hW5 HF
    rcases HCA.out with ⟨rfl, rfl, rfl⟩ | ⟨hz, rfl, X, rfl, hX, hXd⟩ | ⟨hz, hpe, X, rfl, hX⟩
    · obtain rfl : v5 = _ := HV5.out
      go_wp2
      go_ret
      exact ⟨rfl, hbel5⟩
    · obtain rfl : v5 = _ := HV5.out
      have HX := fun W => refFirst10 X (by omega) W
      rw [hXd] at HX
      have HX2 := Lib.hid HX; clear HX
      have tX : ((X.size : Int) == (s.size : Int)) = true := by rw [beq_iff_eq]; omega
      have hXs : X.size ≤ 100 := by omega
      clear hX hXd HCA
      go_wp2_with fail
      refine (HX2.out _).mono ?_
      rintro e w7 ⟨rfl, rfl⟩
      go_wp2
      go_ret
      exact ⟨rfl, hbel5⟩
    · clear HCA
      cases pe with
      | ok => exact absurd rfl hpe
      | no k =>
        obtain rfl : v5 = _ := HV5.out
        go_wp2
        go_ret
        exact ⟨rfl, hbel5⟩
      | fa q k =>
        obtain ⟨g, rfl, _⟩ := HV5.out
        go_wp2
        go_ret
        exact ⟨rfl, hbel5⟩
  · have hor : 100 < s.size ∨ (s.size ≤ 100 ∧ 100 < pan.size) ∨ (s.size ≤ 100 ∧ pan.size ≤ 100 ∧ 100 < p.size) := by omega
    clear hall hb
    rcases hor with h1 | ⟨h1, h2⟩ | ⟨h1, h2, h3⟩
    all_goals
      go_enter Tryd.func7, Tryd.ntmps7
      go_wp2_with fail
      refine (awake16_any _).mono ?_
      rintro e w1 ⟨rfl, hb1⟩
      have hbel1 := ((Below.refl w.heap.size w).alloc (Nat.le_refl _) (.cells (byteCells l) 44)).trans (hb1.mono (by simp))
      go_wp2_with fail
      refine (awake16_any _).mono ?_
      rintro e w2 ⟨rfl, hb2⟩
      go_wp2
      go_ret
      exact ⟨rfl, hbel1.trans (hb2.mono hbel1.size)⟩
end Go.Proofs.YtnkgglmfoimbhaaDoor
