/- The contracts of mode.Xor, pin.turned, pin.Make. -/
import Derived.Test.YtnkgglmfoimbhaaGreatDoorPinB
import Derived.Test.YtnkgglmfoimbhaaGreatDoorRefW
namespace Go.Proofs.YtnkgglmfoimbhaaGreatDoor
open Go Go.RowKit Pr

theorem getD_256 (l : List Nat) (h : ∀ b ∈ l, b < 256) (i : Nat) : l.getD i 0 < 256 := by
  rw [List.getD_eq_getElem?_getD]
  rcases hq : l[i]? with _ | c
  · simp
  · exact h c (List.mem_of_getElem? hq)
theorem Own.ofBlk {w : World} {B g n : Nat} {l : List Nat} (h : Blk w g 5 (byteCells l)) (hg : B ≤ g) (hn : l.length = n) (hm : n ≤ 1000000) : Own w B (.slice (some ⟨g, 0, none⟩) n n) l := by
  subst hn
  exact ⟨by simp [byteCells], .inr ⟨g, l.length, byteCells l, rfl, hg, h, Nat.le_refl _, by unfold maxLen; omega, by simp [byteCells], by rw [List.take_of_length_le (by simp [byteCells])]⟩⟩

set_option maxHeartbeats 2000000 in
set_option maxRecDepth 100000 in
theorem modeXor_any (x y : List Nat) (n : Nat) (hx : x.length = n) (hy : y.length = n) (hn : n ≤ 1000) (gx : ∀ c ∈ x, c < 256) (gy : ∀ c ∈ y, c < 256) (A B : Option Addr) (ca cb : Nat) (w : World) (hA : At w A x) (hB : At w B y) :
    Calls Tryz.prog 59 #[.slice A n ca, .slice B n cb] w fun e w' => (∃ v, e = .returned (.tuple #[v, .nilIface]) ∧ Own w' w.heap.size v (xorTo x y n)) ∧ Below w.heap.size w w' := by
  have hXl : (xorTo x y n).length = n := by rw [xorTo_len, hx]
  have hXg : ∀ k, k < n → (xorTo x y n).getD k 0 = x.getD k 0 ^^^ y.getD k 0 := fun k hk => xorTo_getD x y n k hk (by omega)
  have hcx : ∀ k, k < n → ∃ b o, A = some ⟨b, o, none⟩ ∧ ∀ W, Below w.heap.size w W → W.cell? ⟨b, o + k, none⟩ = some (.int .u8 (x.getD k 0 : Nat)) := fun k hk => by
    obtain ⟨b, o, e, hN⟩ := hA (by intro h; rw [h] at hx; simp at hx; omega)
    refine ⟨b, o, e, fun W hW => ?_⟩
    rw [getD_of _ _ (by omega)]
    exact (hN.below hW (hN.lt (by intro h; rw [h] at hx; simp at hx; omega))).cell k (by omega)
  have hcy : ∀ k, k < n → ∃ b o, B = some ⟨b, o, none⟩ ∧ ∀ W, Below w.heap.size w W → W.cell? ⟨b, o + k, none⟩ = some (.int .u8 (y.getD k 0 : Nat)) := fun k hk => by
    obtain ⟨b, o, e, hN⟩ := hB (by intro h; rw [h] at hy; simp at hy; omega)
    refine ⟨b, o, e, fun W hW => ?_⟩
    rw [getD_of _ _ (by omega)]
    exact (hN.below hW (hN.lt (by intro h; rw [h] at hy; simp at hy; omega))).cell k (by omega)
  have HG1 := Lib.hid (fun i => getD_256 x gx i)
  have HG2 := Lib.hid (fun i => getD_256 y gy i)
  generalize xorTo x y n = X at *
  have HXL := Lib.hid hXl; clear hXl
  have HXG := Lib.hid hXg; clear hXg
  have HCX := Lib.hid hcx; clear hcx
  have HCY := Lib.hid hcy; clear hcy
  clear hA hB hx hy gx gy
  have t1 : ((n : Int) != (n : Int)) = false := by simp
  go_enter Tryz.func59, Tryz.ntmps59
  go_wp2_with (refine wpList_make_bytes rfl (.tmp 15) (.tmp 15) rfl .i64 .i64 n n n rfl rfl rfl rfl (by omega) ?_; intro w1 hb1 hB1 hs1)
  have HS1 := Lib.hid hs1; clear hs1
  go_loopw [19] (fun i wr => ∃ k : Nat, k ≤ n ∧ i = .int .i64 k ∧ Blk wr w.heap.size 5 (byteCells (fillN X n k)) ∧ Below w.heap.size w wr) (fun i _ => n - (intOf i).toNat)
  case atStart => exact ⟨0, by omega, rfl, by simpa [fillN] using hB1, hb1⟩
  case round =>
    obtain ⟨k, hk, rfl, hBr, hbr⟩ := hrel
    by_cases hlt : k < n
    · obtain ⟨b1, o1, rfl, hL1⟩ := HCX.out k hlt
      obtain ⟨b2, o2, rfl, hL2⟩ := HCY.out k hlt
      have hl := fillN_len X n k hk HXL.out
      have hcell := hBr.cell k
      have hfr := hBr.frozen k
      obtain ⟨c0, hc0⟩ : ∃ c, (byteCells (fillN X n k))[k]? = some c := ⟨_, get_byteCells _ k (by rw [hl]; exact hlt)⟩
      rw [hc0] at hcell
      clear hc0 hl
      have hL1 := hL1 wr.drew (below_drewN hbr 1)
      have hL2 := hL2 wr.drew (below_drewN hbr 1)
      have hX := u8_xor_nat _ _ (HG1.out k) (HG2.out k)
      have hst := fillN_set X n k hlt HXL.out
      have hXk : X[k]'(by rw [HXL.out]; exact hlt) = x.getD k 0 ^^^ y.getD k 0 := by rw [← HXG.out k hlt, getD_of]
      rw [hXk] at hst
      have hnx := hBr.set_ k (.int .u8 ((x.getD k 0 ^^^ y.getD k 0 : Nat) : Int))
      rw [show (byteCells (fillN X n k)).setIfInBounds k (.int .u8 ((x.getD k 0 ^^^ y.getD k 0 : Nat) : Int)) = byteCells ((fillN X n k).set k (x.getD k 0 ^^^ y.getD k 0)) from set_byteCells _ _ _, hst] at hnx
      generalize x.getD k 0 = x1 at *
      generalize y.getD k 0 = y1 at *
      rw [← hX] at hnx
      have HNX := Lib.hid hnx; clear hnx hst hXk hX
      have hcell' : wr.drew.cell? ⟨w.heap.size, k, none⟩ = some c0 := hcell
      have hfr' : wr.drew.frozen? ⟨w.heap.size, k, none⟩ = false := hfr
      clear hBr
      go_wp2_with fail
      go_still_tail 12, (by kernel_rfl)
      change wpList _ _ _ _ _ wr.drew
      have hbr2 : Below w.heap.size w wr.drew := below_drewN hbr 1
      have hnx2 : Blk (wr.drew.setCell ⟨w.heap.size, k, none⟩ (.int .u8 (bits .xor .u8 (x1 : Int) (y1 : Int)))) w.heap.size 5 (byteCells (fillN X n (k + 1))) := HNX.out
      have HNX2 := Lib.hid hnx2; clear hnx2 HNX
      generalize wr.drew = w2 at *
      go_wp2
      go_roundw
      case rel => exact ⟨k + 1, by omega, by go_num, HNX2.out, hbr2.setCell (by show w.heap.size ≤ w.heap.size; omega) _⟩
      case measure => simp [intOf]; omega
    · obtain rfl : k = n := by omega
      rw [fillN_end _ _ HXL.out] at hBr
      go_wp2
      go_ret2
      exact ⟨⟨_, rfl, Own.ofBlk hBr (Nat.le_refl _) HXL.out (by omega)⟩, hbr⟩

theorem field_ok (a : ByteArray) (h : decEr a.data.toList 13 19 = .ok) : 13 ≤ a.size ∧ a.size ≤ 19 ∧ ∀ c ∈ a.data.toList, isDec c = true := by
  unfold decEr at h
  split at h
  · cases h
  · rename_i h1
    have hl : a.data.toList.length = a.size := by simp
    split at h
    · cases h
    · rename_i h2
      exact ⟨by omega, by omega, all_of_badAt h2⟩
theorem pin_ok (a : ByteArray) (h : decEr a.data.toList 4 12 = .ok) : 4 ≤ a.size ∧ a.size ≤ 12 ∧ ∀ c ∈ a.data.toList, isDec c = true := by
  unfold decEr at h
  split at h
  · cases h
  · rename_i h1
    have hl : a.data.toList.length = a.size := by simp
    split at h
    · cases h
    · rename_i h2
      exact ⟨by omega, by omega, all_of_badAt h2⟩

set_option maxHeartbeats 1000000 in
theorem turned_two (f : Nat) (hf : f = 0 ∨ f = 3) (b : List Nat) (hb : b.length = 8) (gb : ∀ c ∈ b, c < 256) (A : Option Addr) (cb : Nat) (a : ByteArray) (h13 : 13 ≤ a.size) (h19 : a.size ≤ 19) (ha : ∀ c ∈ a.data.toList, isDec c = true) (w : World) (hA : At w A b) :
    Calls Tryz.prog 52 #[.int .i64 f, .slice A 8 cb, .string a] w fun e w' => (∃ v, e = .returned (.tuple #[v, .nilIface]) ∧ Own w' w.heap.size v (turnC f a.data.toList b)) ∧ Below w.heap.size w w' := by
  have hal : a.data.toList.length = a.size := by simp
  have hT : turnC f a.data.toList b = xorTo b (unhexL (fieldS a.data.toList)) 8 := by unfold turnC; rw [if_neg (by omega)]
  rw [hT]
  clear hT
  have HF := Lib.hid (fun W => field_any a h13 (by omega) W)
  have hhex := fieldS_hex a.data.toList ha
  have hfl := fieldS_len a.data.toList (by omega)
  have hU : ∀ W, Calls Tryz.prog 40 #[.string (str (fieldS a.data.toList))] W fun e w' => (∃ v, e = .returned (.tuple #[v, .nilIface]) ∧ Own w' W.heap.size v (unhexL (fieldS a.data.toList))) ∧ Below W.heap.size W w' :=
    fun W => unhex_ok (str (fieldS a.data.toList)) (by rw [str_size]; omega) (by rw [str_list]; exact badAt_none hhex) (by rw [str_size, hfl]) W
  have HU := Lib.hid hU; clear hU
  have hul : (unhexL (fieldS a.data.toList)).length = 8 := by rw [unhexL_len, hfl]
  have hult := unhexL_lt hhex
  generalize str (fieldS a.data.toList) = F at *
  generalize unhexL (fieldS a.data.toList) = U at *
  have HX := Lib.hid (fun A B ca cb W hA hB => modeXor_any b U 8 hb hul (by omega) gb hult A B ca cb W hA hB)
  have HUL := Lib.hid hul; clear hul hult hfl hhex hal
  have HA := Lib.hid hA; clear hA hb gb ha
  have main : ∀ (f : Nat), f = 0 ∨ f = 3 → Calls Tryz.prog 52 #[.int .i64 f, .slice A 8 cb, .string a] w fun e w' => (∃ v, e = .returned (.tuple #[v, .nilIface]) ∧ Own w' w.heap.size v (xorTo b U 8)) ∧ Below w.heap.size w w' := by
    clear hf f
    intro f hf
    rcases hf with rfl | rfl
    all_goals
      go_enter Tryz.func52, Tryz.ntmps52
      go_wp2_with fail
      refine (HF.out _).mono ?_
      rintro e w1 ⟨rfl, rfl⟩
      go_wp2_with fail
      refine (HU.out _).mono ?_
      rintro e w2 ⟨⟨v, rfl, hv⟩, hb2⟩
      obtain ⟨g, cap, rfl, hg, hcap, hgl, hBU⟩ := hv.form (by intro h; have := HUL.out; rw [h] at this; cases this)
      rw [HUL.out] at hcap ⊢
      clear hv
      go_wp2_with fail
      refine (HX.out _ _ _ _ _ (HA.out.below hb2 (Nat.le_refl _)) (fun _ => ⟨_, _, rfl, hBU⟩)).mono ?_
      rintro e w3 ⟨⟨v3, rfl, hv3⟩, hb3⟩
      go_wp2
      go_ret2
      exact ⟨⟨_, rfl, hv3.more hb2.size⟩, hb2.trans (hb3.mono hb2.size)⟩
  exact main f hf

theorem turned_one (A : Option Addr) (n cb : Nat) (a : ByteArray) (w : World) :
    Calls Tryz.prog 52 #[.int .i64 1, .slice A n cb, .string a] w fun e w' => e = .returned (.tuple #[.slice A n cb, .nilIface]) ∧ w = w' := by
  go_enter Tryz.func52, Tryz.ntmps52
  go_wp2
  go_ret2
  exact ⟨rfl, rfl⟩
/-- whatever the format: where the bytes lie that come out -/
theorem turned_any (f : Nat) (hf : f = 0 ∨ f = 1 ∨ f = 3) (b : List Nat) (hb : b.length = 8) (gb : ∀ c ∈ b, c < 256) (A : Option Addr) (cb : Nat) (a : ByteArray) (h13 : 13 ≤ a.size) (h19 : a.size ≤ 19) (ha : ∀ c ∈ a.data.toList, isDec c = true) (w : World) (hA : At w A b) :
    Calls Tryz.prog 52 #[.int .i64 f, .slice A 8 cb, .string a] w fun e w' => (∃ A' cp, e = .returned (.tuple #[.slice A' 8 cp, .nilIface]) ∧ At w' A' (turnC f a.data.toList b)) ∧ Below w.heap.size w w' := by
  by_cases h1 : f = 1
  · subst h1
    refine (turned_one A 8 cb a w).mono ?_
    rintro e w' ⟨rfl, rfl⟩
    exact ⟨⟨A, cb, rfl, hA⟩, Below.refl _ _⟩
  · refine (turned_two f (by omega) b hb gb A cb a h13 h19 ha w hA).mono ?_
    rintro e w' ⟨⟨v, rfl, hv⟩, hb'⟩
    have hl := turnC_len f a.data.toList b
    rw [hb] at hl
    obtain ⟨g, cap, rfl, hg, hcap, hgl, hBU⟩ := hv.form (by intro h; rw [h] at hl; cases hl)
    rw [hl]
    exact ⟨⟨_, _, rfl, fun _ => ⟨_, _, rfl, hBU⟩⟩, hb'⟩

/-- what pin.Make answers -/
def makeEr (f : Int) (p a : List UInt8) : Er := if f = 0 ∨ f = 1 ∨ f = 3 then bothEr p a else .no 1
def makeVal (f : Int) (p a : List UInt8) (fill : List Nat) : List Nat := match makeEr f p a with | .ok => makeD f.toNat p a fill | _ => z8
theorem makeVal_ok {f : Int} {p a : List UInt8} {fill : List Nat} (h : makeEr f p a = .ok) : makeVal f p a fill = makeD f.toNat p a fill := by unfold makeVal; rw [h]
theorem makeVal_bad {f : Int} {p a : List UInt8} {fill : List Nat} (h : makeEr f p a ≠ .ok) : makeVal f p a fill = z8 := by
  unfold makeVal
  split
  · rename_i h'; exact absurd h' h
  · rfl

set_option maxHeartbeats 1000000 in
theorem make_arg (f : Int) (hf : ¬ (f = 0 ∨ f = 1 ∨ f = 3)) (p a : ByteArray) (fill : List Nat) (w : World) :
    Calls Tryz.prog 20 #[.int .i64 f, .string p, .string a, .agg (byteCells fill)] w fun e w' => (∃ v, e = .returned (.tuple #[.agg (byteCells z8), v]) ∧ ErIs w' w.heap.size v (.no 1)) ∧ Below w.heap.size w w' := by
  have HK := Lib.hid (fun W => known_no f hf W)
  clear hf
  go_enter Tryz.func20, Tryz.ntmps20
  go_wp2_with fail
  refine (HK.out _).mono ?_
  rintro e w1 ⟨rfl, rfl⟩
  go_wp2
  refine bodyPost_ret (v := .tuple #[.agg (byteCells z8), .iface 75 (.int .i64 1)]) (results_agg_tmp rfl _ _ (w.heap.size + 1) 38 (byteCells z8) _ (by rfl) (Blk.new2 w _ _ _) Tryz.underlying38 rfl (by rw [info_8u8]; rfl) _ (by rfl)) rfl ⟨⟨_, rfl, rfl⟩, ?_⟩
  exact ((Below.refl _ _).alloc (Nat.le_refl _) _).alloc (by simp) _

theorem z8_len : z8.length = 8 := rfl
set_option maxHeartbeats 1000000 in
theorem make_bad (f : Nat) (hf : f = 0 ∨ f = 1 ∨ f = 3) (p a : ByteArray) (hp : p.size ≤ 140737488351232) (ha : a.size ≤ 140737488351232) (fill : List Nat) (er : Er) (he : bothEr p.data.toList a.data.toList = er) (hne : er ≠ .ok) (w : World) :
    Calls Tryz.prog 20 #[.int .i64 f, .string p, .string a, .agg (byteCells fill)] w fun e w' => (∃ v, e = .returned (.tuple #[.agg (byteCells z8), v]) ∧ ErIs w' w.heap.size v er) ∧ Below w.heap.size w w' := by
  have HK := Lib.hid (fun W => known_yes f hf W)
  have HB := Lib.hid (fun W => both_any p a hp ha W)
  rw [he] at HB
  clear hf he
  have key : ∀ (v : Value) (w1 : World), v ≠ .nilIface → True := fun _ _ _ => trivial
  clear key
  cases er with
  | ok => exact absurd rfl hne
  | no m =>
    clear hne
    go_enter Tryz.func20, Tryz.ntmps20
    go_wp2_with fail
    refine (HK.out _).mono ?_
    rintro e w1 ⟨rfl, rfl⟩
    go_wp2_with fail
    refine (HB.out _).mono ?_
    rintro e w2 ⟨⟨v, rfl, hv⟩, hb2⟩
    obtain rfl : v = _ := hv
    have hZ2 : Blk w2 (w.heap.size + 1) 38 (byteCells z8) := (Blk.new2 w _ _ _).below hb2 (by simp)
    have hbel := (((Below.refl w.heap.size w).alloc (Nat.le_refl _) (.cells (byteCells fill) 38)).alloc (by simp) (.cells (byteCells z8) 38)).trans (hb2.mono (by simp; omega))
    go_wp2_with (refine wpList_store_all rfl 38 (.tmp 8) (.tmp 23) rfl (w.heap.size + 1) (byteCells z8) rfl rfl 38 _ hZ2 (by rw [info_8u8]; rfl) rfl (bytes_one _) ?_; intro w3 hZ3 hO3)
    refine bodyPost_ret (v := .tuple #[.agg (byteCells z8), .iface 75 (.int .i64 (m : Int))]) (results_agg_tmp rfl _ _ (w.heap.size + 1) 38 (byteCells z8) _ (by rfl) hZ3 Tryz.underlying38 rfl (by rw [info_8u8]; rfl) _ (by rfl)) rfl ⟨⟨_, rfl, rfl⟩, ?_⟩
    exact hO3.below hbel (by omega)
  | fa q m =>
    clear hne
    go_enter Tryz.func20, Tryz.ntmps20
    go_wp2_with fail
    refine (HK.out _).mono ?_
    rintro e w1 ⟨rfl, rfl⟩
    go_wp2_with fail
    refine (HB.out _).mono ?_
    rintro e w2 ⟨⟨v, rfl, hv⟩, hb2⟩
    have hv' := hv
    obtain ⟨g, rfl, hg, hBg⟩ := hv'
    have hZ2 : Blk w2 (w.heap.size + 1) 38 (byteCells z8) := (Blk.new2 w _ _ _).below hb2 (by simp)
    have hbel := (((Below.refl w.heap.size w).alloc (Nat.le_refl _) (.cells (byteCells fill) 38)).alloc (by simp) (.cells (byteCells z8) 38)).trans (hb2.mono (by simp; omega))
    have hg2 : w.heap.size + 1 < g := by simp at hg; omega
    clear hv hg
    go_wp2_with (refine wpList_store_all rfl 38 (.tmp 8) (.tmp 23) rfl (w.heap.size + 1) (byteCells z8) rfl rfl 38 _ hZ2 (by rw [info_8u8]; rfl) rfl (bytes_one _) ?_; intro w3 hZ3 hO3)
    refine bodyPost_ret (v := .tuple #[.agg (byteCells z8), .iface 74 (.pointer (some ⟨g, 0, none⟩))]) (results_agg_tmp rfl _ _ (w.heap.size + 1) 38 (byteCells z8) _ (by rfl) hZ3 Tryz.underlying38 rfl (by rw [info_8u8]; rfl) _ (by rfl)) rfl ⟨⟨_, rfl, g, rfl, by omega, hBg.only hO3 (by omega)⟩, ?_⟩
    exact hO3.below hbel (by omega)

theorem filler_any (f : Nat) (hf : f = 0 ∨ f = 1 ∨ f = 3) (fill : List Nat) (hl : fill.length = 8) (hlt : ∀ c ∈ fill, c < 256) (w : World) :
    Calls Tryz.prog 51 #[.int .i64 f, .agg (byteCells fill)] w fun e w' => e = .returned (.string (str (fillS f fill))) ∧ Below w.heap.size w w' := by
  rcases hf with rfl | rfl | rfl
  · exact filler_zero fill w
  · exact filler_hex 1 (.inl rfl) fill hl hlt w
  · exact filler_three fill hl hlt w

set_option maxHeartbeats 2000000 in
set_option maxRecDepth 100000 in
theorem make_ok (f : Nat) (hf : f = 0 ∨ f = 1 ∨ f = 3) (p a : ByteArray) (h4 : p.size ≤ 12) (h12 : 4 ≤ p.size) (hpd : ∀ c ∈ p.data.toList, isDec c = true) (h13 : 13 ≤ a.size) (h19 : a.size ≤ 19) (had : ∀ c ∈ a.data.toList, isDec c = true) (hboth : bothEr p.data.toList a.data.toList = .ok)
    (fill : List Nat) (hl : fill.length = 8) (hlt : ∀ c ∈ fill, c < 256) (w : World) :
    Calls Tryz.prog 20 #[.int .i64 f, .string p, .string a, .agg (byteCells fill)] w fun e w' => e = .returned (.tuple #[.agg (byteCells (makeD f p.data.toList a.data.toList fill)), .nilIface]) ∧ Below w.heap.size w w' := by
  have hpl : p.data.toList.length = p.size := by simp
  have hal : a.data.toList.length = a.size := by simp
  rw [← makeC_eq f p.data.toList a.data.toList fill hf (by omega) hpd (by omega) had hl hlt]
  have HK := Lib.hid (fun W => known_yes f hf W)
  have HB := Lib.hid (fun W => both_any p a (by omega) (by omega) W)
  rw [hboth] at HB
  clear hboth
  have HT := Lib.hid (fun W => text_any f (by omega) p (by omega) W)
  have HL := Lib.hid (fun W => filler_any f hf fill hl hlt W)
  have hrh := raw_hex f p.data.toList fill (by omega) (by omega) hpd hlt
  have hrl := raw_len f p.data.toList fill hl
  have hcut : (str (textS f p.data.toList) ++ str (fillS f fill)).extract 0 16 = str ((textS f p.data.toList ++ fillS f fill).take 16) := by
    rw [str_add, str_extract]
    simp
  have hs1 : (str (textS f p.data.toList)).size ≤ 14 := by rw [str_size, textS_len]; omega
  have hs2 : (str (fillS f fill)).size = 16 := by rw [str_size, fillS_len _ _ hl]
  have hU : ∀ W, Calls Tryz.prog 40 #[.string (str ((textS f p.data.toList ++ fillS f fill).take 16))] W fun e w' => (∃ v, e = .returned (.tuple #[v, .nilIface]) ∧ Own w' W.heap.size v (unhexL ((textS f p.data.toList ++ fillS f fill).take 16))) ∧ Below W.heap.size W w' :=
    fun W => unhex_ok _ (by rw [str_size, hrl]; decide) (by rw [str_list]; exact badAt_none hrh) (by rw [str_size, hrl]) W
  have HU := Lib.hid hU; clear hU
  have hul : (unhexL ((textS f p.data.toList ++ fillS f fill).take 16)).length = 8 := by rw [unhexL_len, hrl]
  have hult := unhexL_lt hrh
  have hdef : makeC f p.data.toList a.data.toList fill = turnC f a.data.toList (unhexL ((textS f p.data.toList ++ fillS f fill).take 16)) := rfl
  rw [hdef]
  clear hdef hrh hrl
  generalize str ((textS f p.data.toList ++ fillS f fill).take 16) = S at *
  generalize unhexL ((textS f p.data.toList ++ fillS f fill).take 16) = U at *
  have HU2 := Lib.hid (fun A cb W hA => turned_any f hf U hul hult A cb a h13 h19 had W hA)
  have hvl : (turnC f a.data.toList U).length = 8 := by rw [turnC_len, hul]
  generalize turnC f a.data.toList U = V at *
  generalize str (textS f p.data.toList) = T at *
  generalize str (fillS f fill) = F at *
  have HCUT := Lib.hid hcut; clear hcut
  have hs2' : F.size ≤ 16 := by omega
  have hcutn : (0 : Int) ≤ 16 := by omega
  have hTF : 16 ≤ (T ++ F).size := by rw [ByteArray.size_append]; omega
  have hTF' : ¬ ((T.size : Int) + F.size < 16) := by have := hTF; rw [ByteArray.size_append] at this; omega
  have b1 : ¬ 9223372036854775807 < T.size + F.size := by omega
  have HUL := Lib.hid hul; clear hul hult
  have HVL := Lib.hid hvl; clear hvl
  have HFL := Lib.hid hl; clear hl
  clear hs2 hpl hal hpd had hlt hf
  go_enter Tryz.func20, Tryz.ntmps20
  go_wp2_with fail
  refine (HK.out _).mono ?_
  rintro e w1 ⟨rfl, rfl⟩
  go_wp2_with fail
  refine (HB.out _).mono ?_
  rintro e w2 ⟨⟨v, rfl, hv⟩, hb2⟩
  obtain rfl : v = _ := hv
  have hF2 : Bs w2 w.heap.size 0 fill := (Bs.alloc (Bs.of_blk (l := fill) (Blk.new w _ _) (fun j c hj => by rw [Nat.zero_add]; exact hj)) _).below hb2 (by simp; omega)
  have hZ2 : Blk w2 (w.heap.size + 1) 38 (byteCells z8) := (Blk.new2 w _ _ _).below hb2 (by simp)
  have hbel2 := (((Below.refl w.heap.size w).alloc (Nat.le_refl _) (.cells (byteCells fill) 38)).alloc (by simp) (.cells (byteCells z8) 38)).trans (hb2.mono (by simp; omega))
  have hsz2 : w.heap.size + 2 ≤ w2.heap.size := by have := hb2.size; simp at this; omega
  clear hb2
  go_wp2_with fail
  refine wp_region_tree (.q 0 (.q 1 (.q 3 (.q 4 (.e [2] fun _ => .e [5] fun _ => .q 6 (.q 7 (.e [8] fun _ => .q 9 (.q 10 (.q 11 (.q 12 (.q 13 (.done)))))))))))) (fun W => Below w2.heap.size w2 W) rfl (by kernel_rfl) (fun _ _ d _ _ h => by cases d <;> exact h) ?_
  have hw : Below w2.heap.size w2 w2.drew := below_drewN (Below.refl _ _) 1
  iterate 3 (refine t_q rfl rfl hw _ (fun W hW => by (go_simp; rfl)) ?_; go_simp)
  refine t_load_bs rfl rfl 38 (.tmp 7) rfl w.heap.size 0 rfl fill hw (fun W hW => hF2.below hW (by omega)) _ Tryz.underlying38 rfl (by rw [info_8u8, HFL.out]) ?_
  go_simp
  refine t_e rfl rfl fun K hK => ?_
  go_simp
  refine (HT.out _).mono ?_
  rintro e w3 ⟨rfl, hb3⟩
  have hw3 := hw.trans (hb3.mono hw.size)
  refine hK _ _ hw3 ?_
  clear hK K hb3
  go_simp
  refine t_e rfl rfl fun K hK => ?_
  go_simp
  refine (HL.out _).mono ?_
  rintro e w4 ⟨rfl, hb4⟩
  have hw4 := hw3.trans (hb4.mono hw3.size)
  refine hK _ _ hw4 ?_
  clear hK K hb4
  go_simp
  refine t_q rfl rfl hw4 (.string (T ++ F)) (fun W hW => by (go_simp; try rfl)) ?_
  go_simp
  refine t_q rfl rfl hw4 (.string S) (fun W hW => by (rw [← HCUT.out]; go_simp)) ?_
  go_simp
  refine t_e rfl rfl fun K hK => ?_
  go_simp
  refine (HU.out _).mono ?_
  rintro e w5 ⟨⟨v, rfl, hv⟩, hb5⟩
  obtain ⟨g, cap, rfl, hg, hcap, hgl, hBU⟩ := hv.form (by intro h; have := HUL.out; rw [h] at this; cases this)
  rw [HUL.out] at hcap ⊢
  have hw5 := hw4.trans (hb5.mono hw4.size)
  refine hK _ _ hw5 ?_
  clear hK K hb5 hv
  go_simp
  iterate 5 (refine t_q rfl rfl hw5 _ (fun W hW => by (go_simp; rfl)) ?_; go_simp)
  refine t_done ?_
  have hbel5 := hbel2.trans (hw5.mono hbel2.size)
  have hZ5 := hZ2.below hw5 (by omega)
  have hsz5 := hw5.size
  clear hw hw3 hw4 hw5
  go_wp2_with fail
  refine (HU2.out _ _ _ (fun _ => ⟨_, _, rfl, hBU⟩)).mono ?_
  rintro e w6 ⟨⟨A', cp, rfl, hAV⟩, hb6⟩
  obtain ⟨gv, ov, rfl, hBV⟩ := hAV (by intro h; have := HVL.out; rw [h] at this; cases this)
  have hbel6 := hbel5.trans (hb6.mono hbel5.size)
  have hZ6 := hZ5.below hb6 (by omega)
  have harr : ∀ a c W, (Instr.arrayAt 38 (.slice a 8 c)).run Tryz.prog W = .ok (.pointer a) W := fun a c W => run_arrayAt _ 5 8 Tryz.underlying38 a 8 c (Nat.le_refl _) W
  go_wp2_with (first
    | (refine wpList_load_bs rfl 38 (.tmp 53) rfl gv ov rfl V hBV _ Tryz.underlying38 rfl (by rw [info_8u8, HVL.out]) ?_)
    | (refine wpList_store_all rfl 38 (.tmp 8) (.tmp 54) rfl (w.heap.size + 1) (byteCells V) rfl rfl 38 _ hZ6 (by rw [info_8u8, size_byteCells, HVL.out]) (by rw [size_byteCells, size_byteCells, HVL.out]; rfl) (bytes_one _) ?_; intro w7 hZ7 hO7))
  refine bodyPost_ret (v := .tuple #[.agg (byteCells V), .nilIface]) (results_agg_tmp rfl _ _ (w.heap.size + 1) 38 (byteCells V) _ (by rfl) hZ7 Tryz.underlying38 rfl (by rw [info_8u8, size_byteCells, HVL.out]) _ (by rfl)) rfl ⟨rfl, ?_⟩
  exact hO7.below hbel6 (by omega)

/-- the contract of pin.Make -/
theorem make_any (f : Int) (p a : ByteArray) (hp : p.size ≤ 140737488351232) (ha : a.size ≤ 140737488351232) (fill : List Nat) (hl : fill.length = 8) (hlt : ∀ c ∈ fill, c < 256) (w : World) :
    Calls Tryz.prog 20 #[.int .i64 f, .string p, .string a, .agg (byteCells fill)] w fun e w' =>
      (∃ v, e = .returned (.tuple #[.agg (byteCells (makeVal f p.data.toList a.data.toList fill)), v]) ∧ ErIs w' w.heap.size v (makeEr f p.data.toList a.data.toList)) ∧ Below w.heap.size w w' := by
  by_cases hf : f = 0 ∨ f = 1 ∨ f = 3
  · have hE : makeEr f p.data.toList a.data.toList = bothEr p.data.toList a.data.toList := by unfold makeEr; rw [if_pos hf]
    obtain ⟨n, rfl⟩ : ∃ n : Nat, f = n := ⟨f.toNat, by omega⟩
    have hf' : n = 0 ∨ n = 1 ∨ n = 3 := by omega
    by_cases hok : bothEr p.data.toList a.data.toList = .ok
    · rw [makeVal_ok (hE.trans hok), hE, hok]
      have hb := hok
      unfold bothEr at hb
      split at hb
      · rename_i hp4
        obtain ⟨q1, q2, q3⟩ := pin_ok p hp4
        obtain ⟨r1, r2, r3⟩ := field_ok a hb
        refine (make_ok n hf' p a q2 q1 q3 r1 r2 r3 hok fill hl hlt w).mono ?_
        rintro e w' ⟨rfl, hb'⟩
        exact ⟨⟨_, rfl, rfl⟩, hb'⟩
      · rename_i h1
        exact absurd hb h1
    · rw [makeVal_bad (by rw [hE]; exact hok), hE]
      exact make_bad n hf' p a hp ha fill _ rfl hok w
  · have hE : makeEr f p.data.toList a.data.toList = .no 1 := by unfold makeEr; rw [if_neg hf]
    rw [makeVal_bad (by rw [hE]; intro h; cases h), hE]
    exact make_arg f hf p a fill w
end Go.Proofs.YtnkgglmfoimbhaaGreatDoor
