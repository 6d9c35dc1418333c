/- lockboxlaw14.PinFormats: the walk. -/
import Derived.Test.YtnkgglmfoimbhaaDoorMakes14
namespace Go.Proofs.YtnkgglmfoimbhaaDoor
open Go Go.RowKit Pr

theorem formats_er (f g : Nat) (hf : f = 0 ∨ f = 1 ∨ f = 3) (hg : g = 0 ∨ g = 1 ∨ g = 3) (hne : f ≠ g) (p a : List UInt8) (hok : bothEr p a = .ok) (fill : List Nat) (hfb : ∀ c ∈ fill, c < 256) :
    openEr g (makeVal f p a fill) a = .fa 0 6 := by
  obtain ⟨⟨_, h12, hp⟩, ⟨h13, h19, ha⟩⟩ := bothEr_dec hok
  have hE : makeEr f p a = .ok := by unfold makeEr; rw [if_pos (by omega)]; exact hok
  have hd : decEr a 13 19 = .ok := by
    unfold bothEr at hok
    split at hok
    · exact hok
    · rename_i h; exact absurd hok h
  rw [makeVal_ok hE]
  have e1 : openEr g (makeD f p a fill) a = readEr (turnD g a (nibN (makeD f p a fill))) g := by unfold openEr; rw [if_pos (by omega), hd]; rfl
  show openEr g (makeD (f : Int).toNat p a fill) a = _
  rw [show (f : Int).toNat = f from rfl, e1]
  unfold readEr
  rw [other_fmt f g p a fill hf hne (by omega) hp ha hfb]
  rfl
theorem bothEr_not {p a : List UInt8} (h : bothEr p a ≠ .ok) : (erCode (bothEr p a) != 0) = true := bothEr_code h

set_option maxHeartbeats 4000000 in
set_option maxRecDepth 100000 in
theorem formats_main (f g : Nat) (hf : f = 0 ∨ f = 1 ∨ f = 3) (hg : g = 0 ∨ g = 1 ∨ g = 3) (hne : f ≠ g) (x y : Nat) (hx : x < 256) (hy : y < 256) (i j : Nat) (hxi : (x : Int) % 3 = i) (hyj : (y : Int) % 3 = j) (hij : ((i : Int) == (j : Int)) = false)
    (hi : (i = 0 ∧ f = 0) ∨ (i = 1 ∧ f = 1) ∨ (i = 2 ∧ f = 3)) (hj : (j = 0 ∧ g = 0) ∨ (j = 1 ∧ g = 1) ∨ (j = 2 ∧ g = 3))
    (p : ByteArray) (hp : p.size ≤ 140737488351232) (a : ByteArray) (ha : a.size ≤ 140737488351232) (fill : List Nat) (hfl : fill.length = 8) (hfb : ∀ c ∈ fill, c < 256) (hok : bothEr p.data.toList a.data.toList = .ok) (w : World) (hG : EtOk w) :
    Calls Tryd.prog 5 #[.string p, .string a, .agg (byteCells fill), .int .u8 x, .int .u8 y] w fun e w' => e = .returned (.bool true) ∧ Below w.heap.size w w' := by
  have HM := Lib.hid (fun W => make_any f p a hp ha fill hfl hfb W)
  have hVl := makeVal_len f p.data.toList a.data.toList fill
  have hVlt := makeVal_lt f p.data.toList a.data.toList fill hfb
  have HO := Lib.hid (fun W => open_any g (makeVal f p.data.toList a.data.toList fill) hVl hVlt a ha W)
  rw [formats_er f g hf hg hne _ _ hok fill hfb] at HO
  have hE : makeEr f p.data.toList a.data.toList = .ok := by unfold makeEr; rw [if_pos (by omega)]; exact hok
  rw [hE] at HM
  have HBAD := Lib.hid (fun W => bad_any p a hp ha W)
  rw [hok, show erCode .ok = 0 from rfl, show erAt .ok = -1 from rfl] at HBAD
  generalize openStr g (makeVal f p.data.toList a.data.toList fill) a.data.toList = S at *
  generalize makeVal f p.data.toList a.data.toList fill = V at *
  have HVL := Lib.hid hVl; clear hVl
  have HFL := Lib.hid hfl; clear hfl
  clear hE hok hVlt hfb hf hg hne
  have main : ∀ f' g' : Nat, f = f' → g = g' → ((i = 0 ∧ f' = 0) ∨ (i = 1 ∧ f' = 1) ∨ (i = 2 ∧ f' = 3)) → ((j = 0 ∧ g' = 0) ∨ (j = 1 ∧ g' = 1) ∨ (j = 2 ∧ g' = 3)) →
      Calls Tryd.prog 5 #[.string p, .string a, .agg (byteCells fill), .int .u8 x, .int .u8 y] w fun e w' => e = .returned (.bool true) ∧ Below w.heap.size w w' := by
    clear hi hj
    intro f' g' ef eg hi hj
    rcases hi with ⟨rfl, rfl⟩ | ⟨rfl, rfl⟩ | ⟨rfl, rfl⟩ <;> rcases hj with ⟨rfl, rfl⟩ | ⟨rfl, rfl⟩ | ⟨rfl, rfl⟩
    all_goals first
      | (exact absurd hij (by decide))
      | (subst ef
         subst eg
         go_enter Tryd.func5, Tryd.ntmps5
         go_wp2_with fail
         refine (HBAD.out _).mono ?_
         rintro e W0 ⟨rfl, rfl⟩
         go_wp2_with fail
         refine (awake14_any _).mono ?_
         rintro e w1 ⟨rfl, hb1⟩
         have hF1 : Bs w1 w.heap.size 0 fill := (Bs.of_blk (l := fill) (Blk.new w _ _) (fun j c hj => by rw [Nat.zero_add]; exact hj)).below hb1 (by simp)
         have hbel1 := ((Below.refl w.heap.size w).alloc (Nat.le_refl _) (.cells (byteCells fill) 22)).trans (hb1.mono (by simp))
         have hs1 : w.heap.size < w1.heap.size := by have := hb1.size; simp at this; omega
         clear hb1
         go_wp2_with (refine wpList_load_bs rfl 22 (.tmp 7) rfl w.heap.size 0 rfl fill ((hF1.alloc _).alloc _) _ Tryd.underlying22 rfl (by rw [info_8u8, HFL.out]) ?_)
         have hbel1' := (hbel1.alloc hbel1.size (.cells #[.int .i64 0, .int .i64 1, .int .i64 3] 3)).alloc (by simp; omega) (.cells #[.int .i64 0, .int .i64 1, .int .i64 3] 3)
         refine (HM.out _).mono ?_
         rintro e w2 ⟨⟨v, rfl, hv⟩, hb2⟩
         obtain rfl : v = _ := hv
         have hbel2 := hbel1'.trans (hb2.mono (by simp; omega))
         clear hb2 hF1 hbel1 hbel1'
         go_wp2_with (first
           | (refine wpList_store_all rfl 22 (.tmp 15) (.tmp 55) rfl w2.heap.size (byteCells V) rfl rfl 22 _ (Blk.new w2 _ _) (by rw [info_8u8, size_byteCells, HVL.out]) (by rw [size_byteCells, HVL.out]; rfl) (bytes_one _) ?_; intro w3 hB3 hO3)
           | (refine wpList_load_row rfl 22 (.tmp 15) rfl w2.heap.size rfl 22 _ (0,0) _ hB3 Tryd.underlying22 rfl (by rw [info_8u8, size_byteCells, HVL.out]) ?_))
         have hbel3 : Below w.heap.size w w3 := hO3.below (hbel2.alloc hbel2.size _) hbel2.size
         clear hO3 hB3 hbel2
         refine (HO.out _).mono ?_
         rintro e w4 ⟨⟨u, rfl, hu⟩, hb4⟩
         have hbel4 := hbel3.trans (hb4.mono hbel3.size)
         have HU := Lib.hid hu; clear hu hb4
         go_wp2_with fail
         refine (code_any _ _ _ _ HU.out (hG.below hbel4 (Nat.le_refl _))).mono ?_
         rintro e w5 ⟨rfl, hb5⟩
         have hbel5 := hbel4.trans (hb5.mono hbel4.size)
         have HU5 := Lib.hid (HU.out.below hb5 (Nat.le_refl _))
         have f1 : erCode (.fa 0 6) = 6 := rfl
         go_wp2_with fail
         refine (at_any _ _ _ _ HU5.out (hG.below hbel5 (Nat.le_refl _))).mono ?_
         rintro e w6 ⟨rfl, hb6⟩
         have hbel6 := hbel5.trans (hb6.mono hbel5.size)
         have f2 : erAt (.fa 0 6) = 0 := rfl
         go_wp2
         go_ret
         exact ⟨rfl, hbel6⟩)
  exact main f g rfl rfl hi hj

set_option maxHeartbeats 2000000 in
set_option maxRecDepth 100000 in
theorem formats14 (p : ByteArray) (hp : p.size ≤ 140737488351232) (a : ByteArray) (ha : a.size ≤ 140737488351232) (fill : List Nat) (hfl : fill.length = 8) (hfb : ∀ c ∈ fill, c < 256) (x : Nat) (hx : x < 256) (y : Nat) (hy : y < 256) (w : World) (hG : EtOk w) :
    Calls Tryd.prog 5 #[.string p, .string a, .agg (byteCells fill), .int .u8 x, .int .u8 y] w fun e w' => e = .returned (.bool true) ∧ Below w.heap.size w w' := by
  have hab : ∀ (W : World), Below w.heap.size w W → Calls Tryd.prog 8 #[] W fun e w' => e = .returned (.bool true) ∧ Below w.heap.size w w' := fun w1 h => (awake14_any w1).mono fun e w' h' => ⟨h'.1, h.trans (h'.2.mono h.size)⟩
  have HD := Lib.hid hab; clear hab
  have HBAD := Lib.hid (fun W => bad_any p a hp ha W)
  by_cases hok : bothEr p.data.toList a.data.toList = .ok
  · by_cases hxy : x % 3 = y % 3
    · rw [hok, show erCode .ok = 0 from rfl, show erAt .ok = -1 from rfl] at HBAD
      have heq : (x : Int) % 3 = (y : Int) % 3 := by omega
      clear hok hxy hfb hG
      go_enter Tryd.func5, Tryd.ntmps5
      go_wp2_with fail
      refine (HBAD.out _).mono ?_
      rintro e W0 ⟨rfl, rfl⟩
      go_wp2_with fail
      refine (HD.out _ ((Below.refl _ _).alloc (Nat.le_refl _) _)).mono ?_
      rintro e w1 ⟨rfl, hb1⟩
      go_wp2_with fail
      refine (HD.out _ hb1).mono ?_
      rintro e w2 ⟨rfl, hb2⟩
      go_wp2
      go_ret
      exact ⟨rfl, hb2⟩
    · have three : ∀ n : Nat, ∃ i f : Nat, (n : Int) % 3 = i ∧ n % 3 = i ∧ (f = 0 ∨ f = 1 ∨ f = 3) ∧ ((i = 0 ∧ f = 0) ∨ (i = 1 ∧ f = 1) ∨ (i = 2 ∧ f = 3)) := fun n => by
        rcases (show n % 3 = 0 ∨ n % 3 = 1 ∨ n % 3 = 2 by omega) with h | h | h
        · exact ⟨0, 0, by omega, h, by omega, by omega⟩
        · exact ⟨1, 1, by omega, h, by omega, by omega⟩
        · exact ⟨2, 3, by omega, h, by omega, by omega⟩
      obtain ⟨i, f, h1, h2, h3, h4⟩ := three x
      obtain ⟨j, g, k1, k2, k3, k4⟩ := three y
      exact formats_main f g h3 k3 (by omega) x y hx hy i j h1 k1 (by rw [beq_eq_false_iff_ne]; omega) h4 k4 p hp a ha fill hfl hfb hok w hG
  · have hne := bothEr_code hok
    generalize erCode (bothEr p.data.toList a.data.toList) = c at *
    generalize erAt (bothEr p.data.toList a.data.toList) = t at *
    clear hok hfb hG
    go_enter Tryd.func5, Tryd.ntmps5
    go_wp2_with fail
    refine (HBAD.out _).mono ?_
    rintro e W0 ⟨rfl, rfl⟩
    go_wp2_with fail
    refine (HD.out _ ((Below.refl _ _).alloc (Nat.le_refl _) _)).mono ?_
    rintro e w1 ⟨rfl, hb1⟩
    go_wp2_with fail
    refine (HD.out _ hb1).mono ?_
    rintro e w2 ⟨rfl, hb2⟩
    go_wp2
    go_ret
    exact ⟨rfl, hb2⟩
end Go.Proofs.YtnkgglmfoimbhaaDoor
