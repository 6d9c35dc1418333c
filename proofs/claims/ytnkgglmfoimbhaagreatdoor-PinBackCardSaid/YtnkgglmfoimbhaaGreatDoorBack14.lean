/- lockboxlaw14.PinBack: the walk. -/
import Derived.Test.YtnkgglmfoimbhaaGreatDoorPin8
import Derived.Test.YtnkgglmfoimbhaaGreatDoorCode
namespace Go.Proofs.YtnkgglmfoimbhaaGreatDoor
open Go Go.RowKit Pr

theorem info_16u8' : (Tryz.prog.info? 39).map (·.size) = some 16 := by kernel_rfl
theorem bothEr_sizes {p a : ByteArray} (hok : bothEr p.data.toList a.data.toList = .ok) : 4 ≤ p.size ∧ p.size ≤ 12 ∧ (∀ c ∈ p.data.toList, isDec c = true) ∧ 13 ≤ a.size ∧ a.size ≤ 19 ∧ (∀ c ∈ a.data.toList, isDec c = true) := by
  obtain ⟨⟨h4, h12, hp⟩, ⟨h13, h19, ha⟩⟩ := bothEr_dec hok
  simp only [Array.length_toList] at h4 h12 h13 h19
  exact ⟨h4, h12, hp, h13, h19, ha⟩
theorem fourN_len (key : List Nat) (p a : List UInt8) (fill : List Nat) : (fourN key p a fill).length = 16 := aesN_len _ _ _
theorem fourN_byt {key : List Nat} (hk : Byt key) {p a : List UInt8} (hok : bothEr p a = .ok) {fill : List Nat} (hfl : fill.length = 8) (hfb : ∀ c ∈ fill, c < 256) : Byt (fourN key p a fill) := by
  obtain ⟨⟨h4, h12, hp⟩, ⟨h13, h19, ha⟩⟩ := bothEr_dec hok
  have hxl := fourX_len p fill h12 hfl
  have hxb : Byt (fourX p fill) := unhexL_lt (fourS_hex _ _ h12 hp hfb)
  have hal := fourA_len a (by omega)
  have hab : Byt (fourA a) := unhexL_lt (acctS_hex _ h19 ha)
  exact aesN_byt hk (by rw [xorTo_len, hal]) (xorTo_byt hab (aesN_byt hk hxl hxb false) 16) false
/-- what pin.OpenFour answers of what pin.Four made -/
theorem open4_back (g : Nat) (key : List Nat) (hkl : key.length = 16) (hkb : Byt key) (bk : Value) (p a : ByteArray) (hok : bothEr p.data.toList a.data.toList = .ok) (fill : List Nat) (hfl : fill.length = 8) (hfb : ∀ c ∈ fill, c < 256)
    (A : Option Addr) (cb : Nat) (w : World) (hC : CipherAt w g 1 key bk) (hA : At w A (fourN key p.data.toList a.data.toList fill)) :
    Calls Tryz.prog 24 #[.pointer (some ⟨g, 0, none⟩), .slice A 16 cb, .string a] w fun e w' =>
      e = .returned (.tuple #[.string p, .nilIface]) ∧ Below w.heap.size w w' := by
  obtain ⟨h4, h12, hp, h13, h19, ha⟩ := bothEr_sizes hok
  have hb := four_back (key := key) hkb p.data.toList a.data.toList fill (by simpa using h12) hp (by simpa using h19) ha hfl hfb
  have hr := four_read p.data.toList fill (by simpa using h4) (by simpa using h12) hp hfl hfb
  have := open4_any g key hkl hkb bk (fourN key p.data.toList a.data.toList fill) (fourN_len _ _ _ _) (fourN_byt hkb hok hfl hfb) A cb a h13 h19 ha (bothEr_open hok) w hC hA
  rw [hb, hr.1, hr.2] at this
  refine this.mono ?_
  rintro e w' ⟨⟨v, rfl, hv⟩, hb⟩
  obtain rfl : v = _ := hv
  exact ⟨by rw [str_of], hb⟩

set_option maxHeartbeats 4000000 in
set_option maxRecDepth 100000 in
theorem back14_main (f : Nat) (x : Nat) (hx : x < 256) (i : Nat) (hxi : (x : Int) % 3 = i) (hi : (i = 0 ∧ f = 0) ∨ (i = 1 ∧ f = 1) ∨ (i = 2 ∧ f = 3))
    (p : ByteArray) (hp : p.size ≤ 140737488351232) (a : ByteArray) (ha : a.size ≤ 140737488351232) (fill : List Nat) (hfl : fill.length = 8) (hfb : ∀ c ∈ fill, c < 256) (key : List Nat) (hkl : key.length = 16) (hkb : ∀ c ∈ key, c < 256) (hok : bothEr p.data.toList a.data.toList = .ok) (w : World) :
    Calls Tryz.prog 6 #[.int .u8 x, .string p, .string a, .agg (byteCells fill), .agg (byteCells key)] w fun e w' => e = .returned (.bool true) ∧ Below w.heap.size w w' := by
  have hf : f = 0 ∨ f = 1 ∨ f = 3 := by omega
  have HM := Lib.hid (fun W => make_any f p a hp ha fill hfl hfb W)
  have hVl := makeVal_len f p.data.toList a.data.toList fill
  have hVlt := makeVal_lt f p.data.toList a.data.toList fill hfb
  have HO := Lib.hid (fun W => open_any f (makeVal f p.data.toList a.data.toList fill) hVl hVlt a ha W)
  have hmb := make_back f hf _ _ hok fill hfl hfb
  rw [hmb.1, hmb.2, str_of] at HO
  have hE : makeEr f p.data.toList a.data.toList = .ok := by unfold makeEr; rw [if_pos (by omega)]; exact hok
  rw [hE] at HM
  have HBAD := Lib.hid (fun W => bad_any p a hp ha W)
  rw [hok, show erCode .ok = 0 from rfl, show erAt .ok = -1 from rfl] at HBAD
  generalize makeVal f p.data.toList a.data.toList fill = V at *
  have hsz := bothEr_sizes hok
  have HN := Lib.hid (fun A cp W hA => new_yes 1 16 (by omega) key hkl (by decide) (by omega) A cp none W hA)
  have H4 := Lib.hid (fun g W hC => four_any g key hkl hkb (.pointer none) p a hsz.1 hsz.2.1 hsz.2.2.1 hsz.2.2.2.1 hsz.2.2.2.2.1 hsz.2.2.2.2.2 hok fill hfl hfb W hC)
  have HO4 := Lib.hid (fun g A cb W hC hA => open4_back g key hkl hkb (.pointer none) p a hok fill hfl hfb A cb W hC hA)
  generalize fourN key p.data.toList a.data.toList fill = X at *
  have HVL := Lib.hid hVl; clear hVl
  have HFL := Lib.hid hfl; clear hfl
  have HKL := Lib.hid hkl; clear hkl
  clear hE hok hVlt hfb hf hmb hsz hkb
  have main : ∀ f' : Nat, f = f' → ((i = 0 ∧ f' = 0) ∨ (i = 1 ∧ f' = 1) ∨ (i = 2 ∧ f' = 3)) →
      Calls Tryz.prog 6 #[.int .u8 x, .string p, .string a, .agg (byteCells fill), .agg (byteCells key)] w fun e w' => e = .returned (.bool true) ∧ Below w.heap.size w w' := by
    clear hi
    intro f' ef hi
    rcases hi with ⟨rfl, rfl⟩ | ⟨rfl, rfl⟩ | ⟨rfl, rfl⟩
    all_goals
      subst ef
      go_enter Tryz.func6, Tryz.ntmps6
      go_wp2_with fail
      refine (HBAD.out _).mono ?_
      rintro e W0 ⟨rfl, rfl⟩
      go_wp2_with fail
      refine (awake14_any _).mono ?_
      rintro e w1 ⟨rfl, hb1⟩
      have hF1 : Bs w1 w.heap.size 0 fill := (Bs.of_blk (l := fill) ((Blk.new w _ _).alloc _) (fun j c hj => by rw [Nat.zero_add]; exact hj)).below hb1 (by simp; omega)
      have hK1 : Blk w1 (w.heap.size + 1) 39 (byteCells key) := (Blk.new2 w _ _ _).below hb1 (by simp)
      have hbel1 := (((Below.refl w.heap.size w).alloc (Nat.le_refl _) (.cells (byteCells fill) 38)).alloc (by simp) (.cells (byteCells key) 39)).trans (hb1.mono (by simp; omega))
      have hs1 : w.heap.size + 1 < w1.heap.size := by have := hb1.size; simp at this; omega
      clear hb1
      go_wp2_with (refine wpList_load_bs rfl 38 (.tmp 8) rfl w.heap.size 0 rfl fill (hF1.alloc _) _ Tryz.underlying38 rfl (by rw [info_8u8, HFL.out]) ?_)
      have hbel1' := hbel1.alloc hbel1.size (.cells #[.int .i64 0, .int .i64 1, .int .i64 3] 3)
      refine (HM.out _).mono ?_
      rintro e w2 ⟨⟨v, rfl, hv⟩, hb2⟩
      obtain rfl : v = _ := hv
      have hbel2 := hbel1'.trans (hb2.mono (by simp; omega))
      have hF2 := (hF1.alloc (.cells #[.int .i64 0, .int .i64 1, .int .i64 3] 3)).below hb2 (by simp; omega)
      have hK2 := (hK1.alloc (.cells #[.int .i64 0, .int .i64 1, .int .i64 3] 3)).below hb2 (by simp; omega)
      have hs2 : w1.heap.size < w2.heap.size := by have := hb2.size; simp at this; omega
      clear hb2 hF1 hK1 hbel1 hbel1'
      go_wp2_with (first
        | (refine wpList_store_all rfl 38 (.tmp 14) (.tmp 48) rfl w2.heap.size (byteCells V) rfl rfl 38 _ (Blk.new w2 _ _) (by rw [info_8u8, size_byteCells, HVL.out]) (by rw [size_byteCells, HVL.out]; rfl) (bytes_one _) ?_; intro w3 hB3 hO3)
        | (refine wpList_load_row rfl 38 (.tmp 14) rfl w2.heap.size rfl 38 _ (0,0) _ hB3 Tryz.underlying38 rfl (by rw [info_8u8, size_byteCells, HVL.out]) ?_))
      have hbel3 : Below w.heap.size w w3 := hO3.below (hbel2.alloc hbel2.size _) hbel2.size
      have hF3 := (hF2.alloc (.cells #[Value.int .u8 0, Value.int .u8 0, Value.int .u8 0, Value.int .u8 0, Value.int .u8 0, Value.int .u8 0, Value.int .u8 0, Value.int .u8 0] 38)).only hO3 (by omega)
      have hK3 := (hK2.alloc (.cells #[Value.int .u8 0, Value.int .u8 0, Value.int .u8 0, Value.int .u8 0, Value.int .u8 0, Value.int .u8 0, Value.int .u8 0, Value.int .u8 0] 38)).only hO3 (by omega)
      have hs3 : w.heap.size + 1 < w3.heap.size := hK3.lt
      clear hO3 hB3 hbel2 hF2 hK2
      refine (HO.out _).mono ?_
      rintro e w4 ⟨⟨v, rfl, hv⟩, hb4⟩
      obtain rfl : v = _ := hv
      have hbel4 := hbel3.trans (hb4.mono hbel3.size)
      have hF4 := hF3.below hb4 (by omega)
      have hK4 := hK3.below hb4 hs3
      have hs4 := hK4.lt
      have hAt4 : At w4 (some ⟨w.heap.size + 1, 0, none⟩) key := fun _ => ⟨_, _, rfl, Bs.of_blk hK4 (fun j c hj => by rw [Nat.zero_add]; exact hj)⟩
      have HA4 := Lib.hid hAt4; clear hAt4
      clear hb4 hF3 hK3 hbel3 hs3 hK4
      go_wp2_with fail
      refine (HN.out _ _ _ HA4.out).mono ?_
      rintro e w5 ⟨⟨g, rfl, hg, hC⟩, hb5⟩
      have hbel5 := hbel4.trans (hb5.mono hbel4.size)
      have hF5 := hF4.below hb5 (by omega)
      have HC5 := Lib.hid hC; clear hC
      clear hb5 hF4 HA4 hbel4
      go_wp2_with (refine wpList_load_bs rfl 38 (.tmp 8) rfl w.heap.size 0 rfl fill hF5 _ Tryz.underlying38 rfl (by rw [info_8u8, HFL.out]) ?_)
      refine (H4.out g _ HC5.out).mono ?_
      rintro e w6 ⟨⟨gv, rfl, hgv, hB6⟩, hb6⟩
      have hbel6 := hbel5.trans (hb6.mono hbel5.size)
      have hAt6 : At w6 (some ⟨gv, 0, none⟩) X := fun _ => ⟨_, _, rfl, Bs.of_blk hB6 (fun j c hj => by rw [Nat.zero_add]; exact hj)⟩
      have HA6 := Lib.hid hAt6; clear hAt6
      have HC6 := Lib.hid (HC5.out.below hb6 (Nat.le_refl _)); clear HC5
      clear hb6 hF5 hbel5 hB6
      go_wp2_with fail
      refine (HO4.out g _ _ _ HC6.out HA6.out).mono ?_
      rintro e w7 ⟨rfl, hb7⟩
      have hbel7 := hbel6.trans (hb7.mono hbel6.size)
      clear hb7 HC6 HA6
      go_wp2
      go_ret
      exact ⟨rfl, hbel7⟩
  exact main f rfl hi

set_option maxHeartbeats 2000000 in
set_option maxRecDepth 100000 in
theorem back14 (x : Nat) (hx : x < 256) (p : ByteArray) (hp : p.size ≤ 140737488351232) (a : ByteArray) (ha : a.size ≤ 140737488351232) (fill : List Nat) (hfl : fill.length = 8) (hfb : ∀ c ∈ fill, c < 256) (key : List Nat) (hkl : key.length = 16) (hkb : ∀ c ∈ key, c < 256) (w : World) :
    Calls Tryz.prog 6 #[.int .u8 x, .string p, .string a, .agg (byteCells fill), .agg (byteCells key)] w fun e w' => e = .returned (.bool true) ∧ Below w.heap.size w w' := by
  by_cases hok : bothEr p.data.toList a.data.toList = .ok
  · rcases (show x % 3 = 0 ∨ x % 3 = 1 ∨ x % 3 = 2 by omega) with h | h | h
    · exact back14_main 0 x hx 0 (by omega) (by omega) p hp a ha fill hfl hfb key hkl hkb hok w
    · exact back14_main 1 x hx 1 (by omega) (by omega) p hp a ha fill hfl hfb key hkl hkb hok w
    · exact back14_main 3 x hx 2 (by omega) (by omega) p hp a ha fill hfl hfb key hkl hkb hok w
  · have HBAD := Lib.hid (fun W => bad_any p a hp ha W)
    have hab : ∀ (W : World), Below w.heap.size w W → Calls Tryz.prog 19 #[] W fun e w' => e = .returned (.bool true) ∧ Below w.heap.size w w' := fun w1 h => (awake14_any w1).mono fun e w' h' => ⟨h'.1, h.trans (h'.2.mono h.size)⟩
    have HD := Lib.hid hab; clear hab
    have hne := bothEr_code hok
    generalize erCode (bothEr p.data.toList a.data.toList) = c at *
    generalize erAt (bothEr p.data.toList a.data.toList) = t at *
    have hbel := ((Below.refl w.heap.size w).alloc (Nat.le_refl _) (.cells (byteCells fill) 38)).alloc (by simp) (.cells (byteCells key) 39)
    clear hok hfb hkb
    go_enter Tryz.func6, Tryz.ntmps6
    go_wp2_with fail
    refine (HBAD.out _).mono ?_
    rintro e W0 ⟨rfl, rfl⟩
    go_wp2_with fail
    refine (HD.out _ hbel).mono ?_
    rintro e w1 ⟨rfl, hb1⟩
    go_wp2_with fail
    refine (HD.out _ hb1).mono ?_
    rintro e w2 ⟨rfl, hb2⟩
    go_wp2
    go_ret
    exact ⟨rfl, hb2⟩
end Go.Proofs.YtnkgglmfoimbhaaGreatDoor
