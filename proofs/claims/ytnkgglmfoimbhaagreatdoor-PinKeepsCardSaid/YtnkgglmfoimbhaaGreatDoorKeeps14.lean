/- lockboxlaw14.PinKeeps: the walk. -/
import Derived.Test.YtnkgglmfoimbhaaGreatDoorBack14
import Derived.Test.YtnkgglmfoimbhaaGreatDoorGuard
namespace Go.Proofs.YtnkgglmfoimbhaaGreatDoor
open Go Go.RowKit Pr

theorem CipherAt.only {w w' : World} {g kind x : Nat} {key : List Nat} {bk : Value} (h : CipherAt w g kind key bk) (ho : Only x w w') (hg : g ≠ x) (hk : ∀ gk cp, Blk w g 100 #[.int .i64 kind, .slice (some ⟨gk, 0, none⟩) key.length cp, bk] → gk ≠ x) : CipherAt w' g kind key bk := by
  obtain ⟨gk, cp, hB, hc, hK, hl⟩ := h
  exact ⟨gk, cp, hB.only ho hg, hc, hK.only ho (hk gk cp hB), by rw [ho.size]; exact hl⟩
/-- a cipher that lay there before block x -/
theorem CipherAt.under {w0 w w' : World} {g kind x : Nat} {key : List Nat} {bk : Value} (h : CipherAt w0 g kind key bk) (hb : Below w0.heap.size w0 w) (hx : w0.heap.size ≤ x) (ho : Only x w w') : CipherAt w' g kind key bk := by
  obtain ⟨gk, cp, hB, hc, hK, hl⟩ := h
  have hg := hB.lt
  exact ⟨gk, cp, (hB.below hb hg).only ho (by omega), hc, (hK.below hb hl).only ho (by omega), by rw [ho.size]; exact Nat.lt_of_lt_of_le hl hb.size⟩
theorem make0_same (p a : List UInt8) (x y : List Nat) : makeVal 0 p a x = makeVal 0 p a y := by
  unfold makeVal
  split
  · show makeD 0 p a x = makeD 0 p a y
    unfold makeD rawD fillD
    rfl
  · rfl
theorem xor255 (c : Nat) (h : c < 256) : bits .xor .u8 (c : Int) 255 = ((c ^^^ 255 : Nat) : Int) := u8_xor_nat c 255 h (by omega)
theorem set_byt {L : List Nat} (h : ∀ c ∈ L, c < 256) (k v : Nat) (hv : v < 256) : ∀ c ∈ L.set k v, c < 256 := fun c hc => by
  rcases List.mem_or_eq_of_mem_set hc with h1 | rfl
  · exact h c h1
  · exact hv
theorem Blk.setB {w : World} {g : Nat} {t : TypeId} {L : List Nat} (h : Blk w g t (byteCells L)) (k c : Nat) : Blk (w.setCell ⟨g, k, none⟩ (.int .u8 (c : Int))) g t (byteCells (L.set k c)) := by
  have := h.set_ k (.int .u8 (c : Int))
  rw [show (byteCells L).setIfInBounds k (.int .u8 (c : Int)) = byteCells (L.set k c) from set_numCells .u8 L k c] at this
  exact this

set_option maxHeartbeats 4000000 in
set_option maxRecDepth 100000 in
theorem keeps14_main (p : ByteArray) (hp : p.size ≤ 140737488351232) (a : ByteArray) (ha : a.size ≤ 140737488351232) (x : List Nat) (hxl : x.length = 8) (hxb : ∀ c ∈ x, c < 256) (y : List Nat) (hyl : y.length = 8) (hyb : ∀ c ∈ y, c < 256) (key : List Nat) (hkl : key.length = 16) (hkb : ∀ c ∈ key, c < 256) (hok : bothEr p.data.toList a.data.toList = .ok) (w : World) :
    Calls Tryz.prog 7 #[.string p, .string a, .agg (byteCells x), .agg (byteCells y), .agg (byteCells key)] w fun e w' => e = .returned (.bool true) ∧ Below w.heap.size w w' := by
  have HM := Lib.hid (fun W => make_any 0 p a hp ha x hxl hxb W)
  have HM2 := Lib.hid (fun W => make_any 0 p a hp ha y hyl hyb W)
  rw [make0_same _ _ y x] at HM2
  have hVl := makeVal_len 0 p.data.toList a.data.toList x
  have hVlt := makeVal_lt 0 p.data.toList a.data.toList x hxb
  have hE : makeEr 0 p.data.toList a.data.toList = .ok := by unfold makeEr; rw [if_pos (by omega)]; exact hok
  rw [hE] at HM HM2
  have HBAD := Lib.hid (fun W => bad_any p a hp ha W)
  rw [hok, show erCode .ok = 0 from rfl, show erAt .ok = -1 from rfl] at HBAD
  generalize makeVal 0 p.data.toList a.data.toList x = V at *
  have hsz := bothEr_sizes hok
  have HN := Lib.hid (fun A cp W hA => new_yes 1 16 (by omega) key hkl (by decide) (by omega) A cp none W hA)
  have H4 := Lib.hid (fun g W hC => four_any g key hkl hkb (.pointer none) p a hsz.1 hsz.2.1 hsz.2.2.1 hsz.2.2.2.1 hsz.2.2.2.2.1 hsz.2.2.2.2.2 hok x hxl hxb W hC)
  have HO4 := Lib.hid (fun g A cb W hC hA => open4_back g key hkl hkb (.pointer none) p a hok x hxl hxb A cb W hC hA)
  have hXl := fourN_len key p.data.toList a.data.toList x
  have hXb := fourN_byt hkb hok hxl hxb
  generalize fourN key p.data.toList a.data.toList x = X at *
  have HS := Lib.hid (fun A B ca cb W hA hB => same_any X X A B ca cb hXb hXb (by omega) W hA hB)
  rw [hXl, show decide (X = X) = true from decide_eq_true rfl] at HS
  have heq : ∀ W : World, (Op.equalIn 10000 38 (.agg (byteCells V)) (.agg (byteCells V))).run Tryz.prog W = .ok true W := fun W => by
    have := eqBytes (P := Tryz.prog) W 38 5 8 Tryz.underlying38 Tryz.underlying5 (fun w => size_u8 info_u8 w) V V hVl hVl hVlt hVlt
    rw [show decide (V = V) = true from decide_eq_true rfl] at this
    exact this
  have HEQ := Lib.hid heq; clear heq
  have HVL := Lib.hid hVl; clear hVl
  have HXFL := Lib.hid hxl; clear hxl
  have HYL := Lib.hid hyl; clear hyl
  have HKL := Lib.hid hkl; clear hkl
  have HXL := Lib.hid hXl; clear hXl
  have HXB := Lib.hid hXb; clear hXb
  clear hE hok hVlt hxb hyb hsz hkb
  go_enter Tryz.func7, Tryz.ntmps7
  go_wp2_with fail
  refine (HBAD.out _).mono ?_
  rintro e W0 ⟨rfl, rfl⟩
  go_wp2_with fail
  refine (awake14_any _).mono ?_
  rintro e w1 ⟨rfl, hb1⟩
  have hF1 : Bs w1 w.heap.size 0 x := (Bs.of_blk (l := x) (((Blk.new w _ _).alloc _).alloc _) (fun j c hj => by rw [Nat.zero_add]; exact hj)).below hb1 (by simp; omega)
  have hY1 : Bs w1 (w.heap.size + 1) 0 y := (Bs.of_blk (l := y) ((Blk.new2 w _ _ _).alloc _) (fun j c hj => by rw [Nat.zero_add]; exact hj)).below hb1 (by simp)
  have hK1 : Blk w1 (w.heap.size + 1 + 1) 39 (byteCells key) := (Blk.new3 w _ _ _ _).below hb1 (by simp)
  have hbel1 := ((((Below.refl w.heap.size w).alloc (Nat.le_refl _) (.cells (byteCells x) 38)).alloc (by simp) (.cells (byteCells y) 38)).alloc (by simp; omega) (.cells (byteCells key) 39)).trans (hb1.mono (by simp; omega))
  have hs1 : w.heap.size + 1 + 1 < w1.heap.size := by have := hb1.size; simp at this; omega
  clear hb1
  go_wp2_with (refine wpList_load_bs rfl 38 (.tmp 7) rfl w.heap.size 0 rfl x hF1 _ Tryz.underlying38 rfl (by rw [info_8u8, HXFL.out]) ?_)
  refine (HM.out _).mono ?_
  rintro e w2 ⟨⟨v, rfl, hv⟩, hb2⟩
  obtain rfl : v = _ := hv
  have hbel2 := hbel1.trans (hb2.mono (by omega))
  have hF2 := hF1.below hb2 (by omega)
  have hY2 := hY1.below hb2 (by omega)
  have hK2 := hK1.below hb2 (by omega)
  have hs2 : w1.heap.size ≤ w2.heap.size := hb2.size
  clear hb2 hF1 hK1 hbel1 hY1
  go_wp2_with (first
    | (refine wpList_store_all rfl 38 (.tmp 13) (.tmp 46) rfl w2.heap.size (byteCells V) rfl rfl 38 _ (Blk.new w2 _ _) (by rw [info_8u8, size_byteCells, HVL.out]) (by rw [size_byteCells, HVL.out]; rfl) (bytes_one _) ?_; intro w3 hB3 hO3)
    | (refine wpList_load_bs rfl 38 (.tmp 8) rfl (w.heap.size + 1) 0 rfl y ((hY2.alloc _).only hO3 (by omega)) _ Tryz.underlying38 rfl (by rw [info_8u8, HYL.out]) ?_))
  have hbel3 : Below w.heap.size w w3 := hO3.below (hbel2.alloc hbel2.size _) hbel2.size
  have hF3 := (hF2.alloc (.cells #[Value.int .u8 0, Value.int .u8 0, Value.int .u8 0, Value.int .u8 0, Value.int .u8 0, Value.int .u8 0, Value.int .u8 0, Value.int .u8 0] 38)).only hO3 (by omega)
  have hK3 := (hK2.alloc (.cells #[Value.int .u8 0, Value.int .u8 0, Value.int .u8 0, Value.int .u8 0, Value.int .u8 0, Value.int .u8 0, Value.int .u8 0, Value.int .u8 0] 38)).only hO3 (by omega)
  have hs3 : w2.heap.size < w3.heap.size := hB3.lt
  clear hO3 hbel2 hF2 hK2 hY2
  refine (HM2.out _).mono ?_
  rintro e w4 ⟨⟨v, rfl, hv⟩, hb4⟩
  obtain rfl : v = _ := hv
  have hbel4 := hbel3.trans (hb4.mono hbel3.size)
  have hF4 := hF3.below hb4 (by omega)
  have hK4 := hK3.below hb4 hK3.lt
  have hB4 := hB3.below hb4 hB3.lt
  have hs4 : w3.heap.size ≤ w4.heap.size := hb4.size
  clear hb4 hF3 hK3 hB3 hbel3
  go_wp2_with (refine wpList_store_all rfl 38 (.tmp 15) (.tmp 53) rfl w4.heap.size (byteCells V) rfl rfl 38 _ (Blk.new w4 _ _) (by rw [info_8u8, size_byteCells, HVL.out]) (by rw [size_byteCells, HVL.out]; rfl) (bytes_one _) ?_; intro w5 hE5 hO5)
  have hbel5 : Below w.heap.size w w5 := hO5.below (hbel4.alloc hbel4.size _) hbel4.size
  have hF5 := (hF4.alloc (.cells #[Value.int .u8 0, Value.int .u8 0, Value.int .u8 0, Value.int .u8 0, Value.int .u8 0, Value.int .u8 0, Value.int .u8 0, Value.int .u8 0] 38)).only hO5 (by omega)
  have hK5 := (hK4.alloc (.cells #[Value.int .u8 0, Value.int .u8 0, Value.int .u8 0, Value.int .u8 0, Value.int .u8 0, Value.int .u8 0, Value.int .u8 0, Value.int .u8 0] 38)).only hO5 (by omega)
  have hB5 := (hB4.alloc (.cells #[Value.int .u8 0, Value.int .u8 0, Value.int .u8 0, Value.int .u8 0, Value.int .u8 0, Value.int .u8 0, Value.int .u8 0, Value.int .u8 0] 38)).only hO5 (by omega)
  have hs5 : w4.heap.size < w5.heap.size := hE5.lt
  clear hO5 hbel4 hF4 hK4 hB4
  have hAt5 : At w5 (some ⟨w.heap.size + 1 + 1, 0, none⟩) key := fun _ => ⟨_, _, rfl, Bs.of_blk hK5 (fun j c hj => by rw [Nat.zero_add]; exact hj)⟩
  have HA5 := Lib.hid hAt5; clear hAt5
  refine (HN.out _ _ _ HA5.out).mono ?_
  rintro e w6 ⟨⟨g, rfl, hg, hC⟩, hb6⟩
  have hbel6 := hbel5.trans (hb6.mono hbel5.size)
  have hF6 := hF5.below hb6 (by omega)
  have hB6 := hB5.below hb6 hB5.lt
  have hE6 := hE5.below hb6 hE5.lt
  have hs6 : w5.heap.size ≤ w6.heap.size := hb6.size
  have HC6 := Lib.hid hC; clear hC
  clear hb6 hF5 HA5 hbel5 hB5 hE5 hK5
  have hq := HEQ.out w6
  go_wp2_with (first
    | (refine wpList_load_rowG rfl 38 (.tmp 13) rfl w2.heap.size rfl 38 _ hB6 _ Tryz.underlying38 rfl (by rw [info_8u8, size_byteCells, HVL.out]) ?_)
    | (refine wpList_load_rowG rfl 38 (.tmp 15) rfl w4.heap.size rfl 38 _ hE6 _ Tryz.underlying38 rfl (by rw [info_8u8, size_byteCells, HVL.out]) ?_)
    | (refine wpList_load_bs rfl 38 (.tmp 7) rfl w.heap.size 0 rfl x hF6 _ Tryz.underlying38 rfl (by rw [info_8u8, HXFL.out]) ?_))
  refine (H4.out g _ HC6.out).mono ?_
  rintro e w7 ⟨⟨gv, rfl, hgv, hB7⟩, hb7⟩
  have hbel7 := hbel6.trans (hb7.mono hbel6.size)
  have hF7 := hF6.below hb7 (by omega)
  have hgv7 := hB7.lt
  have hBs7 : Bs (w7.alloc (.cells #[] 5)) gv 0 X := Bs.of_blk (hB7.alloc _) (fun j c hj => by rw [Nat.zero_add]; exact hj)
  have hb67 := hb7
  clear hb7 hF6 hbel6 hq hB6 hE6
  go_wp2_with (at_builtin; go_loud (refine wpList_append_nums rfl (.tmp 87) (.tmp 88) 31 rfl .u8 5 1 Tryz.underlying31 info_byte w7.heap.size w7 _ [] rfl (OwnN.start 5 .u8 w7 w7.heap.size (Nat.le_refl _)) ((Below.refl _ _).alloc (Nat.le_refl _) _) (by simp) _ 16 16 X rfl HXL.out ⟨_, _, rfl, hBs7⟩ (by simp) (by omega) ?_); intro v8 w8 hown8 hbel8 hsz8)
  rw [List.nil_append] at hown8
  obtain ⟨g8, c8, rfl, hg8, hc8, hgl8, hBs8⟩ := Own.form hown8.bytes (by intro h; have := HXL.out; rw [h] at this; cases this)
  rw [HXL.out] at hc8 ⊢
  have hbel78 := hbel7.trans (hbel8.mono hbel7.size)
  have hF8 := hF7.below hbel8 (by omega)
  have hB8 := hB7.below hbel8 hgv7
  have hb68 := hb67.trans (hbel8.mono hb67.size)
  have HC8 := Lib.hid (HC6.out.below hb68 (Nat.le_refl _))
  have hAt8 : At w8 (some ⟨gv, 0, none⟩) X := fun _ => ⟨_, _, rfl, Bs.of_blk hB8 (fun j c hj => by rw [Nat.zero_add]; exact hj)⟩
  have HA8 := Lib.hid hAt8; clear hAt8
  clear hown8 hbel8 hF7 hB7 hbel7 hBs7 hb67
  go_wp2_with fail
  refine (HO4.out g _ _ _ HC8.out HA8.out).mono ?_
  rintro e w9 ⟨rfl, hb9⟩
  have hbel9 := hbel78.trans (hb9.mono hbel78.size)
  have hF9 := hF8.below hb9 (by have := HC8.out.lt; omega)
  have hB9 := hB8.below hb9 hB8.lt
  have hBs9 := hBs8.below hb9 hgl8
  have hb69 := hb68.trans (hb9.mono hb68.size)
  have hAt9 : At w9 (some ⟨gv, 0, none⟩) X := fun _ => ⟨_, _, rfl, Bs.of_blk hB9 (fun j c hj => by rw [Nat.zero_add]; exact hj)⟩
  have HA9 := Lib.hid hAt9; clear hAt9
  have hAg9 : At w9 (some ⟨g8, 0, none⟩) X := fun _ => ⟨_, _, rfl, hBs9⟩
  have HG9 := Lib.hid hAg9; clear hAg9
  have hs9 := hb9.size
  clear HA8 HC8 hb9 hF8 hB8 hBs8 hbel78 hb68
  go_wp2_with fail
  refine (HS.out _ _ _ _ _ HA9.out HG9.out).mono ?_
  rintro e w10 ⟨rfl, n, rfl⟩
  have hF10 := hF9.drewN n
  have hB10 := hB9.drewN n
  have hBs10 := hBs9.drewN n
  have hbel10 := below_drewN hbel9 n
  have hb610 := below_drewN hb69 n
  have hs10 : w9.heap.size = (w9.drewN n).heap.size := rfl
  clear HA9 HG9 hF9 hB9 hBs9 hbel9 hb69
  obtain ⟨w10, hw10⟩ : ∃ w10, w9.drewN n = w10 := ⟨_, rfl⟩
  rw [hw10] at hF10 hB10 hBs10 hbel10 hb610 hs10 ⊢
  clear hw10
  go_wp2
  go_loopw [25] (fun i wr => ∃ k : Nat, k ≤ 16 ∧ i = .int .i64 k ∧ ∃ L, Hid (L.length = 16) ∧ Hid (∀ c ∈ L, c < 256) ∧ Blk wr gv 39 (byteCells L) ∧ Only gv w10 wr) (fun i _ => 16 - (intOf i).toNat)
  case atStart => exact ⟨0, by omega, rfl, X, HXL, HXB, hB10, Only.refl _ _⟩
  case round =>
    obtain ⟨k, hk, rfl, L, hLl, hLt, hown, honly⟩ := hrel
    by_cases hlt : k < 16
    · have hki : (k : Int) < 16 := by omega
      have hkL : k < L.length := by rw [hLl.out]; exact hlt
      have hc1 : wr.cell? ⟨gv, k, none⟩ = some (.int .u8 (L[k] : Nat)) := (hown.cell k).trans (get_byteCells L k hkL)
      have hfr : wr.frozen? ⟨gv, k, none⟩ = false := hown.frozen k
      have hx := xor255 L[k] (hLt.out _ (List.getElem_mem _))
      have hx2 : L[k] ^^^ 255 < 256 := Nat.xor_lt_two_pow (n := 8) (hLt.out _ (List.getElem_mem _)) (by decide)
      have hset := hown.setB k (L[k] ^^^ 255)
      have hLl2 : Hid ((L.set k (L[k] ^^^ 255)).length = 16) := by show (L.set k _).length = 16; rw [List.length_set, hLl.out]
      have hLt2 : Hid (∀ c ∈ L.set k (L[k] ^^^ 255), c < 256) := set_byt hLt.out k _ hx2
      have honly2 := honly.trans (Only.setCell wr gv k (.int .u8 ((L[k] ^^^ 255 : Nat) : Int)))
      generalize L.set k (L[k] ^^^ 255) = L2 at *
      rw [← hx] at hset honly2
      generalize L[k] = c at *
      clear hx hown honly
      have HSET := Lib.hid hset; clear hset
      have HON := Lib.hid honly2; clear honly2
      go_wp2
      exact ⟨⟨k + 1, by omega, by go_num, L2, hLl2, hLt2, HSET.out, HON.out⟩, by simp [intOf]; omega⟩
    · obtain rfl : k = 16 := by omega
      clear hLt hLl
      have hF11 := hF10.only honly (by omega)
      have hBs11 := hBs10.only honly (by omega)
      have HC11 := Lib.hid (HC6.out.under hb610 hgv honly)
      have hbel11 : Below w.heap.size w wr := honly.below hbel10 (by omega)
      have hs11 := honly.size
      have hgl11 : g8 < wr.heap.size := by omega
      obtain ⟨w11, rfl⟩ : ∃ w11, w11 = wr := ⟨_, rfl⟩
      clear hF10 hBs10 hbel10 hb610 honly hown
      go_wp2_with (refine wpList_load_bs rfl 38 (.tmp 7) rfl w.heap.size 0 rfl x hF11 _ Tryz.underlying38 rfl (by rw [info_8u8, HXFL.out]) ?_)
      refine (H4.out g _ HC11.out).mono ?_
      rintro e w12 ⟨⟨gn, rfl, hgn, hB12⟩, hb12⟩
      have hbel12 := hbel11.trans (hb12.mono hbel11.size)
      have hBs12 := hBs11.below hb12 hgl11
      have hAt12 : At w12 (some ⟨gn, 0, none⟩) X := fun _ => ⟨_, _, rfl, Bs.of_blk hB12 (fun j c hj => by rw [Nat.zero_add]; exact hj)⟩
      have HA12 := Lib.hid hAt12; clear hAt12
      have hAg12 : At w12 (some ⟨g8, 0, none⟩) X := fun _ => ⟨_, _, rfl, hBs12⟩
      have HG12 := Lib.hid hAg12; clear hAg12
      clear hb12 hF11 hBs11 HC11 hbel11 hB12 hBs12
      go_wp2_with fail
      refine (HS.out _ _ _ _ _ HA12.out HG12.out).mono ?_
      rintro e w13 ⟨rfl, n, rfl⟩
      have hbel13 := below_drewN hbel12 n
      go_wp2
      go_ret
      exact ⟨rfl, hbel13⟩

set_option maxHeartbeats 2000000 in
set_option maxRecDepth 100000 in
theorem keeps14 (p : ByteArray) (hp : p.size ≤ 140737488351232) (a : ByteArray) (ha : a.size ≤ 140737488351232) (x : List Nat) (hxl : x.length = 8) (hxb : ∀ c ∈ x, c < 256) (y : List Nat) (hyl : y.length = 8) (hyb : ∀ c ∈ y, c < 256) (key : List Nat) (hkl : key.length = 16) (hkb : ∀ c ∈ key, c < 256) (w : World) :
    Calls Tryz.prog 7 #[.string p, .string a, .agg (byteCells x), .agg (byteCells y), .agg (byteCells key)] w fun e w' => e = .returned (.bool true) ∧ Below w.heap.size w w' := by
  by_cases hok : bothEr p.data.toList a.data.toList = .ok
  · exact keeps14_main p hp a ha x hxl hxb y hyl hyb key hkl hkb hok w
  · have HBAD := Lib.hid (fun W => bad_any p a hp ha W)
    have hab : ∀ (W : World), Below w.heap.size w W → Calls Tryz.prog 19 #[] W fun e w' => e = .returned (.bool true) ∧ Below w.heap.size w w' := fun w1 h => (awake14_any w1).mono fun e w' h' => ⟨h'.1, h.trans (h'.2.mono h.size)⟩
    have HD := Lib.hid hab; clear hab
    have hne := bothEr_code hok
    generalize erCode (bothEr p.data.toList a.data.toList) = c at *
    generalize erAt (bothEr p.data.toList a.data.toList) = t at *
    have hbel := (((Below.refl w.heap.size w).alloc (Nat.le_refl _) (.cells (byteCells x) 38)).alloc (by simp) (.cells (byteCells y) 38)).alloc (by simp; omega) (.cells (byteCells key) 39)
    clear hok hxb hyb hkb
    go_enter Tryz.func7, Tryz.ntmps7
    go_wp2_with fail
    refine (HBAD.out _).mono ?_
    rintro e W0 ⟨rfl, rfl⟩
    go_wp2_with fail
    refine (HD.out _ hbel).mono ?_
    rintro e w1 ⟨rfl, hb1⟩
    go_wp2_with fail
    refine (HD.out _ hb1).mono ?_
    rintro e w2 ⟨rfl, hb2⟩
    go_wp2
    go_ret
    exact ⟨rfl, hb2⟩
end Go.Proofs.YtnkgglmfoimbhaaGreatDoor
