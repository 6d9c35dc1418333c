/- lockboxlaw11.WrapBack: the walk. -/
import Derived.Test.YtfkjkkjimdilcaaGreatDoorLaw11
namespace Go.Proofs.YtfkjkkjimdilcaaGreatDoor
open Go Go.RowKit Pr

theorem ver_ofB {h : Hd} (hr : rightEr h = .ok) : h.ver.toNat = 66 ∨ h.ver.toNat = 68 := by
  unfold rightEr rE at hr
  split at hr
  · rename_i b0
    rw [isIn_mem, decide_eq_true_eq] at b0
    simp only [sBD, List.mem_cons, List.not_mem_nil, or_false] at b0
    rcases b0 with b0 | b0 <;> rw [b0]
    · exact .inl rfl
    · exact .inr rfl
  · cases hr
theorem fill_of {h : Hd} (hr : rightEr h = .ok) (kl : Nat) (hk : kl = 16 ∨ kl = 24) : ∃ fl : Nat, fillW h.ver.toNat (kl : Int) = (fl : Int) ∧ 0 < fl ∧ fl ≤ 16 := by
  rcases hk with rfl | rfl <;> rcases ver_ofB hr with hv | hv <;> rw [hv]
  · exact ⟨6, by decide, by decide, by decide⟩
  · exact ⟨14, by decide, by decide, by decide⟩
  · exact ⟨6, by decide, by decide, by decide⟩
  · exact ⟨6, by decide, by decide, by decide⟩
theorem backIn (h : Hd) (hr : rightEr h = .ok) (l m r : List Nat) (gl : Byt l) (gm : Byt m) (gr : Byt r) (wl kl fl : Nat) (hw : wl = 16 ∨ wl = 24) (hk : kl = 16 ∨ kl = 24) (hf : fillW h.ver.toNat (kl : Int) = (fl : Int)) (h0 : 0 < fl) : WrapIn h (someN l wl) (someN m kl) (someN r fl) where
  hr := hr
  hk := by
    refine ⟨someN_byt gl wl, ?_⟩
    rw [someN_len]
    rcases ver_ofB hr with hv | hv <;> rw [hv]
    · exact .inl ⟨rfl, hw⟩
    · exact .inr ⟨rfl, by omega⟩
  gk := someN_byt gm kl
  gf := someN_byt gr fl
  hfits := by
    rw [someN_len]
    rcases hk with rfl | rfl <;> rfl
  hfill := by rw [someN_len, someN_len, hf]
  hf0 := by rw [someN_len]; exact h0

set_option maxHeartbeats 4000000 in
set_option maxRecDepth 100000 in
theorem back11_c00 (h : Hd) (hr : rightEr h = .ok) (l m r : List Nat) (L0 M0 R0 : Nat) (hl : l.length = L0) (hm : m.length = M0) (hrl : r.length = R0) (gl : Byt l) (gm : Byt m) (gr : Byt r) (hL : L0 ≤ 100) (hM : M0 ≤ 100) (hR : R0 ≤ 100) (A0 A1 A2 : Option Addr) (c0 c1 c2 n : Nat) (hn : n % 3 = 0) (hn2 : n / 3 % 3 = 0) (hn256 : n < 256) (w : World) (hA0 : At w A0 l) (hA1 : At w A1 m) (hA2 : At w A2 r) (hG : EtOk w) (hT : TabOk w) :
    Calls Tryz.prog 3 #[.slice A0 L0 c0, .int .u8 n, .agg h.cells, .slice A1 M0 c1, .slice A2 R0 c2] w fun e w' => e = .returned (.bool true) ∧ Below w.heap.size w w' := by
  obtain ⟨fl, hfl, hf0, hf16⟩ := fill_of hr 16 (by omega)
  have hin := backIn h hr l m r gl gm gr 16 16 fl (by omega) (by omega) hfl hf0
  have hnn : (n : Int) % 3 = 0 := by omega
  have hnq : (n : Int) / 3 % 256 % 3 = 0 := by
    rw [Int.emod_eq_of_lt (a := (n : Int) / 3) (b := 256) (by omega) (by omega)]
    omega
  have hnr : n / 3 % 256 % 3 = 0 := by rw [Nat.mod_eq_of_lt (a := n / 3) (b := 256) (by omega)]; exact hn2
  obtain ⟨-, -, -, -, hu2, hs2⟩ := right_ok hr
  have HAW := Lib.hid (fun W (hb : Below w.heap.size w W) => awake11_any W (hG.below hb (Nat.le_refl _)) (fun W' hb' => (hT.below hb).below hb'))
  have HWG := Lib.hid (fun W => refWrong_any h (by omega) (by omega) W)
  rw [show erAt (rightEr h) = -1 by rw [hr]; rfl] at HWG
  have hws := fun A0 A1 A2 c0 c1 c2 W h0 h1 h2 hTW => wrap_ok h hin.hr (someN l 16) 16 hin.hk (someN_len _ _) (someN m 16) (someN r fl) 16 fl (someN_len _ _) (someN_len _ _) hin.gk hin.gf (by have := hin.hfits; rwa [someN_len] at this) hfl hf0 A0 A1 A2 c0 c1 c2 W h0 h1 h2 hTW
  have HWR := Lib.hid hws; clear hws
  have HUN := Lib.hid (fun A0 c0 W h0 hGW => back11 h (someN l 16) (someN m 16) (someN r fl) hin 16 (someN_len _ _) A0 c0 W h0 hGW)
  have HFL := Lib.hid (fun W => fill_any h 16 (by omega) W)
  rw [show fillW h.ver.toNat 16 = (fl : Int) from hfl] at HFL
  have HW16 := Lib.hid (fun A c W hA => some_any l L0 hl (by omega) gl 16 (by omega) A c W hA)
  have HMK := Lib.hid (fun A c W hA => some_any m M0 hm (by omega) gm 16 (by omega) A c W hA)
  have HNF := Lib.hid (fun A c W hA => some_any r R0 hrl (by omega) gr fl (by omega) A c W hA)
  have hsw := fun A B ca cb W hA hB => same_any (someN l 16) (someN l 16) A B ca cb (someN_byt gl 16) (someN_byt gl 16) (by rw [someN_len]; decide) W hA hB
  have hsk := fun A B ca cb W hA hB => same_any (someN m 16) (someN m 16) A B ca cb (someN_byt gm 16) (someN_byt gm 16) (by rw [someN_len]; decide) W hA hB
  rw [someN_len, decide_eq_true rfl] at hsw hsk
  have HSW := Lib.hid hsw; clear hsw
  have HSK := Lib.hid hsk; clear hsk
  have HLW := Lib.hid (someN_len l 16)
  have HLK := Lib.hid (someN_len m 16)
  have HLF := Lib.hid (someN_len r fl)
  have HEQ := Lib.hid (fun W => eqHead h W)
  have hcs6 : h.cells.size = 6 := rfl
  have hco : h.cells.all (·.oneCell') = true := by simp [Hd.cells, Value.oneCell']
  clear hin
  generalize str (wrapS h (someN l 16) (someN m 16) (someN r fl)) = S at *
  generalize someN l 16 = WN at *
  generalize someN m 16 = KN at *
  generalize someN r fl = FN at *
  have hb0 : Below w.heap.size w (w.alloc (.cells h.cells 24)) := (Below.refl _ _).alloc (Nat.le_refl _) _
  have hB0 := Blk.new w 24 h.cells
  generalize h.cells = cs at *
  have HS6 := Lib.hid hcs6; clear hcs6
  have HCO := Lib.hid hco; clear hco
  have HA0 := Lib.hid hA0; clear hA0
  have HA1 := Lib.hid hA1; clear hA1
  have HA2 := Lib.hid hA2; clear hA2
  have hL1 : ¬ 100 < (L0 : Int) := by omega
  have hM1 : ¬ 100 < (M0 : Int) := by omega
  have hR1 : ¬ 100 < (R0 : Int) := by omega
  have HG := Lib.hid hG; clear hG
  have HT := Lib.hid hT; clear hT
  have HB0 := Lib.hid hB0; clear hB0
  have H0 := Lib.hid hb0; clear hb0
  have HF0 := Lib.hid hf0; clear hf0
  clear hl hm hrl gl gm gr hL hM hR hr hu2 hs2 hn hn2 hn256 hfl hf16
  go_enter Tryz.func3, Tryz.ntmps3
  go_wp2_with fail
  refine (HAW.out _ H0.out).mono ?_
  rintro e w1 ⟨rfl, hb1⟩
  have hH1 := HB0.out.below hb1 HB0.out.lt
  have hb1 := H0.out.trans (hb1.mono H0.out.size)
  clear HB0 H0
  go_wp2_with (first
    | (refine wpList_load_rowG (by go_simp) 24 (.tmp 7) rfl w.heap.size rfl 24 cs hH1 _ Tryz.underlying24 rfl (by rw [info_head, HS6.out]) ?_))
  refine (HWG.out _).mono ?_
  rintro e w2 ⟨rfl, hb2⟩
  have hH2 := hH1.below hb2 hH1.lt
  have hbel2 := hb1.trans (hb2.mono hb1.size)
  clear hb1 hb2 hH1
  have hbn : Below w2.heap.size w2 (w2.alloc (.cells #[.int .i64 16, .int .i64 24, .int .i64 16] 3)) := (Below.refl _ _).alloc (Nat.le_refl _) _
  go_wp2_with fail
  refine (HW16.out _ _ _ ((HA0.out.below hbel2 (Nat.le_refl _)).below hbn (Nat.le_refl _))).mono ?_
  rintro e w3 ⟨⟨v, rfl, hv⟩, hb3⟩
  have hb23 := hbn.trans (hb3.mono hbn.size)
  have hbel3 := hbel2.trans (hb23.mono hbel2.size)
  have hH3 := hH2.below hb23 hH2.lt
  obtain ⟨g3, c3, rfl, hA3, -, -⟩ := hv.at_ HLW.out (by omega)
  clear hv hb3 hb23 hH2 hbn hbel2
  have hbn : Below w3.heap.size w3 (w3.alloc (.cells #[.int .i64 16, .int .i64 24, .int .i64 24] 3)) := (Below.refl _ _).alloc (Nat.le_refl _) _
  go_wp2_with fail
  refine (HMK.out _ _ _ ((HA1.out.below hbel3 (Nat.le_refl _)).below hbn (Nat.le_refl _))).mono ?_
  rintro e w4 ⟨⟨v, rfl, hv⟩, hb4⟩
  have hb34 := hbn.trans (hb4.mono hbn.size)
  have hbel4 := hbel3.trans (hb34.mono hbel3.size)
  have hH4 := hH3.below hb34 hH3.lt
  have hA34 := hA3.below hb34 (Nat.le_refl _)
  obtain ⟨gk, ck, rfl, hAk, -, -⟩ := hv.at_ HLK.out (by omega)
  clear hv hb4 hb34 hH3 hbn hbel3 hA3
  go_wp2_with (first
    | (refine wpList_load_rowG rfl 24 (.tmp 7) rfl w.heap.size rfl 24 cs hH4 _ Tryz.underlying24 rfl (by rw [info_head, HS6.out]) ?_))
  refine (HFL.out _).mono ?_
  rintro e w5 ⟨rfl, hb5⟩
  have hbel5 := hbel4.trans (hb5.mono hbel4.size)
  have hH5 := hH4.below hb5 hH4.lt
  have hA35 := hA34.below hb5 (Nat.le_refl _)
  have hAk5 := hAk.below hb5 (Nat.le_refl _)
  clear hb5 hH4 hA34 hAk hbel4
  go_wp2_with fail
  refine (HNF.out _ _ _ (HA2.out.below hbel5 (Nat.le_refl _))).mono ?_
  rintro e w6 ⟨⟨v, rfl, hv⟩, hb6⟩
  obtain ⟨g6, c6, rfl, hA6, -, -⟩ := hv.at_ HLF.out HF0.out
  have hbel6 := hbel5.trans (hb6.mono hbel5.size)
  have hH6 := hH5.below hb6 hH5.lt
  have hA36 := hA35.below hb6 (Nat.le_refl _)
  have hAk6 := hAk5.below hb6 (Nat.le_refl _)
  clear hv hb6 hH5 hA35 hAk5 hbel5
  go_wp2_with (first
    | (refine wpList_load_rowG rfl 24 (.tmp 7) rfl w.heap.size rfl 24 cs hH6 _ Tryz.underlying24 rfl (by rw [info_head, HS6.out]) ?_))
  refine (HWR.out _ _ _ _ _ _ w6 hA36 hAk6 hA6 (fun W hW => HT.out.below (hbel6.trans (hW.mono hbel6.size)))).mono ?_
  rintro e w7 ⟨rfl, hb7⟩
  have hbel7 := hbel6.trans (hb7.mono hbel6.size)
  have hH7 := hH6.below hb7 hH6.lt
  have hA37 := hA36.below hb7 (Nat.le_refl _)
  have hAk7 := hAk6.below hb7 (Nat.le_refl _)
  clear hb7 hH6 hA36 hAk6 hA6 hbel6
  go_wp2_with fail
  refine (HUN.out _ _ _ hA37 (HG.out.below hbel7 (Nat.le_refl _))).mono ?_
  rintro e w8 ⟨⟨v, rfl, hv⟩, hb8⟩
  obtain ⟨g8, c8, rfl, hA8, -, -⟩ := hv.at_ HLK.out (by omega)
  have hbel8 := hbel7.trans (hb8.mono hbel7.size)
  have hH8 := hH7.below hb8 hH7.lt
  have hA38 := hA37.below hb8 (Nat.le_refl _)
  have hAk8 := hAk7.below hb8 (Nat.le_refl _)
  clear hv hb8 hH7 hA37 hAk7 hbel7
  have hbn := (Below.refl w8.heap.size w8).alloc (Nat.le_refl _) (.cells #[.int .u8 0, .string ⟨#[]⟩, .int .u8 0, .int .u8 0, .string ⟨#[]⟩, .int .u8 0] 24)
  go_wp2_with (first
    | (refine wpList_store_all rfl 24 (.tmp 16) (.tmp 75) rfl w8.heap.size cs rfl rfl 24 #[.int .u8 0, .string ⟨#[]⟩, .int .u8 0, .int .u8 0, .string ⟨#[]⟩, .int .u8 0] (Blk.new w8 _ _) (by rw [info_head, HS6.out]) (by rw [HS6.out]; rfl) HCO.out ?_; intro w9 hX9 hO9; have hb9 := hO9.below hbn (Nat.le_refl _); have hH9 := hH8.below hb9 hH8.lt; have hA39 := hA38.below hb9 (Nat.le_refl _); have hAk9 := hAk8.below hb9 (Nat.le_refl _); have hA89 := hA8.below hb9 (Nat.le_refl _); have hbel9 : Below w.heap.size w w9 := hbel8.trans (hb9.mono hbel8.size))
    | (refine wpList_load_rowG rfl 24 (.tmp 16) rfl w8.heap.size rfl 24 cs hX9 _ Tryz.underlying24 rfl (by rw [info_head, HS6.out]) ?_)
    | (refine wpList_load_rowG rfl 24 (.tmp 7) rfl w.heap.size rfl 24 cs hH9 _ Tryz.underlying24 rfl (by rw [info_head, HS6.out]) ?_)
    | (refine wpList_eql_row rfl 24 24 (.tmp 85) (.tmp 86) rfl cs true rfl rfl (HEQ.out w9) (by unfold eqGuard; go_simp; done) ?_))
  refine (HSK.out _ _ _ _ _ hA89 hAk9).mono ?_
  rintro e wA ⟨rfl, n1, rfl⟩
  have hbelA := below_drewN hbel9 n1
  have hA3A : At (w9.drewN n1) (some ⟨g3, 0, none⟩) WN := hA39.below (below_drewN (Below.refl w9.heap.size w9) n1) (Nat.le_refl _)
  generalize w9.drewN n1 = wA at *
  clear hA39 hAk9 hA89 hbel9 hH9 hX9 hO9 hb9 hA8 hA38 hAk8 hbel8 hH8
  go_wp2_with fail
  refine (HW16.out _ _ _ (HA0.out.below hbelA (Nat.le_refl _))).mono ?_
  rintro e wB ⟨⟨v, rfl, hv⟩, hbB⟩
  obtain ⟨gB, cB, rfl, hAB, -, -⟩ := hv.at_ HLW.out (by omega)
  have hbelB := hbelA.trans (hbB.mono hbelA.size)
  have hA3B := hA3A.below hbB (Nat.le_refl _)
  clear hv hbB hbelA hA3A
  go_wp2_with fail
  refine (HSW.out _ _ _ _ _ hA3B hAB).mono ?_
  rintro e wC ⟨rfl, n2, rfl⟩
  have hbelC := below_drewN hbelB n2
  go_wp2
  go_ret
  exact ⟨rfl, hbelC⟩

set_option maxHeartbeats 4000000 in
set_option maxRecDepth 100000 in
theorem back11_c01 (h : Hd) (hr : rightEr h = .ok) (l m r : List Nat) (L0 M0 R0 : Nat) (hl : l.length = L0) (hm : m.length = M0) (hrl : r.length = R0) (gl : Byt l) (gm : Byt m) (gr : Byt r) (hL : L0 ≤ 100) (hM : M0 ≤ 100) (hR : R0 ≤ 100) (A0 A1 A2 : Option Addr) (c0 c1 c2 n : Nat) (hn : n % 3 = 0) (hn2 : n / 3 % 3 = 1) (hn256 : n < 256) (w : World) (hA0 : At w A0 l) (hA1 : At w A1 m) (hA2 : At w A2 r) (hG : EtOk w) (hT : TabOk w) :
    Calls Tryz.prog 3 #[.slice A0 L0 c0, .int .u8 n, .agg h.cells, .slice A1 M0 c1, .slice A2 R0 c2] w fun e w' => e = .returned (.bool true) ∧ Below w.heap.size w w' := by
  obtain ⟨fl, hfl, hf0, hf16⟩ := fill_of hr 24 (by omega)
  have hin := backIn h hr l m r gl gm gr 16 24 fl (by omega) (by omega) hfl hf0
  have hnn : (n : Int) % 3 = 0 := by omega
  have hnq : (n : Int) / 3 % 256 % 3 = 1 := by
    rw [Int.emod_eq_of_lt (a := (n : Int) / 3) (b := 256) (by omega) (by omega)]
    omega
  have hnr : n / 3 % 256 % 3 = 1 := by rw [Nat.mod_eq_of_lt (a := n / 3) (b := 256) (by omega)]; exact hn2
  obtain ⟨-, -, -, -, hu2, hs2⟩ := right_ok hr
  have HAW := Lib.hid (fun W (hb : Below w.heap.size w W) => awake11_any W (hG.below hb (Nat.le_refl _)) (fun W' hb' => (hT.below hb).below hb'))
  have HWG := Lib.hid (fun W => refWrong_any h (by omega) (by omega) W)
  rw [show erAt (rightEr h) = -1 by rw [hr]; rfl] at HWG
  have hws := fun A0 A1 A2 c0 c1 c2 W h0 h1 h2 hTW => wrap_ok h hin.hr (someN l 16) 16 hin.hk (someN_len _ _) (someN m 24) (someN r fl) 24 fl (someN_len _ _) (someN_len _ _) hin.gk hin.gf (by have := hin.hfits; rwa [someN_len] at this) hfl hf0 A0 A1 A2 c0 c1 c2 W h0 h1 h2 hTW
  have HWR := Lib.hid hws; clear hws
  have HUN := Lib.hid (fun A0 c0 W h0 hGW => back11 h (someN l 16) (someN m 24) (someN r fl) hin 16 (someN_len _ _) A0 c0 W h0 hGW)
  have HFL := Lib.hid (fun W => fill_any h 24 (by omega) W)
  rw [show fillW h.ver.toNat 24 = (fl : Int) from hfl] at HFL
  have HW16 := Lib.hid (fun A c W hA => some_any l L0 hl (by omega) gl 16 (by omega) A c W hA)
  have HMK := Lib.hid (fun A c W hA => some_any m M0 hm (by omega) gm 24 (by omega) A c W hA)
  have HNF := Lib.hid (fun A c W hA => some_any r R0 hrl (by omega) gr fl (by omega) A c W hA)
  have hsw := fun A B ca cb W hA hB => same_any (someN l 16) (someN l 16) A B ca cb (someN_byt gl 16) (someN_byt gl 16) (by rw [someN_len]; decide) W hA hB
  have hsk := fun A B ca cb W hA hB => same_any (someN m 24) (someN m 24) A B ca cb (someN_byt gm 24) (someN_byt gm 24) (by rw [someN_len]; decide) W hA hB
  rw [someN_len, decide_eq_true rfl] at hsw hsk
  have HSW := Lib.hid hsw; clear hsw
  have HSK := Lib.hid hsk; clear hsk
  have HLW := Lib.hid (someN_len l 16)
  have HLK := Lib.hid (someN_len m 24)
  have HLF := Lib.hid (someN_len r fl)
  have HEQ := Lib.hid (fun W => eqHead h W)
  have hcs6 : h.cells.size = 6 := rfl
  have hco : h.cells.all (·.oneCell') = true := by simp [Hd.cells, Value.oneCell']
  clear hin
  generalize str (wrapS h (someN l 16) (someN m 24) (someN r fl)) = S at *
  generalize someN l 16 = WN at *
  generalize someN m 24 = KN at *
  generalize someN r fl = FN at *
  have hb0 : Below w.heap.size w (w.alloc (.cells h.cells 24)) := (Below.refl _ _).alloc (Nat.le_refl _) _
  have hB0 := Blk.new w 24 h.cells
  generalize h.cells = cs at *
  have HS6 := Lib.hid hcs6; clear hcs6
  have HCO := Lib.hid hco; clear hco
  have HA0 := Lib.hid hA0; clear hA0
  have HA1 := Lib.hid hA1; clear hA1
  have HA2 := Lib.hid hA2; clear hA2
  have hL1 : ¬ 100 < (L0 : Int) := by omega
  have hM1 : ¬ 100 < (M0 : Int) := by omega
  have hR1 : ¬ 100 < (R0 : Int) := by omega
  have HG := Lib.hid hG; clear hG
  have HT := Lib.hid hT; clear hT
  have HB0 := Lib.hid hB0; clear hB0
  have H0 := Lib.hid hb0; clear hb0
  have HF0 := Lib.hid hf0; clear hf0
  clear hl hm hrl gl gm gr hL hM hR hr hu2 hs2 hn hn2 hn256 hfl hf16
  go_enter Tryz.func3, Tryz.ntmps3
  go_wp2_with fail
  refine (HAW.out _ H0.out).mono ?_
  rintro e w1 ⟨rfl, hb1⟩
  have hH1 := HB0.out.below hb1 HB0.out.lt
  have hb1 := H0.out.trans (hb1.mono H0.out.size)
  clear HB0 H0
  go_wp2_with (first
    | (refine wpList_load_rowG (by go_simp) 24 (.tmp 7) rfl w.heap.size rfl 24 cs hH1 _ Tryz.underlying24 rfl (by rw [info_head, HS6.out]) ?_))
  refine (HWG.out _).mono ?_
  rintro e w2 ⟨rfl, hb2⟩
  have hH2 := hH1.below hb2 hH1.lt
  have hbel2 := hb1.trans (hb2.mono hb1.size)
  clear hb1 hb2 hH1
  have hbn : Below w2.heap.size w2 (w2.alloc (.cells #[.int .i64 16, .int .i64 24, .int .i64 16] 3)) := (Below.refl _ _).alloc (Nat.le_refl _) _
  go_wp2_with fail
  refine (HW16.out _ _ _ ((HA0.out.below hbel2 (Nat.le_refl _)).below hbn (Nat.le_refl _))).mono ?_
  rintro e w3 ⟨⟨v, rfl, hv⟩, hb3⟩
  have hb23 := hbn.trans (hb3.mono hbn.size)
  have hbel3 := hbel2.trans (hb23.mono hbel2.size)
  have hH3 := hH2.below hb23 hH2.lt
  obtain ⟨g3, c3, rfl, hA3, -, -⟩ := hv.at_ HLW.out (by omega)
  clear hv hb3 hb23 hH2 hbn hbel2
  have hbn : Below w3.heap.size w3 (w3.alloc (.cells #[.int .i64 16, .int .i64 24, .int .i64 24] 3)) := (Below.refl _ _).alloc (Nat.le_refl _) _
  go_wp2_with fail
  refine (HMK.out _ _ _ ((HA1.out.below hbel3 (Nat.le_refl _)).below hbn (Nat.le_refl _))).mono ?_
  rintro e w4 ⟨⟨v, rfl, hv⟩, hb4⟩
  have hb34 := hbn.trans (hb4.mono hbn.size)
  have hbel4 := hbel3.trans (hb34.mono hbel3.size)
  have hH4 := hH3.below hb34 hH3.lt
  have hA34 := hA3.below hb34 (Nat.le_refl _)
  obtain ⟨gk, ck, rfl, hAk, -, -⟩ := hv.at_ HLK.out (by omega)
  clear hv hb4 hb34 hH3 hbn hbel3 hA3
  go_wp2_with (first
    | (refine wpList_load_rowG rfl 24 (.tmp 7) rfl w.heap.size rfl 24 cs hH4 _ Tryz.underlying24 rfl (by rw [info_head, HS6.out]) ?_))
  refine (HFL.out _).mono ?_
  rintro e w5 ⟨rfl, hb5⟩
  have hbel5 := hbel4.trans (hb5.mono hbel4.size)
  have hH5 := hH4.below hb5 hH4.lt
  have hA35 := hA34.below hb5 (Nat.le_refl _)
  have hAk5 := hAk.below hb5 (Nat.le_refl _)
  clear hb5 hH4 hA34 hAk hbel4
  go_wp2_with fail
  refine (HNF.out _ _ _ (HA2.out.below hbel5 (Nat.le_refl _))).mono ?_
  rintro e w6 ⟨⟨v, rfl, hv⟩, hb6⟩
  obtain ⟨g6, c6, rfl, hA6, -, -⟩ := hv.at_ HLF.out HF0.out
  have hbel6 := hbel5.trans (hb6.mono hbel5.size)
  have hH6 := hH5.below hb6 hH5.lt
  have hA36 := hA35.below hb6 (Nat.le_refl _)
  have hAk6 := hAk5.below hb6 (Nat.le_refl _)
  clear hv hb6 hH5 hA35 hAk5 hbel5
  go_wp2_with (first
    | (refine wpList_load_rowG rfl 24 (.tmp 7) rfl w.heap.size rfl 24 cs hH6 _ Tryz.underlying24 rfl (by rw [info_head, HS6.out]) ?_))
  refine (HWR.out _ _ _ _ _ _ w6 hA36 hAk6 hA6 (fun W hW => HT.out.below (hbel6.trans (hW.mono hbel6.size)))).mono ?_
  rintro e w7 ⟨rfl, hb7⟩
  have hbel7 := hbel6.trans (hb7.mono hbel6.size)
  have hH7 := hH6.below hb7 hH6.lt
  have hA37 := hA36.below hb7 (Nat.le_refl _)
  have hAk7 := hAk6.below hb7 (Nat.le_refl _)
  clear hb7 hH6 hA36 hAk6 hA6 hbel6
  go_wp2_with fail
  refine (HUN.out _ _ _ hA37 (HG.out.below hbel7 (Nat.le_refl _))).mono ?_
  rintro e w8 ⟨⟨v, rfl, hv⟩, hb8⟩
  obtain ⟨g8, c8, rfl, hA8, -, -⟩ := hv.at_ HLK.out (by omega)
  have hbel8 := hbel7.trans (hb8.mono hbel7.size)
  have hH8 := hH7.below hb8 hH7.lt
  have hA38 := hA37.below hb8 (Nat.le_refl _)
  have hAk8 := hAk7.below hb8 (Nat.le_refl _)
  clear hv hb8 hH7 hA37 hAk7 hbel7
  have hbn := (Below.refl w8.heap.size w8).alloc (Nat.le_refl _) (.cells #[.int .u8 0, .string ⟨#[]⟩, .int .u8 0, .int .u8 0, .string ⟨#[]⟩, .int .u8 0] 24)
  go_wp2_with (first
    | (refine wpList_store_all rfl 24 (.tmp 16) (.tmp 75) rfl w8.heap.size cs rfl rfl 24 #[.int .u8 0, .string ⟨#[]⟩, .int .u8 0, .int .u8 0, .string ⟨#[]⟩, .int .u8 0] (Blk.new w8 _ _) (by rw [info_head, HS6.out]) (by rw [HS6.out]; rfl) HCO.out ?_; intro w9 hX9 hO9; have hb9 := hO9.below hbn (Nat.le_refl _); have hH9 := hH8.below hb9 hH8.lt; have hA39 := hA38.below hb9 (Nat.le_refl _); have hAk9 := hAk8.below hb9 (Nat.le_refl _); have hA89 := hA8.below hb9 (Nat.le_refl _); have hbel9 : Below w.heap.size w w9 := hbel8.trans (hb9.mono hbel8.size))
    | (refine wpList_load_rowG rfl 24 (.tmp 16) rfl w8.heap.size rfl 24 cs hX9 _ Tryz.underlying24 rfl (by rw [info_head, HS6.out]) ?_)
    | (refine wpList_load_rowG rfl 24 (.tmp 7) rfl w.heap.size rfl 24 cs hH9 _ Tryz.underlying24 rfl (by rw [info_head, HS6.out]) ?_)
    | (refine wpList_eql_row rfl 24 24 (.tmp 85) (.tmp 86) rfl cs true rfl rfl (HEQ.out w9) (by unfold eqGuard; go_simp; done) ?_))
  refine (HSK.out _ _ _ _ _ hA89 hAk9).mono ?_
  rintro e wA ⟨rfl, n1, rfl⟩
  have hbelA := below_drewN hbel9 n1
  have hA3A : At (w9.drewN n1) (some ⟨g3, 0, none⟩) WN := hA39.below (below_drewN (Below.refl w9.heap.size w9) n1) (Nat.le_refl _)
  generalize w9.drewN n1 = wA at *
  clear hA39 hAk9 hA89 hbel9 hH9 hX9 hO9 hb9 hA8 hA38 hAk8 hbel8 hH8
  go_wp2_with fail
  refine (HW16.out _ _ _ (HA0.out.below hbelA (Nat.le_refl _))).mono ?_
  rintro e wB ⟨⟨v, rfl, hv⟩, hbB⟩
  obtain ⟨gB, cB, rfl, hAB, -, -⟩ := hv.at_ HLW.out (by omega)
  have hbelB := hbelA.trans (hbB.mono hbelA.size)
  have hA3B := hA3A.below hbB (Nat.le_refl _)
  clear hv hbB hbelA hA3A
  go_wp2_with fail
  refine (HSW.out _ _ _ _ _ hA3B hAB).mono ?_
  rintro e wC ⟨rfl, n2, rfl⟩
  have hbelC := below_drewN hbelB n2
  go_wp2
  go_ret
  exact ⟨rfl, hbelC⟩

set_option maxHeartbeats 4000000 in
set_option maxRecDepth 100000 in
theorem back11_c02 (h : Hd) (hr : rightEr h = .ok) (l m r : List Nat) (L0 M0 R0 : Nat) (hl : l.length = L0) (hm : m.length = M0) (hrl : r.length = R0) (gl : Byt l) (gm : Byt m) (gr : Byt r) (hL : L0 ≤ 100) (hM : M0 ≤ 100) (hR : R0 ≤ 100) (A0 A1 A2 : Option Addr) (c0 c1 c2 n : Nat) (hn : n % 3 = 0) (hn2 : n / 3 % 3 = 2) (hn256 : n < 256) (w : World) (hA0 : At w A0 l) (hA1 : At w A1 m) (hA2 : At w A2 r) (hG : EtOk w) (hT : TabOk w) :
    Calls Tryz.prog 3 #[.slice A0 L0 c0, .int .u8 n, .agg h.cells, .slice A1 M0 c1, .slice A2 R0 c2] w fun e w' => e = .returned (.bool true) ∧ Below w.heap.size w w' := by
  obtain ⟨fl, hfl, hf0, hf16⟩ := fill_of hr 24 (by omega)
  have hin := backIn h hr l m r gl gm gr 16 24 fl (by omega) (by omega) hfl hf0
  have hnn : (n : Int) % 3 = 0 := by omega
  have hnq : (n : Int) / 3 % 256 % 3 = 2 := by
    rw [Int.emod_eq_of_lt (a := (n : Int) / 3) (b := 256) (by omega) (by omega)]
    omega
  have hnr : n / 3 % 256 % 3 = 2 := by rw [Nat.mod_eq_of_lt (a := n / 3) (b := 256) (by omega)]; exact hn2
  obtain ⟨-, -, -, -, hu2, hs2⟩ := right_ok hr
  have HAW := Lib.hid (fun W (hb : Below w.heap.size w W) => awake11_any W (hG.below hb (Nat.le_refl _)) (fun W' hb' => (hT.below hb).below hb'))
  have HWG := Lib.hid (fun W => refWrong_any h (by omega) (by omega) W)
  rw [show erAt (rightEr h) = -1 by rw [hr]; rfl] at HWG
  have hws := fun A0 A1 A2 c0 c1 c2 W h0 h1 h2 hTW => wrap_ok h hin.hr (someN l 16) 16 hin.hk (someN_len _ _) (someN m 24) (someN r fl) 24 fl (someN_len _ _) (someN_len _ _) hin.gk hin.gf (by have := hin.hfits; rwa [someN_len] at this) hfl hf0 A0 A1 A2 c0 c1 c2 W h0 h1 h2 hTW
  have HWR := Lib.hid hws; clear hws
  have HUN := Lib.hid (fun A0 c0 W h0 hGW => back11 h (someN l 16) (someN m 24) (someN r fl) hin 16 (someN_len _ _) A0 c0 W h0 hGW)
  have HFL := Lib.hid (fun W => fill_any h 24 (by omega) W)
  rw [show fillW h.ver.toNat 24 = (fl : Int) from hfl] at HFL
  have HW16 := Lib.hid (fun A c W hA => some_any l L0 hl (by omega) gl 16 (by omega) A c W hA)
  have HMK := Lib.hid (fun A c W hA => some_any m M0 hm (by omega) gm 24 (by omega) A c W hA)
  have HNF := Lib.hid (fun A c W hA => some_any r R0 hrl (by omega) gr fl (by omega) A c W hA)
  have hsw := fun A B ca cb W hA hB => same_any (someN l 16) (someN l 16) A B ca cb (someN_byt gl 16) (someN_byt gl 16) (by rw [someN_len]; decide) W hA hB
  have hsk := fun A B ca cb W hA hB => same_any (someN m 24) (someN m 24) A B ca cb (someN_byt gm 24) (someN_byt gm 24) (by rw [someN_len]; decide) W hA hB
  rw [someN_len, decide_eq_true rfl] at hsw hsk
  have HSW := Lib.hid hsw; clear hsw
  have HSK := Lib.hid hsk; clear hsk
  have HLW := Lib.hid (someN_len l 16)
  have HLK := Lib.hid (someN_len m 24)
  have HLF := Lib.hid (someN_len r fl)
  have HEQ := Lib.hid (fun W => eqHead h W)
  have hcs6 : h.cells.size = 6 := rfl
  have hco : h.cells.all (·.oneCell') = true := by simp [Hd.cells, Value.oneCell']
  clear hin
  generalize str (wrapS h (someN l 16) (someN m 24) (someN r fl)) = S at *
  generalize someN l 16 = WN at *
  generalize someN m 24 = KN at *
  generalize someN r fl = FN at *
  have hb0 : Below w.heap.size w (w.alloc (.cells h.cells 24)) := (Below.refl _ _).alloc (Nat.le_refl _) _
  have hB0 := Blk.new w 24 h.cells
  generalize h.cells = cs at *
  have HS6 := Lib.hid hcs6; clear hcs6
  have HCO := Lib.hid hco; clear hco
  have HA0 := Lib.hid hA0; clear hA0
  have HA1 := Lib.hid hA1; clear hA1
  have HA2 := Lib.hid hA2; clear hA2
  have hL1 : ¬ 100 < (L0 : Int) := by omega
  have hM1 : ¬ 100 < (M0 : Int) := by omega
  have hR1 : ¬ 100 < (R0 : Int) := by omega
  have HG := Lib.hid hG; clear hG
  have HT := Lib.hid hT; clear hT
  have HB0 := Lib.hid hB0; clear hB0
  have H0 := Lib.hid hb0; clear hb0
  have HF0 := Lib.hid hf0; clear hf0
  clear hl hm hrl gl gm gr hL hM hR hr hu2 hs2 hn hn2 hn256 hfl hf16
  go_enter Tryz.func3, Tryz.ntmps3
  go_wp2_with fail
  refine (HAW.out _ H0.out).mono ?_
  rintro e w1 ⟨rfl, hb1⟩
  have hH1 := HB0.out.below hb1 HB0.out.lt
  have hb1 := H0.out.trans (hb1.mono H0.out.size)
  clear HB0 H0
  go_wp2_with (first
    | (refine wpList_load_rowG (by go_simp) 24 (.tmp 7) rfl w.heap.size rfl 24 cs hH1 _ Tryz.underlying24 rfl (by rw [info_head, HS6.out]) ?_))
  refine (HWG.out _).mono ?_
  rintro e w2 ⟨rfl, hb2⟩
  have hH2 := hH1.below hb2 hH1.lt
  have hbel2 := hb1.trans (hb2.mono hb1.size)
  clear hb1 hb2 hH1
  have hbn : Below w2.heap.size w2 (w2.alloc (.cells #[.int .i64 16, .int .i64 24, .int .i64 16] 3)) := (Below.refl _ _).alloc (Nat.le_refl _) _
  go_wp2_with fail
  refine (HW16.out _ _ _ ((HA0.out.below hbel2 (Nat.le_refl _)).below hbn (Nat.le_refl _))).mono ?_
  rintro e w3 ⟨⟨v, rfl, hv⟩, hb3⟩
  have hb23 := hbn.trans (hb3.mono hbn.size)
  have hbel3 := hbel2.trans (hb23.mono hbel2.size)
  have hH3 := hH2.below hb23 hH2.lt
  obtain ⟨g3, c3, rfl, hA3, -, -⟩ := hv.at_ HLW.out (by omega)
  clear hv hb3 hb23 hH2 hbn hbel2
  have hbn : Below w3.heap.size w3 (w3.alloc (.cells #[.int .i64 16, .int .i64 24, .int .i64 24] 3)) := (Below.refl _ _).alloc (Nat.le_refl _) _
  go_wp2_with fail
  refine (HMK.out _ _ _ ((HA1.out.below hbel3 (Nat.le_refl _)).below hbn (Nat.le_refl _))).mono ?_
  rintro e w4 ⟨⟨v, rfl, hv⟩, hb4⟩
  have hb34 := hbn.trans (hb4.mono hbn.size)
  have hbel4 := hbel3.trans (hb34.mono hbel3.size)
  have hH4 := hH3.below hb34 hH3.lt
  have hA34 := hA3.below hb34 (Nat.le_refl _)
  obtain ⟨gk, ck, rfl, hAk, -, -⟩ := hv.at_ HLK.out (by omega)
  clear hv hb4 hb34 hH3 hbn hbel3 hA3
  go_wp2_with (first
    | (refine wpList_load_rowG rfl 24 (.tmp 7) rfl w.heap.size rfl 24 cs hH4 _ Tryz.underlying24 rfl (by rw [info_head, HS6.out]) ?_))
  refine (HFL.out _).mono ?_
  rintro e w5 ⟨rfl, hb5⟩
  have hbel5 := hbel4.trans (hb5.mono hbel4.size)
  have hH5 := hH4.below hb5 hH4.lt
  have hA35 := hA34.below hb5 (Nat.le_refl _)
  have hAk5 := hAk.below hb5 (Nat.le_refl _)
  clear hb5 hH4 hA34 hAk hbel4
  go_wp2_with fail
  refine (HNF.out _ _ _ (HA2.out.below hbel5 (Nat.le_refl _))).mono ?_
  rintro e w6 ⟨⟨v, rfl, hv⟩, hb6⟩
  obtain ⟨g6, c6, rfl, hA6, -, -⟩ := hv.at_ HLF.out HF0.out
  have hbel6 := hbel5.trans (hb6.mono hbel5.size)
  have hH6 := hH5.below hb6 hH5.lt
  have hA36 := hA35.below hb6 (Nat.le_refl _)
  have hAk6 := hAk5.below hb6 (Nat.le_refl _)
  clear hv hb6 hH5 hA35 hAk5 hbel5
  go_wp2_with (first
    | (refine wpList_load_rowG rfl 24 (.tmp 7) rfl w.heap.size rfl 24 cs hH6 _ Tryz.underlying24 rfl (by rw [info_head, HS6.out]) ?_))
  refine (HWR.out _ _ _ _ _ _ w6 hA36 hAk6 hA6 (fun W hW => HT.out.below (hbel6.trans (hW.mono hbel6.size)))).mono ?_
  rintro e w7 ⟨rfl, hb7⟩
  have hbel7 := hbel6.trans (hb7.mono hbel6.size)
  have hH7 := hH6.below hb7 hH6.lt
  have hA37 := hA36.below hb7 (Nat.le_refl _)
  have hAk7 := hAk6.below hb7 (Nat.le_refl _)
  clear hb7 hH6 hA36 hAk6 hA6 hbel6
  go_wp2_with fail
  refine (HUN.out _ _ _ hA37 (HG.out.below hbel7 (Nat.le_refl _))).mono ?_
  rintro e w8 ⟨⟨v, rfl, hv⟩, hb8⟩
  obtain ⟨g8, c8, rfl, hA8, -, -⟩ := hv.at_ HLK.out (by omega)
  have hbel8 := hbel7.trans (hb8.mono hbel7.size)
  have hH8 := hH7.below hb8 hH7.lt
  have hA38 := hA37.below hb8 (Nat.le_refl _)
  have hAk8 := hAk7.below hb8 (Nat.le_refl _)
  clear hv hb8 hH7 hA37 hAk7 hbel7
  have hbn := (Below.refl w8.heap.size w8).alloc (Nat.le_refl _) (.cells #[.int .u8 0, .string ⟨#[]⟩, .int .u8 0, .int .u8 0, .string ⟨#[]⟩, .int .u8 0] 24)
  go_wp2_with (first
    | (refine wpList_store_all rfl 24 (.tmp 16) (.tmp 75) rfl w8.heap.size cs rfl rfl 24 #[.int .u8 0, .string ⟨#[]⟩, .int .u8 0, .int .u8 0, .string ⟨#[]⟩, .int .u8 0] (Blk.new w8 _ _) (by rw [info_head, HS6.out]) (by rw [HS6.out]; rfl) HCO.out ?_; intro w9 hX9 hO9; have hb9 := hO9.below hbn (Nat.le_refl _); have hH9 := hH8.below hb9 hH8.lt; have hA39 := hA38.below hb9 (Nat.le_refl _); have hAk9 := hAk8.below hb9 (Nat.le_refl _); have hA89 := hA8.below hb9 (Nat.le_refl _); have hbel9 : Below w.heap.size w w9 := hbel8.trans (hb9.mono hbel8.size))
    | (refine wpList_load_rowG rfl 24 (.tmp 16) rfl w8.heap.size rfl 24 cs hX9 _ Tryz.underlying24 rfl (by rw [info_head, HS6.out]) ?_)
    | (refine wpList_load_rowG rfl 24 (.tmp 7) rfl w.heap.size rfl 24 cs hH9 _ Tryz.underlying24 rfl (by rw [info_head, HS6.out]) ?_)
    | (refine wpList_eql_row rfl 24 24 (.tmp 85) (.tmp 86) rfl cs true rfl rfl (HEQ.out w9) (by unfold eqGuard; go_simp; done) ?_))
  refine (HSK.out _ _ _ _ _ hA89 hAk9).mono ?_
  rintro e wA ⟨rfl, n1, rfl⟩
  have hbelA := below_drewN hbel9 n1
  have hA3A : At (w9.drewN n1) (some ⟨g3, 0, none⟩) WN := hA39.below (below_drewN (Below.refl w9.heap.size w9) n1) (Nat.le_refl _)
  generalize w9.drewN n1 = wA at *
  clear hA39 hAk9 hA89 hbel9 hH9 hX9 hO9 hb9 hA8 hA38 hAk8 hbel8 hH8
  go_wp2_with fail
  refine (HW16.out _ _ _ (HA0.out.below hbelA (Nat.le_refl _))).mono ?_
  rintro e wB ⟨⟨v, rfl, hv⟩, hbB⟩
  obtain ⟨gB, cB, rfl, hAB, -, -⟩ := hv.at_ HLW.out (by omega)
  have hbelB := hbelA.trans (hbB.mono hbelA.size)
  have hA3B := hA3A.below hbB (Nat.le_refl _)
  clear hv hbB hbelA hA3A
  go_wp2_with fail
  refine (HSW.out _ _ _ _ _ hA3B hAB).mono ?_
  rintro e wC ⟨rfl, n2, rfl⟩
  have hbelC := below_drewN hbelB n2
  go_wp2
  go_ret
  exact ⟨rfl, hbelC⟩

set_option maxHeartbeats 4000000 in
set_option maxRecDepth 100000 in
theorem back11_c10 (h : Hd) (hr : rightEr h = .ok) (l m r : List Nat) (L0 M0 R0 : Nat) (hl : l.length = L0) (hm : m.length = M0) (hrl : r.length = R0) (gl : Byt l) (gm : Byt m) (gr : Byt r) (hL : L0 ≤ 100) (hM : M0 ≤ 100) (hR : R0 ≤ 100) (A0 A1 A2 : Option Addr) (c0 c1 c2 n : Nat) (hn : n % 3 = 1) (hn2 : n / 3 % 3 = 0) (hn256 : n < 256) (w : World) (hA0 : At w A0 l) (hA1 : At w A1 m) (hA2 : At w A2 r) (hG : EtOk w) (hT : TabOk w) :
    Calls Tryz.prog 3 #[.slice A0 L0 c0, .int .u8 n, .agg h.cells, .slice A1 M0 c1, .slice A2 R0 c2] w fun e w' => e = .returned (.bool true) ∧ Below w.heap.size w w' := by
  obtain ⟨fl, hfl, hf0, hf16⟩ := fill_of hr 16 (by omega)
  have hin := backIn h hr l m r gl gm gr 24 16 fl (by omega) (by omega) hfl hf0
  have hnn : (n : Int) % 3 = 1 := by omega
  have hnq : (n : Int) / 3 % 256 % 3 = 0 := by
    rw [Int.emod_eq_of_lt (a := (n : Int) / 3) (b := 256) (by omega) (by omega)]
    omega
  have hnr : n / 3 % 256 % 3 = 0 := by rw [Nat.mod_eq_of_lt (a := n / 3) (b := 256) (by omega)]; exact hn2
  obtain ⟨-, -, -, -, hu2, hs2⟩ := right_ok hr
  have HAW := Lib.hid (fun W (hb : Below w.heap.size w W) => awake11_any W (hG.below hb (Nat.le_refl _)) (fun W' hb' => (hT.below hb).below hb'))
  have HWG := Lib.hid (fun W => refWrong_any h (by omega) (by omega) W)
  rw [show erAt (rightEr h) = -1 by rw [hr]; rfl] at HWG
  have hws := fun A0 A1 A2 c0 c1 c2 W h0 h1 h2 hTW => wrap_ok h hin.hr (someN l 24) 24 hin.hk (someN_len _ _) (someN m 16) (someN r fl) 16 fl (someN_len _ _) (someN_len _ _) hin.gk hin.gf (by have := hin.hfits; rwa [someN_len] at this) hfl hf0 A0 A1 A2 c0 c1 c2 W h0 h1 h2 hTW
  have HWR := Lib.hid hws; clear hws
  have HUN := Lib.hid (fun A0 c0 W h0 hGW => back11 h (someN l 24) (someN m 16) (someN r fl) hin 24 (someN_len _ _) A0 c0 W h0 hGW)
  have HFL := Lib.hid (fun W => fill_any h 16 (by omega) W)
  rw [show fillW h.ver.toNat 16 = (fl : Int) from hfl] at HFL
  have HW16 := Lib.hid (fun A c W hA => some_any l L0 hl (by omega) gl 24 (by omega) A c W hA)
  have HMK := Lib.hid (fun A c W hA => some_any m M0 hm (by omega) gm 16 (by omega) A c W hA)
  have HNF := Lib.hid (fun A c W hA => some_any r R0 hrl (by omega) gr fl (by omega) A c W hA)
  have hsw := fun A B ca cb W hA hB => same_any (someN l 24) (someN l 24) A B ca cb (someN_byt gl 24) (someN_byt gl 24) (by rw [someN_len]; decide) W hA hB
  have hsk := fun A B ca cb W hA hB => same_any (someN m 16) (someN m 16) A B ca cb (someN_byt gm 16) (someN_byt gm 16) (by rw [someN_len]; decide) W hA hB
  rw [someN_len, decide_eq_true rfl] at hsw hsk
  have HSW := Lib.hid hsw; clear hsw
  have HSK := Lib.hid hsk; clear hsk
  have HLW := Lib.hid (someN_len l 24)
  have HLK := Lib.hid (someN_len m 16)
  have HLF := Lib.hid (someN_len r fl)
  have HEQ := Lib.hid (fun W => eqHead h W)
  have hcs6 : h.cells.size = 6 := rfl
  have hco : h.cells.all (·.oneCell') = true := by simp [Hd.cells, Value.oneCell']
  clear hin
  generalize str (wrapS h (someN l 24) (someN m 16) (someN r fl)) = S at *
  generalize someN l 24 = WN at *
  generalize someN m 16 = KN at *
  generalize someN r fl = FN at *
  have hb0 : Below w.heap.size w (w.alloc (.cells h.cells 24)) := (Below.refl _ _).alloc (Nat.le_refl _) _
  have hB0 := Blk.new w 24 h.cells
  generalize h.cells = cs at *
  have HS6 := Lib.hid hcs6; clear hcs6
  have HCO := Lib.hid hco; clear hco
  have HA0 := Lib.hid hA0; clear hA0
  have HA1 := Lib.hid hA1; clear hA1
  have HA2 := Lib.hid hA2; clear hA2
  have hL1 : ¬ 100 < (L0 : Int) := by omega
  have hM1 : ¬ 100 < (M0 : Int) := by omega
  have hR1 : ¬ 100 < (R0 : Int) := by omega
  have HG := Lib.hid hG; clear hG
  have HT := Lib.hid hT; clear hT
  have HB0 := Lib.hid hB0; clear hB0
  have H0 := Lib.hid hb0; clear hb0
  have HF0 := Lib.hid hf0; clear hf0
  clear hl hm hrl gl gm gr hL hM hR hr hu2 hs2 hn hn2 hn256 hfl hf16
  go_enter Tryz.func3, Tryz.ntmps3
  go_wp2_with fail
  refine (HAW.out _ H0.out).mono ?_
  rintro e w1 ⟨rfl, hb1⟩
  have hH1 := HB0.out.below hb1 HB0.out.lt
  have hb1 := H0.out.trans (hb1.mono H0.out.size)
  clear HB0 H0
  go_wp2_with (first
    | (refine wpList_load_rowG (by go_simp) 24 (.tmp 7) rfl w.heap.size rfl 24 cs hH1 _ Tryz.underlying24 rfl (by rw [info_head, HS6.out]) ?_))
  refine (HWG.out _).mono ?_
  rintro e w2 ⟨rfl, hb2⟩
  have hH2 := hH1.below hb2 hH1.lt
  have hbel2 := hb1.trans (hb2.mono hb1.size)
  clear hb1 hb2 hH1
  have hbn : Below w2.heap.size w2 (w2.alloc (.cells #[.int .i64 16, .int .i64 24, .int .i64 16] 3)) := (Below.refl _ _).alloc (Nat.le_refl _) _
  go_wp2_with fail
  refine (HW16.out _ _ _ ((HA0.out.below hbel2 (Nat.le_refl _)).below hbn (Nat.le_refl _))).mono ?_
  rintro e w3 ⟨⟨v, rfl, hv⟩, hb3⟩
  have hb23 := hbn.trans (hb3.mono hbn.size)
  have hbel3 := hbel2.trans (hb23.mono hbel2.size)
  have hH3 := hH2.below hb23 hH2.lt
  obtain ⟨g3, c3, rfl, hA3, -, -⟩ := hv.at_ HLW.out (by omega)
  clear hv hb3 hb23 hH2 hbn hbel2
  have hbn : Below w3.heap.size w3 (w3.alloc (.cells #[.int .i64 16, .int .i64 24, .int .i64 24] 3)) := (Below.refl _ _).alloc (Nat.le_refl _) _
  go_wp2_with fail
  refine (HMK.out _ _ _ ((HA1.out.below hbel3 (Nat.le_refl _)).below hbn (Nat.le_refl _))).mono ?_
  rintro e w4 ⟨⟨v, rfl, hv⟩, hb4⟩
  have hb34 := hbn.trans (hb4.mono hbn.size)
  have hbel4 := hbel3.trans (hb34.mono hbel3.size)
  have hH4 := hH3.below hb34 hH3.lt
  have hA34 := hA3.below hb34 (Nat.le_refl _)
  obtain ⟨gk, ck, rfl, hAk, -, -⟩ := hv.at_ HLK.out (by omega)
  clear hv hb4 hb34 hH3 hbn hbel3 hA3
  go_wp2_with (first
    | (refine wpList_load_rowG rfl 24 (.tmp 7) rfl w.heap.size rfl 24 cs hH4 _ Tryz.underlying24 rfl (by rw [info_head, HS6.out]) ?_))
  refine (HFL.out _).mono ?_
  rintro e w5 ⟨rfl, hb5⟩
  have hbel5 := hbel4.trans (hb5.mono hbel4.size)
  have hH5 := hH4.below hb5 hH4.lt
  have hA35 := hA34.below hb5 (Nat.le_refl _)
  have hAk5 := hAk.below hb5 (Nat.le_refl _)
  clear hb5 hH4 hA34 hAk hbel4
  go_wp2_with fail
  refine (HNF.out _ _ _ (HA2.out.below hbel5 (Nat.le_refl _))).mono ?_
  rintro e w6 ⟨⟨v, rfl, hv⟩, hb6⟩
  obtain ⟨g6, c6, rfl, hA6, -, -⟩ := hv.at_ HLF.out HF0.out
  have hbel6 := hbel5.trans (hb6.mono hbel5.size)
  have hH6 := hH5.below hb6 hH5.lt
  have hA36 := hA35.below hb6 (Nat.le_refl _)
  have hAk6 := hAk5.below hb6 (Nat.le_refl _)
  clear hv hb6 hH5 hA35 hAk5 hbel5
  go_wp2_with (first
    | (refine wpList_load_rowG rfl 24 (.tmp 7) rfl w.heap.size rfl 24 cs hH6 _ Tryz.underlying24 rfl (by rw [info_head, HS6.out]) ?_))
  refine (HWR.out _ _ _ _ _ _ w6 hA36 hAk6 hA6 (fun W hW => HT.out.below (hbel6.trans (hW.mono hbel6.size)))).mono ?_
  rintro e w7 ⟨rfl, hb7⟩
  have hbel7 := hbel6.trans (hb7.mono hbel6.size)
  have hH7 := hH6.below hb7 hH6.lt
  have hA37 := hA36.below hb7 (Nat.le_refl _)
  have hAk7 := hAk6.below hb7 (Nat.le_refl _)
  clear hb7 hH6 hA36 hAk6 hA6 hbel6
  go_wp2_with fail
  refine (HUN.out _ _ _ hA37 (HG.out.below hbel7 (Nat.le_refl _))).mono ?_
  rintro e w8 ⟨⟨v, rfl, hv⟩, hb8⟩
  obtain ⟨g8, c8, rfl, hA8, -, -⟩ := hv.at_ HLK.out (by omega)
  have hbel8 := hbel7.trans (hb8.mono hbel7.size)
  have hH8 := hH7.below hb8 hH7.lt
  have hA38 := hA37.below hb8 (Nat.le_refl _)
  have hAk8 := hAk7.below hb8 (Nat.le_refl _)
  clear hv hb8 hH7 hA37 hAk7 hbel7
  have hbn := (Below.refl w8.heap.size w8).alloc (Nat.le_refl _) (.cells #[.int .u8 0, .string ⟨#[]⟩, .int .u8 0, .int .u8 0, .string ⟨#[]⟩, .int .u8 0] 24)
  go_wp2_with (first
    | (refine wpList_store_all rfl 24 (.tmp 16) (.tmp 75) rfl w8.heap.size cs rfl rfl 24 #[.int .u8 0, .string ⟨#[]⟩, .int .u8 0, .int .u8 0, .string ⟨#[]⟩, .int .u8 0] (Blk.new w8 _ _) (by rw [info_head, HS6.out]) (by rw [HS6.out]; rfl) HCO.out ?_; intro w9 hX9 hO9; have hb9 := hO9.below hbn (Nat.le_refl _); have hH9 := hH8.below hb9 hH8.lt; have hA39 := hA38.below hb9 (Nat.le_refl _); have hAk9 := hAk8.below hb9 (Nat.le_refl _); have hA89 := hA8.below hb9 (Nat.le_refl _); have hbel9 : Below w.heap.size w w9 := hbel8.trans (hb9.mono hbel8.size))
    | (refine wpList_load_rowG rfl 24 (.tmp 16) rfl w8.heap.size rfl 24 cs hX9 _ Tryz.underlying24 rfl (by rw [info_head, HS6.out]) ?_)
    | (refine wpList_load_rowG rfl 24 (.tmp 7) rfl w.heap.size rfl 24 cs hH9 _ Tryz.underlying24 rfl (by rw [info_head, HS6.out]) ?_)
    | (refine wpList_eql_row rfl 24 24 (.tmp 85) (.tmp 86) rfl cs true rfl rfl (HEQ.out w9) (by unfold eqGuard; go_simp; done) ?_))
  refine (HSK.out _ _ _ _ _ hA89 hAk9).mono ?_
  rintro e wA ⟨rfl, n1, rfl⟩
  have hbelA := below_drewN hbel9 n1
  have hA3A : At (w9.drewN n1) (some ⟨g3, 0, none⟩) WN := hA39.below (below_drewN (Below.refl w9.heap.size w9) n1) (Nat.le_refl _)
  generalize w9.drewN n1 = wA at *
  clear hA39 hAk9 hA89 hbel9 hH9 hX9 hO9 hb9 hA8 hA38 hAk8 hbel8 hH8
  go_wp2_with fail
  refine (HW16.out _ _ _ (HA0.out.below hbelA (Nat.le_refl _))).mono ?_
  rintro e wB ⟨⟨v, rfl, hv⟩, hbB⟩
  obtain ⟨gB, cB, rfl, hAB, -, -⟩ := hv.at_ HLW.out (by omega)
  have hbelB := hbelA.trans (hbB.mono hbelA.size)
  have hA3B := hA3A.below hbB (Nat.le_refl _)
  clear hv hbB hbelA hA3A
  go_wp2_with fail
  refine (HSW.out _ _ _ _ _ hA3B hAB).mono ?_
  rintro e wC ⟨rfl, n2, rfl⟩
  have hbelC := below_drewN hbelB n2
  go_wp2
  go_ret
  exact ⟨rfl, hbelC⟩

set_option maxHeartbeats 4000000 in
set_option maxRecDepth 100000 in
theorem back11_c11 (h : Hd) (hr : rightEr h = .ok) (l m r : List Nat) (L0 M0 R0 : Nat) (hl : l.length = L0) (hm : m.length = M0) (hrl : r.length = R0) (gl : Byt l) (gm : Byt m) (gr : Byt r) (hL : L0 ≤ 100) (hM : M0 ≤ 100) (hR : R0 ≤ 100) (A0 A1 A2 : Option Addr) (c0 c1 c2 n : Nat) (hn : n % 3 = 1) (hn2 : n / 3 % 3 = 1) (hn256 : n < 256) (w : World) (hA0 : At w A0 l) (hA1 : At w A1 m) (hA2 : At w A2 r) (hG : EtOk w) (hT : TabOk w) :
    Calls Tryz.prog 3 #[.slice A0 L0 c0, .int .u8 n, .agg h.cells, .slice A1 M0 c1, .slice A2 R0 c2] w fun e w' => e = .returned (.bool true) ∧ Below w.heap.size w w' := by
  obtain ⟨fl, hfl, hf0, hf16⟩ := fill_of hr 24 (by omega)
  have hin := backIn h hr l m r gl gm gr 24 24 fl (by omega) (by omega) hfl hf0
  have hnn : (n : Int) % 3 = 1 := by omega
  have hnq : (n : Int) / 3 % 256 % 3 = 1 := by
    rw [Int.emod_eq_of_lt (a := (n : Int) / 3) (b := 256) (by omega) (by omega)]
    omega
  have hnr : n / 3 % 256 % 3 = 1 := by rw [Nat.mod_eq_of_lt (a := n / 3) (b := 256) (by omega)]; exact hn2
  obtain ⟨-, -, -, -, hu2, hs2⟩ := right_ok hr
  have HAW := Lib.hid (fun W (hb : Below w.heap.size w W) => awake11_any W (hG.below hb (Nat.le_refl _)) (fun W' hb' => (hT.below hb).below hb'))
  have HWG := Lib.hid (fun W => refWrong_any h (by omega) (by omega) W)
  rw [show erAt (rightEr h) = -1 by rw [hr]; rfl] at HWG
  have hws := fun A0 A1 A2 c0 c1 c2 W h0 h1 h2 hTW => wrap_ok h hin.hr (someN l 24) 24 hin.hk (someN_len _ _) (someN m 24) (someN r fl) 24 fl (someN_len _ _) (someN_len _ _) hin.gk hin.gf (by have := hin.hfits; rwa [someN_len] at this) hfl hf0 A0 A1 A2 c0 c1 c2 W h0 h1 h2 hTW
  have HWR := Lib.hid hws; clear hws
  have HUN := Lib.hid (fun A0 c0 W h0 hGW => back11 h (someN l 24) (someN m 24) (someN r fl) hin 24 (someN_len _ _) A0 c0 W h0 hGW)
  have HFL := Lib.hid (fun W => fill_any h 24 (by omega) W)
  rw [show fillW h.ver.toNat 24 = (fl : Int) from hfl] at HFL
  have HW16 := Lib.hid (fun A c W hA => some_any l L0 hl (by omega) gl 24 (by omega) A c W hA)
  have HMK := Lib.hid (fun A c W hA => some_any m M0 hm (by omega) gm 24 (by omega) A c W hA)
  have HNF := Lib.hid (fun A c W hA => some_any r R0 hrl (by omega) gr fl (by omega) A c W hA)
  have hsw := fun A B ca cb W hA hB => same_any (someN l 24) (someN l 24) A B ca cb (someN_byt gl 24) (someN_byt gl 24) (by rw [someN_len]; decide) W hA hB
  have hsk := fun A B ca cb W hA hB => same_any (someN m 24) (someN m 24) A B ca cb (someN_byt gm 24) (someN_byt gm 24) (by rw [someN_len]; decide) W hA hB
  rw [someN_len, decide_eq_true rfl] at hsw hsk
  have HSW := Lib.hid hsw; clear hsw
  have HSK := Lib.hid hsk; clear hsk
  have HLW := Lib.hid (someN_len l 24)
  have HLK := Lib.hid (someN_len m 24)
  have HLF := Lib.hid (someN_len r fl)
  have HEQ := Lib.hid (fun W => eqHead h W)
  have hcs6 : h.cells.size = 6 := rfl
  have hco : h.cells.all (·.oneCell') = true := by simp [Hd.cells, Value.oneCell']
  clear hin
  generalize str (wrapS h (someN l 24) (someN m 24) (someN r fl)) = S at *
  generalize someN l 24 = WN at *
  generalize someN m 24 = KN at *
  generalize someN r fl = FN at *
  have hb0 : Below w.heap.size w (w.alloc (.cells h.cells 24)) := (Below.refl _ _).alloc (Nat.le_refl _) _
  have hB0 := Blk.new w 24 h.cells
  generalize h.cells = cs at *
  have HS6 := Lib.hid hcs6; clear hcs6
  have HCO := Lib.hid hco; clear hco
  have HA0 := Lib.hid hA0; clear hA0
  have HA1 := Lib.hid hA1; clear hA1
  have HA2 := Lib.hid hA2; clear hA2
  have hL1 : ¬ 100 < (L0 : Int) := by omega
  have hM1 : ¬ 100 < (M0 : Int) := by omega
  have hR1 : ¬ 100 < (R0 : Int) := by omega
  have HG := Lib.hid hG; clear hG
  have HT := Lib.hid hT; clear hT
  have HB0 := Lib.hid hB0; clear hB0
  have H0 := Lib.hid hb0; clear hb0
  have HF0 := Lib.hid hf0; clear hf0
  clear hl hm hrl gl gm gr hL hM hR hr hu2 hs2 hn hn2 hn256 hfl hf16
  go_enter Tryz.func3, Tryz.ntmps3
  go_wp2_with fail
  refine (HAW.out _ H0.out).mono ?_
  rintro e w1 ⟨rfl, hb1⟩
  have hH1 := HB0.out.below hb1 HB0.out.lt
  have hb1 := H0.out.trans (hb1.mono H0.out.size)
  clear HB0 H0
  go_wp2_with (first
    | (refine wpList_load_rowG (by go_simp) 24 (.tmp 7) rfl w.heap.size rfl 24 cs hH1 _ Tryz.underlying24 rfl (by rw [info_head, HS6.out]) ?_))
  refine (HWG.out _).mono ?_
  rintro e w2 ⟨rfl, hb2⟩
  have hH2 := hH1.below hb2 hH1.lt
  have hbel2 := hb1.trans (hb2.mono hb1.size)
  clear hb1 hb2 hH1
  have hbn : Below w2.heap.size w2 (w2.alloc (.cells #[.int .i64 16, .int .i64 24, .int .i64 16] 3)) := (Below.refl _ _).alloc (Nat.le_refl _) _
  go_wp2_with fail
  refine (HW16.out _ _ _ ((HA0.out.below hbel2 (Nat.le_refl _)).below hbn (Nat.le_refl _))).mono ?_
  rintro e w3 ⟨⟨v, rfl, hv⟩, hb3⟩
  have hb23 := hbn.trans (hb3.mono hbn.size)
  have hbel3 := hbel2.trans (hb23.mono hbel2.size)
  have hH3 := hH2.below hb23 hH2.lt
  obtain ⟨g3, c3, rfl, hA3, -, -⟩ := hv.at_ HLW.out (by omega)
  clear hv hb3 hb23 hH2 hbn hbel2
  have hbn : Below w3.heap.size w3 (w3.alloc (.cells #[.int .i64 16, .int .i64 24, .int .i64 24] 3)) := (Below.refl _ _).alloc (Nat.le_refl _) _
  go_wp2_with fail
  refine (HMK.out _ _ _ ((HA1.out.below hbel3 (Nat.le_refl _)).below hbn (Nat.le_refl _))).mono ?_
  rintro e w4 ⟨⟨v, rfl, hv⟩, hb4⟩
  have hb34 := hbn.trans (hb4.mono hbn.size)
  have hbel4 := hbel3.trans (hb34.mono hbel3.size)
  have hH4 := hH3.below hb34 hH3.lt
  have hA34 := hA3.below hb34 (Nat.le_refl _)
  obtain ⟨gk, ck, rfl, hAk, -, -⟩ := hv.at_ HLK.out (by omega)
  clear hv hb4 hb34 hH3 hbn hbel3 hA3
  go_wp2_with (first
    | (refine wpList_load_rowG rfl 24 (.tmp 7) rfl w.heap.size rfl 24 cs hH4 _ Tryz.underlying24 rfl (by rw [info_head, HS6.out]) ?_))
  refine (HFL.out _).mono ?_
  rintro e w5 ⟨rfl, hb5⟩
  have hbel5 := hbel4.trans (hb5.mono hbel4.size)
  have hH5 := hH4.below hb5 hH4.lt
  have hA35 := hA34.below hb5 (Nat.le_refl _)
  have hAk5 := hAk.below hb5 (Nat.le_refl _)
  clear hb5 hH4 hA34 hAk hbel4
  go_wp2_with fail
  refine (HNF.out _ _ _ (HA2.out.below hbel5 (Nat.le_refl _))).mono ?_
  rintro e w6 ⟨⟨v, rfl, hv⟩, hb6⟩
  obtain ⟨g6, c6, rfl, hA6, -, -⟩ := hv.at_ HLF.out HF0.out
  have hbel6 := hbel5.trans (hb6.mono hbel5.size)
  have hH6 := hH5.below hb6 hH5.lt
  have hA36 := hA35.below hb6 (Nat.le_refl _)
  have hAk6 := hAk5.below hb6 (Nat.le_refl _)
  clear hv hb6 hH5 hA35 hAk5 hbel5
  go_wp2_with (first
    | (refine wpList_load_rowG rfl 24 (.tmp 7) rfl w.heap.size rfl 24 cs hH6 _ Tryz.underlying24 rfl (by rw [info_head, HS6.out]) ?_))
  refine (HWR.out _ _ _ _ _ _ w6 hA36 hAk6 hA6 (fun W hW => HT.out.below (hbel6.trans (hW.mono hbel6.size)))).mono ?_
  rintro e w7 ⟨rfl, hb7⟩
  have hbel7 := hbel6.trans (hb7.mono hbel6.size)
  have hH7 := hH6.below hb7 hH6.lt
  have hA37 := hA36.below hb7 (Nat.le_refl _)
  have hAk7 := hAk6.below hb7 (Nat.le_refl _)
  clear hb7 hH6 hA36 hAk6 hA6 hbel6
  go_wp2_with fail
  refine (HUN.out _ _ _ hA37 (HG.out.below hbel7 (Nat.le_refl _))).mono ?_
  rintro e w8 ⟨⟨v, rfl, hv⟩, hb8⟩
  obtain ⟨g8, c8, rfl, hA8, -, -⟩ := hv.at_ HLK.out (by omega)
  have hbel8 := hbel7.trans (hb8.mono hbel7.size)
  have hH8 := hH7.below hb8 hH7.lt
  have hA38 := hA37.below hb8 (Nat.le_refl _)
  have hAk8 := hAk7.below hb8 (Nat.le_refl _)
  clear hv hb8 hH7 hA37 hAk7 hbel7
  have hbn := (Below.refl w8.heap.size w8).alloc (Nat.le_refl _) (.cells #[.int .u8 0, .string ⟨#[]⟩, .int .u8 0, .int .u8 0, .string ⟨#[]⟩, .int .u8 0] 24)
  go_wp2_with (first
    | (refine wpList_store_all rfl 24 (.tmp 16) (.tmp 75) rfl w8.heap.size cs rfl rfl 24 #[.int .u8 0, .string ⟨#[]⟩, .int .u8 0, .int .u8 0, .string ⟨#[]⟩, .int .u8 0] (Blk.new w8 _ _) (by rw [info_head, HS6.out]) (by rw [HS6.out]; rfl) HCO.out ?_; intro w9 hX9 hO9; have hb9 := hO9.below hbn (Nat.le_refl _); have hH9 := hH8.below hb9 hH8.lt; have hA39 := hA38.below hb9 (Nat.le_refl _); have hAk9 := hAk8.below hb9 (Nat.le_refl _); have hA89 := hA8.below hb9 (Nat.le_refl _); have hbel9 : Below w.heap.size w w9 := hbel8.trans (hb9.mono hbel8.size))
    | (refine wpList_load_rowG rfl 24 (.tmp 16) rfl w8.heap.size rfl 24 cs hX9 _ Tryz.underlying24 rfl (by rw [info_head, HS6.out]) ?_)
    | (refine wpList_load_rowG rfl 24 (.tmp 7) rfl w.heap.size rfl 24 cs hH9 _ Tryz.underlying24 rfl (by rw [info_head, HS6.out]) ?_)
    | (refine wpList_eql_row rfl 24 24 (.tmp 85) (.tmp 86) rfl cs true rfl rfl (HEQ.out w9) (by unfold eqGuard; go_simp; done) ?_))
  refine (HSK.out _ _ _ _ _ hA89 hAk9).mono ?_
  rintro e wA ⟨rfl, n1, rfl⟩
  have hbelA := below_drewN hbel9 n1
  have hA3A : At (w9.drewN n1) (some ⟨g3, 0, none⟩) WN := hA39.below (below_drewN (Below.refl w9.heap.size w9) n1) (Nat.le_refl _)
  generalize w9.drewN n1 = wA at *
  clear hA39 hAk9 hA89 hbel9 hH9 hX9 hO9 hb9 hA8 hA38 hAk8 hbel8 hH8
  go_wp2_with fail
  refine (HW16.out _ _ _ (HA0.out.below hbelA (Nat.le_refl _))).mono ?_
  rintro e wB ⟨⟨v, rfl, hv⟩, hbB⟩
  obtain ⟨gB, cB, rfl, hAB, -, -⟩ := hv.at_ HLW.out (by omega)
  have hbelB := hbelA.trans (hbB.mono hbelA.size)
  have hA3B := hA3A.below hbB (Nat.le_refl _)
  clear hv hbB hbelA hA3A
  go_wp2_with fail
  refine (HSW.out _ _ _ _ _ hA3B hAB).mono ?_
  rintro e wC ⟨rfl, n2, rfl⟩
  have hbelC := below_drewN hbelB n2
  go_wp2
  go_ret
  exact ⟨rfl, hbelC⟩

set_option maxHeartbeats 4000000 in
set_option maxRecDepth 100000 in
theorem back11_c12 (h : Hd) (hr : rightEr h = .ok) (l m r : List Nat) (L0 M0 R0 : Nat) (hl : l.length = L0) (hm : m.length = M0) (hrl : r.length = R0) (gl : Byt l) (gm : Byt m) (gr : Byt r) (hL : L0 ≤ 100) (hM : M0 ≤ 100) (hR : R0 ≤ 100) (A0 A1 A2 : Option Addr) (c0 c1 c2 n : Nat) (hn : n % 3 = 1) (hn2 : n / 3 % 3 = 2) (hn256 : n < 256) (w : World) (hA0 : At w A0 l) (hA1 : At w A1 m) (hA2 : At w A2 r) (hG : EtOk w) (hT : TabOk w) :
    Calls Tryz.prog 3 #[.slice A0 L0 c0, .int .u8 n, .agg h.cells, .slice A1 M0 c1, .slice A2 R0 c2] w fun e w' => e = .returned (.bool true) ∧ Below w.heap.size w w' := by
  obtain ⟨fl, hfl, hf0, hf16⟩ := fill_of hr 24 (by omega)
  have hin := backIn h hr l m r gl gm gr 24 24 fl (by omega) (by omega) hfl hf0
  have hnn : (n : Int) % 3 = 1 := by omega
  have hnq : (n : Int) / 3 % 256 % 3 = 2 := by
    rw [Int.emod_eq_of_lt (a := (n : Int) / 3) (b := 256) (by omega) (by omega)]
    omega
  have hnr : n / 3 % 256 % 3 = 2 := by rw [Nat.mod_eq_of_lt (a := n / 3) (b := 256) (by omega)]; exact hn2
  obtain ⟨-, -, -, -, hu2, hs2⟩ := right_ok hr
  have HAW := Lib.hid (fun W (hb : Below w.heap.size w W) => awake11_any W (hG.below hb (Nat.le_refl _)) (fun W' hb' => (hT.below hb).below hb'))
  have HWG := Lib.hid (fun W => refWrong_any h (by omega) (by omega) W)
  rw [show erAt (rightEr h) = -1 by rw [hr]; rfl] at HWG
  have hws := fun A0 A1 A2 c0 c1 c2 W h0 h1 h2 hTW => wrap_ok h hin.hr (someN l 24) 24 hin.hk (someN_len _ _) (someN m 24) (someN r fl) 24 fl (someN_len _ _) (someN_len _ _) hin.gk hin.gf (by have := hin.hfits; rwa [someN_len] at this) hfl hf0 A0 A1 A2 c0 c1 c2 W h0 h1 h2 hTW
  have HWR := Lib.hid hws; clear hws
  have HUN := Lib.hid (fun A0 c0 W h0 hGW => back11 h (someN l 24) (someN m 24) (someN r fl) hin 24 (someN_len _ _) A0 c0 W h0 hGW)
  have HFL := Lib.hid (fun W => fill_any h 24 (by omega) W)
  rw [show fillW h.ver.toNat 24 = (fl : Int) from hfl] at HFL
  have HW16 := Lib.hid (fun A c W hA => some_any l L0 hl (by omega) gl 24 (by omega) A c W hA)
  have HMK := Lib.hid (fun A c W hA => some_any m M0 hm (by omega) gm 24 (by omega) A c W hA)
  have HNF := Lib.hid (fun A c W hA => some_any r R0 hrl (by omega) gr fl (by omega) A c W hA)
  have hsw := fun A B ca cb W hA hB => same_any (someN l 24) (someN l 24) A B ca cb (someN_byt gl 24) (someN_byt gl 24) (by rw [someN_len]; decide) W hA hB
  have hsk := fun A B ca cb W hA hB => same_any (someN m 24) (someN m 24) A B ca cb (someN_byt gm 24) (someN_byt gm 24) (by rw [someN_len]; decide) W hA hB
  rw [someN_len, decide_eq_true rfl] at hsw hsk
  have HSW := Lib.hid hsw; clear hsw
  have HSK := Lib.hid hsk; clear hsk
  have HLW := Lib.hid (someN_len l 24)
  have HLK := Lib.hid (someN_len m 24)
  have HLF := Lib.hid (someN_len r fl)
  have HEQ := Lib.hid (fun W => eqHead h W)
  have hcs6 : h.cells.size = 6 := rfl
  have hco : h.cells.all (·.oneCell') = true := by simp [Hd.cells, Value.oneCell']
  clear hin
  generalize str (wrapS h (someN l 24) (someN m 24) (someN r fl)) = S at *
  generalize someN l 24 = WN at *
  generalize someN m 24 = KN at *
  generalize someN r fl = FN at *
  have hb0 : Below w.heap.size w (w.alloc (.cells h.cells 24)) := (Below.refl _ _).alloc (Nat.le_refl _) _
  have hB0 := Blk.new w 24 h.cells
  generalize h.cells = cs at *
  have HS6 := Lib.hid hcs6; clear hcs6
  have HCO := Lib.hid hco; clear hco
  have HA0 := Lib.hid hA0; clear hA0
  have HA1 := Lib.hid hA1; clear hA1
  have HA2 := Lib.hid hA2; clear hA2
  have hL1 : ¬ 100 < (L0 : Int) := by omega
  have hM1 : ¬ 100 < (M0 : Int) := by omega
  have hR1 : ¬ 100 < (R0 : Int) := by omega
  have HG := Lib.hid hG; clear hG
  have HT := Lib.hid hT; clear hT
  have HB0 := Lib.hid hB0; clear hB0
  have H0 := Lib.hid hb0; clear hb0
  have HF0 := Lib.hid hf0; clear hf0
  clear hl hm hrl gl gm gr hL hM hR hr hu2 hs2 hn hn2 hn256 hfl hf16
  go_enter Tryz.func3, Tryz.ntmps3
  go_wp2_with fail
  refine (HAW.out _ H0.out).mono ?_
  rintro e w1 ⟨rfl, hb1⟩
  have hH1 := HB0.out.below hb1 HB0.out.lt
  have hb1 := H0.out.trans (hb1.mono H0.out.size)
  clear HB0 H0
  go_wp2_with (first
    | (refine wpList_load_rowG (by go_simp) 24 (.tmp 7) rfl w.heap.size rfl 24 cs hH1 _ Tryz.underlying24 rfl (by rw [info_head, HS6.out]) ?_))
  refine (HWG.out _).mono ?_
  rintro e w2 ⟨rfl, hb2⟩
  have hH2 := hH1.below hb2 hH1.lt
  have hbel2 := hb1.trans (hb2.mono hb1.size)
  clear hb1 hb2 hH1
  have hbn : Below w2.heap.size w2 (w2.alloc (.cells #[.int .i64 16, .int .i64 24, .int .i64 16] 3)) := (Below.refl _ _).alloc (Nat.le_refl _) _
  go_wp2_with fail
  refine (HW16.out _ _ _ ((HA0.out.below hbel2 (Nat.le_refl _)).below hbn (Nat.le_refl _))).mono ?_
  rintro e w3 ⟨⟨v, rfl, hv⟩, hb3⟩
  have hb23 := hbn.trans (hb3.mono hbn.size)
  have hbel3 := hbel2.trans (hb23.mono hbel2.size)
  have hH3 := hH2.below hb23 hH2.lt
  obtain ⟨g3, c3, rfl, hA3, -, -⟩ := hv.at_ HLW.out (by omega)
  clear hv hb3 hb23 hH2 hbn hbel2
  have hbn : Below w3.heap.size w3 (w3.alloc (.cells #[.int .i64 16, .int .i64 24, .int .i64 24] 3)) := (Below.refl _ _).alloc (Nat.le_refl _) _
  go_wp2_with fail
  refine (HMK.out _ _ _ ((HA1.out.below hbel3 (Nat.le_refl _)).below hbn (Nat.le_refl _))).mono ?_
  rintro e w4 ⟨⟨v, rfl, hv⟩, hb4⟩
  have hb34 := hbn.trans (hb4.mono hbn.size)
  have hbel4 := hbel3.trans (hb34.mono hbel3.size)
  have hH4 := hH3.below hb34 hH3.lt
  have hA34 := hA3.below hb34 (Nat.le_refl _)
  obtain ⟨gk, ck, rfl, hAk, -, -⟩ := hv.at_ HLK.out (by omega)
  clear hv hb4 hb34 hH3 hbn hbel3 hA3
  go_wp2_with (first
    | (refine wpList_load_rowG rfl 24 (.tmp 7) rfl w.heap.size rfl 24 cs hH4 _ Tryz.underlying24 rfl (by rw [info_head, HS6.out]) ?_))
  refine (HFL.out _).mono ?_
  rintro e w5 ⟨rfl, hb5⟩
  have hbel5 := hbel4.trans (hb5.mono hbel4.size)
  have hH5 := hH4.below hb5 hH4.lt
  have hA35 := hA34.below hb5 (Nat.le_refl _)
  have hAk5 := hAk.below hb5 (Nat.le_refl _)
  clear hb5 hH4 hA34 hAk hbel4
  go_wp2_with fail
  refine (HNF.out _ _ _ (HA2.out.below hbel5 (Nat.le_refl _))).mono ?_
  rintro e w6 ⟨⟨v, rfl, hv⟩, hb6⟩
  obtain ⟨g6, c6, rfl, hA6, -, -⟩ := hv.at_ HLF.out HF0.out
  have hbel6 := hbel5.trans (hb6.mono hbel5.size)
  have hH6 := hH5.below hb6 hH5.lt
  have hA36 := hA35.below hb6 (Nat.le_refl _)
  have hAk6 := hAk5.below hb6 (Nat.le_refl _)
  clear hv hb6 hH5 hA35 hAk5 hbel5
  go_wp2_with (first
    | (refine wpList_load_rowG rfl 24 (.tmp 7) rfl w.heap.size rfl 24 cs hH6 _ Tryz.underlying24 rfl (by rw [info_head, HS6.out]) ?_))
  refine (HWR.out _ _ _ _ _ _ w6 hA36 hAk6 hA6 (fun W hW => HT.out.below (hbel6.trans (hW.mono hbel6.size)))).mono ?_
  rintro e w7 ⟨rfl, hb7⟩
  have hbel7 := hbel6.trans (hb7.mono hbel6.size)
  have hH7 := hH6.below hb7 hH6.lt
  have hA37 := hA36.below hb7 (Nat.le_refl _)
  have hAk7 := hAk6.below hb7 (Nat.le_refl _)
  clear hb7 hH6 hA36 hAk6 hA6 hbel6
  go_wp2_with fail
  refine (HUN.out _ _ _ hA37 (HG.out.below hbel7 (Nat.le_refl _))).mono ?_
  rintro e w8 ⟨⟨v, rfl, hv⟩, hb8⟩
  obtain ⟨g8, c8, rfl, hA8, -, -⟩ := hv.at_ HLK.out (by omega)
  have hbel8 := hbel7.trans (hb8.mono hbel7.size)
  have hH8 := hH7.below hb8 hH7.lt
  have hA38 := hA37.below hb8 (Nat.le_refl _)
  have hAk8 := hAk7.below hb8 (Nat.le_refl _)
  clear hv hb8 hH7 hA37 hAk7 hbel7
  have hbn := (Below.refl w8.heap.size w8).alloc (Nat.le_refl _) (.cells #[.int .u8 0, .string ⟨#[]⟩, .int .u8 0, .int .u8 0, .string ⟨#[]⟩, .int .u8 0] 24)
  go_wp2_with (first
    | (refine wpList_store_all rfl 24 (.tmp 16) (.tmp 75) rfl w8.heap.size cs rfl rfl 24 #[.int .u8 0, .string ⟨#[]⟩, .int .u8 0, .int .u8 0, .string ⟨#[]⟩, .int .u8 0] (Blk.new w8 _ _) (by rw [info_head, HS6.out]) (by rw [HS6.out]; rfl) HCO.out ?_; intro w9 hX9 hO9; have hb9 := hO9.below hbn (Nat.le_refl _); have hH9 := hH8.below hb9 hH8.lt; have hA39 := hA38.below hb9 (Nat.le_refl _); have hAk9 := hAk8.below hb9 (Nat.le_refl _); have hA89 := hA8.below hb9 (Nat.le_refl _); have hbel9 : Below w.heap.size w w9 := hbel8.trans (hb9.mono hbel8.size))
    | (refine wpList_load_rowG rfl 24 (.tmp 16) rfl w8.heap.size rfl 24 cs hX9 _ Tryz.underlying24 rfl (by rw [info_head, HS6.out]) ?_)
    | (refine wpList_load_rowG rfl 24 (.tmp 7) rfl w.heap.size rfl 24 cs hH9 _ Tryz.underlying24 rfl (by rw [info_head, HS6.out]) ?_)
    | (refine wpList_eql_row rfl 24 24 (.tmp 85) (.tmp 86) rfl cs true rfl rfl (HEQ.out w9) (by unfold eqGuard; go_simp; done) ?_))
  refine (HSK.out _ _ _ _ _ hA89 hAk9).mono ?_
  rintro e wA ⟨rfl, n1, rfl⟩
  have hbelA := below_drewN hbel9 n1
  have hA3A : At (w9.drewN n1) (some ⟨g3, 0, none⟩) WN := hA39.below (below_drewN (Below.refl w9.heap.size w9) n1) (Nat.le_refl _)
  generalize w9.drewN n1 = wA at *
  clear hA39 hAk9 hA89 hbel9 hH9 hX9 hO9 hb9 hA8 hA38 hAk8 hbel8 hH8
  go_wp2_with fail
  refine (HW16.out _ _ _ (HA0.out.below hbelA (Nat.le_refl _))).mono ?_
  rintro e wB ⟨⟨v, rfl, hv⟩, hbB⟩
  obtain ⟨gB, cB, rfl, hAB, -, -⟩ := hv.at_ HLW.out (by omega)
  have hbelB := hbelA.trans (hbB.mono hbelA.size)
  have hA3B := hA3A.below hbB (Nat.le_refl _)
  clear hv hbB hbelA hA3A
  go_wp2_with fail
  refine (HSW.out _ _ _ _ _ hA3B hAB).mono ?_
  rintro e wC ⟨rfl, n2, rfl⟩
  have hbelC := below_drewN hbelB n2
  go_wp2
  go_ret
  exact ⟨rfl, hbelC⟩

set_option maxHeartbeats 4000000 in
set_option maxRecDepth 100000 in
theorem back11_c20 (h : Hd) (hr : rightEr h = .ok) (l m r : List Nat) (L0 M0 R0 : Nat) (hl : l.length = L0) (hm : m.length = M0) (hrl : r.length = R0) (gl : Byt l) (gm : Byt m) (gr : Byt r) (hL : L0 ≤ 100) (hM : M0 ≤ 100) (hR : R0 ≤ 100) (A0 A1 A2 : Option Addr) (c0 c1 c2 n : Nat) (hn : n % 3 = 2) (hn2 : n / 3 % 3 = 0) (hn256 : n < 256) (w : World) (hA0 : At w A0 l) (hA1 : At w A1 m) (hA2 : At w A2 r) (hG : EtOk w) (hT : TabOk w) :
    Calls Tryz.prog 3 #[.slice A0 L0 c0, .int .u8 n, .agg h.cells, .slice A1 M0 c1, .slice A2 R0 c2] w fun e w' => e = .returned (.bool true) ∧ Below w.heap.size w w' := by
  obtain ⟨fl, hfl, hf0, hf16⟩ := fill_of hr 16 (by omega)
  have hin := backIn h hr l m r gl gm gr 16 16 fl (by omega) (by omega) hfl hf0
  have hnn : (n : Int) % 3 = 2 := by omega
  have hnq : (n : Int) / 3 % 256 % 3 = 0 := by
    rw [Int.emod_eq_of_lt (a := (n : Int) / 3) (b := 256) (by omega) (by omega)]
    omega
  have hnr : n / 3 % 256 % 3 = 0 := by rw [Nat.mod_eq_of_lt (a := n / 3) (b := 256) (by omega)]; exact hn2
  obtain ⟨-, -, -, -, hu2, hs2⟩ := right_ok hr
  have HAW := Lib.hid (fun W (hb : Below w.heap.size w W) => awake11_any W (hG.below hb (Nat.le_refl _)) (fun W' hb' => (hT.below hb).below hb'))
  have HWG := Lib.hid (fun W => refWrong_any h (by omega) (by omega) W)
  rw [show erAt (rightEr h) = -1 by rw [hr]; rfl] at HWG
  have hws := fun A0 A1 A2 c0 c1 c2 W h0 h1 h2 hTW => wrap_ok h hin.hr (someN l 16) 16 hin.hk (someN_len _ _) (someN m 16) (someN r fl) 16 fl (someN_len _ _) (someN_len _ _) hin.gk hin.gf (by have := hin.hfits; rwa [someN_len] at this) hfl hf0 A0 A1 A2 c0 c1 c2 W h0 h1 h2 hTW
  have HWR := Lib.hid hws; clear hws
  have HUN := Lib.hid (fun A0 c0 W h0 hGW => back11 h (someN l 16) (someN m 16) (someN r fl) hin 16 (someN_len _ _) A0 c0 W h0 hGW)
  have HFL := Lib.hid (fun W => fill_any h 16 (by omega) W)
  rw [show fillW h.ver.toNat 16 = (fl : Int) from hfl] at HFL
  have HW16 := Lib.hid (fun A c W hA => some_any l L0 hl (by omega) gl 16 (by omega) A c W hA)
  have HMK := Lib.hid (fun A c W hA => some_any m M0 hm (by omega) gm 16 (by omega) A c W hA)
  have HNF := Lib.hid (fun A c W hA => some_any r R0 hrl (by omega) gr fl (by omega) A c W hA)
  have hsw := fun A B ca cb W hA hB => same_any (someN l 16) (someN l 16) A B ca cb (someN_byt gl 16) (someN_byt gl 16) (by rw [someN_len]; decide) W hA hB
  have hsk := fun A B ca cb W hA hB => same_any (someN m 16) (someN m 16) A B ca cb (someN_byt gm 16) (someN_byt gm 16) (by rw [someN_len]; decide) W hA hB
  rw [someN_len, decide_eq_true rfl] at hsw hsk
  have HSW := Lib.hid hsw; clear hsw
  have HSK := Lib.hid hsk; clear hsk
  have HLW := Lib.hid (someN_len l 16)
  have HLK := Lib.hid (someN_len m 16)
  have HLF := Lib.hid (someN_len r fl)
  have HEQ := Lib.hid (fun W => eqHead h W)
  have hcs6 : h.cells.size = 6 := rfl
  have hco : h.cells.all (·.oneCell') = true := by simp [Hd.cells, Value.oneCell']
  clear hin
  generalize str (wrapS h (someN l 16) (someN m 16) (someN r fl)) = S at *
  generalize someN l 16 = WN at *
  generalize someN m 16 = KN at *
  generalize someN r fl = FN at *
  have hb0 : Below w.heap.size w (w.alloc (.cells h.cells 24)) := (Below.refl _ _).alloc (Nat.le_refl _) _
  have hB0 := Blk.new w 24 h.cells
  generalize h.cells = cs at *
  have HS6 := Lib.hid hcs6; clear hcs6
  have HCO := Lib.hid hco; clear hco
  have HA0 := Lib.hid hA0; clear hA0
  have HA1 := Lib.hid hA1; clear hA1
  have HA2 := Lib.hid hA2; clear hA2
  have hL1 : ¬ 100 < (L0 : Int) := by omega
  have hM1 : ¬ 100 < (M0 : Int) := by omega
  have hR1 : ¬ 100 < (R0 : Int) := by omega
  have HG := Lib.hid hG; clear hG
  have HT := Lib.hid hT; clear hT
  have HB0 := Lib.hid hB0; clear hB0
  have H0 := Lib.hid hb0; clear hb0
  have HF0 := Lib.hid hf0; clear hf0
  clear hl hm hrl gl gm gr hL hM hR hr hu2 hs2 hn hn2 hn256 hfl hf16
  go_enter Tryz.func3, Tryz.ntmps3
  go_wp2_with fail
  refine (HAW.out _ H0.out).mono ?_
  rintro e w1 ⟨rfl, hb1⟩
  have hH1 := HB0.out.below hb1 HB0.out.lt
  have hb1 := H0.out.trans (hb1.mono H0.out.size)
  clear HB0 H0
  go_wp2_with (first
    | (refine wpList_load_rowG (by go_simp) 24 (.tmp 7) rfl w.heap.size rfl 24 cs hH1 _ Tryz.underlying24 rfl (by rw [info_head, HS6.out]) ?_))
  refine (HWG.out _).mono ?_
  rintro e w2 ⟨rfl, hb2⟩
  have hH2 := hH1.below hb2 hH1.lt
  have hbel2 := hb1.trans (hb2.mono hb1.size)
  clear hb1 hb2 hH1
  have hbn : Below w2.heap.size w2 (w2.alloc (.cells #[.int .i64 16, .int .i64 24, .int .i64 16] 3)) := (Below.refl _ _).alloc (Nat.le_refl _) _
  go_wp2_with fail
  refine (HW16.out _ _ _ ((HA0.out.below hbel2 (Nat.le_refl _)).below hbn (Nat.le_refl _))).mono ?_
  rintro e w3 ⟨⟨v, rfl, hv⟩, hb3⟩
  have hb23 := hbn.trans (hb3.mono hbn.size)
  have hbel3 := hbel2.trans (hb23.mono hbel2.size)
  have hH3 := hH2.below hb23 hH2.lt
  obtain ⟨g3, c3, rfl, hA3, -, -⟩ := hv.at_ HLW.out (by omega)
  clear hv hb3 hb23 hH2 hbn hbel2
  have hbn : Below w3.heap.size w3 (w3.alloc (.cells #[.int .i64 16, .int .i64 24, .int .i64 24] 3)) := (Below.refl _ _).alloc (Nat.le_refl _) _
  go_wp2_with fail
  refine (HMK.out _ _ _ ((HA1.out.below hbel3 (Nat.le_refl _)).below hbn (Nat.le_refl _))).mono ?_
  rintro e w4 ⟨⟨v, rfl, hv⟩, hb4⟩
  have hb34 := hbn.trans (hb4.mono hbn.size)
  have hbel4 := hbel3.trans (hb34.mono hbel3.size)
  have hH4 := hH3.below hb34 hH3.lt
  have hA34 := hA3.below hb34 (Nat.le_refl _)
  obtain ⟨gk, ck, rfl, hAk, -, -⟩ := hv.at_ HLK.out (by omega)
  clear hv hb4 hb34 hH3 hbn hbel3 hA3
  go_wp2_with (first
    | (refine wpList_load_rowG rfl 24 (.tmp 7) rfl w.heap.size rfl 24 cs hH4 _ Tryz.underlying24 rfl (by rw [info_head, HS6.out]) ?_))
  refine (HFL.out _).mono ?_
  rintro e w5 ⟨rfl, hb5⟩
  have hbel5 := hbel4.trans (hb5.mono hbel4.size)
  have hH5 := hH4.below hb5 hH4.lt
  have hA35 := hA34.below hb5 (Nat.le_refl _)
  have hAk5 := hAk.below hb5 (Nat.le_refl _)
  clear hb5 hH4 hA34 hAk hbel4
  go_wp2_with fail
  refine (HNF.out _ _ _ (HA2.out.below hbel5 (Nat.le_refl _))).mono ?_
  rintro e w6 ⟨⟨v, rfl, hv⟩, hb6⟩
  obtain ⟨g6, c6, rfl, hA6, -, -⟩ := hv.at_ HLF.out HF0.out
  have hbel6 := hbel5.trans (hb6.mono hbel5.size)
  have hH6 := hH5.below hb6 hH5.lt
  have hA36 := hA35.below hb6 (Nat.le_refl _)
  have hAk6 := hAk5.below hb6 (Nat.le_refl _)
  clear hv hb6 hH5 hA35 hAk5 hbel5
  go_wp2_with (first
    | (refine wpList_load_rowG rfl 24 (.tmp 7) rfl w.heap.size rfl 24 cs hH6 _ Tryz.underlying24 rfl (by rw [info_head, HS6.out]) ?_))
  refine (HWR.out _ _ _ _ _ _ w6 hA36 hAk6 hA6 (fun W hW => HT.out.below (hbel6.trans (hW.mono hbel6.size)))).mono ?_
  rintro e w7 ⟨rfl, hb7⟩
  have hbel7 := hbel6.trans (hb7.mono hbel6.size)
  have hH7 := hH6.below hb7 hH6.lt
  have hA37 := hA36.below hb7 (Nat.le_refl _)
  have hAk7 := hAk6.below hb7 (Nat.le_refl _)
  clear hb7 hH6 hA36 hAk6 hA6 hbel6
  go_wp2_with fail
  refine (HUN.out _ _ _ hA37 (HG.out.below hbel7 (Nat.le_refl _))).mono ?_
  rintro e w8 ⟨⟨v, rfl, hv⟩, hb8⟩
  obtain ⟨g8, c8, rfl, hA8, -, -⟩ := hv.at_ HLK.out (by omega)
  have hbel8 := hbel7.trans (hb8.mono hbel7.size)
  have hH8 := hH7.below hb8 hH7.lt
  have hA38 := hA37.below hb8 (Nat.le_refl _)
  have hAk8 := hAk7.below hb8 (Nat.le_refl _)
  clear hv hb8 hH7 hA37 hAk7 hbel7
  have hbn := (Below.refl w8.heap.size w8).alloc (Nat.le_refl _) (.cells #[.int .u8 0, .string ⟨#[]⟩, .int .u8 0, .int .u8 0, .string ⟨#[]⟩, .int .u8 0] 24)
  go_wp2_with (first
    | (refine wpList_store_all rfl 24 (.tmp 16) (.tmp 75) rfl w8.heap.size cs rfl rfl 24 #[.int .u8 0, .string ⟨#[]⟩, .int .u8 0, .int .u8 0, .string ⟨#[]⟩, .int .u8 0] (Blk.new w8 _ _) (by rw [info_head, HS6.out]) (by rw [HS6.out]; rfl) HCO.out ?_; intro w9 hX9 hO9; have hb9 := hO9.below hbn (Nat.le_refl _); have hH9 := hH8.below hb9 hH8.lt; have hA39 := hA38.below hb9 (Nat.le_refl _); have hAk9 := hAk8.below hb9 (Nat.le_refl _); have hA89 := hA8.below hb9 (Nat.le_refl _); have hbel9 : Below w.heap.size w w9 := hbel8.trans (hb9.mono hbel8.size))
    | (refine wpList_load_rowG rfl 24 (.tmp 16) rfl w8.heap.size rfl 24 cs hX9 _ Tryz.underlying24 rfl (by rw [info_head, HS6.out]) ?_)
    | (refine wpList_load_rowG rfl 24 (.tmp 7) rfl w.heap.size rfl 24 cs hH9 _ Tryz.underlying24 rfl (by rw [info_head, HS6.out]) ?_)
    | (refine wpList_eql_row rfl 24 24 (.tmp 85) (.tmp 86) rfl cs true rfl rfl (HEQ.out w9) (by unfold eqGuard; go_simp; done) ?_))
  refine (HSK.out _ _ _ _ _ hA89 hAk9).mono ?_
  rintro e wA ⟨rfl, n1, rfl⟩
  have hbelA := below_drewN hbel9 n1
  have hA3A : At (w9.drewN n1) (some ⟨g3, 0, none⟩) WN := hA39.below (below_drewN (Below.refl w9.heap.size w9) n1) (Nat.le_refl _)
  generalize w9.drewN n1 = wA at *
  clear hA39 hAk9 hA89 hbel9 hH9 hX9 hO9 hb9 hA8 hA38 hAk8 hbel8 hH8
  go_wp2_with fail
  refine (HW16.out _ _ _ (HA0.out.below hbelA (Nat.le_refl _))).mono ?_
  rintro e wB ⟨⟨v, rfl, hv⟩, hbB⟩
  obtain ⟨gB, cB, rfl, hAB, -, -⟩ := hv.at_ HLW.out (by omega)
  have hbelB := hbelA.trans (hbB.mono hbelA.size)
  have hA3B := hA3A.below hbB (Nat.le_refl _)
  clear hv hbB hbelA hA3A
  go_wp2_with fail
  refine (HSW.out _ _ _ _ _ hA3B hAB).mono ?_
  rintro e wC ⟨rfl, n2, rfl⟩
  have hbelC := below_drewN hbelB n2
  go_wp2
  go_ret
  exact ⟨rfl, hbelC⟩

set_option maxHeartbeats 4000000 in
set_option maxRecDepth 100000 in
theorem back11_c21 (h : Hd) (hr : rightEr h = .ok) (l m r : List Nat) (L0 M0 R0 : Nat) (hl : l.length = L0) (hm : m.length = M0) (hrl : r.length = R0) (gl : Byt l) (gm : Byt m) (gr : Byt r) (hL : L0 ≤ 100) (hM : M0 ≤ 100) (hR : R0 ≤ 100) (A0 A1 A2 : Option Addr) (c0 c1 c2 n : Nat) (hn : n % 3 = 2) (hn2 : n / 3 % 3 = 1) (hn256 : n < 256) (w : World) (hA0 : At w A0 l) (hA1 : At w A1 m) (hA2 : At w A2 r) (hG : EtOk w) (hT : TabOk w) :
    Calls Tryz.prog 3 #[.slice A0 L0 c0, .int .u8 n, .agg h.cells, .slice A1 M0 c1, .slice A2 R0 c2] w fun e w' => e = .returned (.bool true) ∧ Below w.heap.size w w' := by
  obtain ⟨fl, hfl, hf0, hf16⟩ := fill_of hr 24 (by omega)
  have hin := backIn h hr l m r gl gm gr 16 24 fl (by omega) (by omega) hfl hf0
  have hnn : (n : Int) % 3 = 2 := by omega
  have hnq : (n : Int) / 3 % 256 % 3 = 1 := by
    rw [Int.emod_eq_of_lt (a := (n : Int) / 3) (b := 256) (by omega) (by omega)]
    omega
  have hnr : n / 3 % 256 % 3 = 1 := by rw [Nat.mod_eq_of_lt (a := n / 3) (b := 256) (by omega)]; exact hn2
  obtain ⟨-, -, -, -, hu2, hs2⟩ := right_ok hr
  have HAW := Lib.hid (fun W (hb : Below w.heap.size w W) => awake11_any W (hG.below hb (Nat.le_refl _)) (fun W' hb' => (hT.below hb).below hb'))
  have HWG := Lib.hid (fun W => refWrong_any h (by omega) (by omega) W)
  rw [show erAt (rightEr h) = -1 by rw [hr]; rfl] at HWG
  have hws := fun A0 A1 A2 c0 c1 c2 W h0 h1 h2 hTW => wrap_ok h hin.hr (someN l 16) 16 hin.hk (someN_len _ _) (someN m 24) (someN r fl) 24 fl (someN_len _ _) (someN_len _ _) hin.gk hin.gf (by have := hin.hfits; rwa [someN_len] at this) hfl hf0 A0 A1 A2 c0 c1 c2 W h0 h1 h2 hTW
  have HWR := Lib.hid hws; clear hws
  have HUN := Lib.hid (fun A0 c0 W h0 hGW => back11 h (someN l 16) (someN m 24) (someN r fl) hin 16 (someN_len _ _) A0 c0 W h0 hGW)
  have HFL := Lib.hid (fun W => fill_any h 24 (by omega) W)
  rw [show fillW h.ver.toNat 24 = (fl : Int) from hfl] at HFL
  have HW16 := Lib.hid (fun A c W hA => some_any l L0 hl (by omega) gl 16 (by omega) A c W hA)
  have HMK := Lib.hid (fun A c W hA => some_any m M0 hm (by omega) gm 24 (by omega) A c W hA)
  have HNF := Lib.hid (fun A c W hA => some_any r R0 hrl (by omega) gr fl (by omega) A c W hA)
  have hsw := fun A B ca cb W hA hB => same_any (someN l 16) (someN l 16) A B ca cb (someN_byt gl 16) (someN_byt gl 16) (by rw [someN_len]; decide) W hA hB
  have hsk := fun A B ca cb W hA hB => same_any (someN m 24) (someN m 24) A B ca cb (someN_byt gm 24) (someN_byt gm 24) (by rw [someN_len]; decide) W hA hB
  rw [someN_len, decide_eq_true rfl] at hsw hsk
  have HSW := Lib.hid hsw; clear hsw
  have HSK := Lib.hid hsk; clear hsk
  have HLW := Lib.hid (someN_len l 16)
  have HLK := Lib.hid (someN_len m 24)
  have HLF := Lib.hid (someN_len r fl)
  have HEQ := Lib.hid (fun W => eqHead h W)
  have hcs6 : h.cells.size = 6 := rfl
  have hco : h.cells.all (·.oneCell') = true := by simp [Hd.cells, Value.oneCell']
  clear hin
  generalize str (wrapS h (someN l 16) (someN m 24) (someN r fl)) = S at *
  generalize someN l 16 = WN at *
  generalize someN m 24 = KN at *
  generalize someN r fl = FN at *
  have hb0 : Below w.heap.size w (w.alloc (.cells h.cells 24)) := (Below.refl _ _).alloc (Nat.le_refl _) _
  have hB0 := Blk.new w 24 h.cells
  generalize h.cells = cs at *
  have HS6 := Lib.hid hcs6; clear hcs6
  have HCO := Lib.hid hco; clear hco
  have HA0 := Lib.hid hA0; clear hA0
  have HA1 := Lib.hid hA1; clear hA1
  have HA2 := Lib.hid hA2; clear hA2
  have hL1 : ¬ 100 < (L0 : Int) := by omega
  have hM1 : ¬ 100 < (M0 : Int) := by omega
  have hR1 : ¬ 100 < (R0 : Int) := by omega
  have HG := Lib.hid hG; clear hG
  have HT := Lib.hid hT; clear hT
  have HB0 := Lib.hid hB0; clear hB0
  have H0 := Lib.hid hb0; clear hb0
  have HF0 := Lib.hid hf0; clear hf0
  clear hl hm hrl gl gm gr hL hM hR hr hu2 hs2 hn hn2 hn256 hfl hf16
  go_enter Tryz.func3, Tryz.ntmps3
  go_wp2_with fail
  refine (HAW.out _ H0.out).mono ?_
  rintro e w1 ⟨rfl, hb1⟩
  have hH1 := HB0.out.below hb1 HB0.out.lt
  have hb1 := H0.out.trans (hb1.mono H0.out.size)
  clear HB0 H0
  go_wp2_with (first
    | (refine wpList_load_rowG (by go_simp) 24 (.tmp 7) rfl w.heap.size rfl 24 cs hH1 _ Tryz.underlying24 rfl (by rw [info_head, HS6.out]) ?_))
  refine (HWG.out _).mono ?_
  rintro e w2 ⟨rfl, hb2⟩
  have hH2 := hH1.below hb2 hH1.lt
  have hbel2 := hb1.trans (hb2.mono hb1.size)
  clear hb1 hb2 hH1
  have hbn : Below w2.heap.size w2 (w2.alloc (.cells #[.int .i64 16, .int .i64 24, .int .i64 16] 3)) := (Below.refl _ _).alloc (Nat.le_refl _) _
  go_wp2_with fail
  refine (HW16.out _ _ _ ((HA0.out.below hbel2 (Nat.le_refl _)).below hbn (Nat.le_refl _))).mono ?_
  rintro e w3 ⟨⟨v, rfl, hv⟩, hb3⟩
  have hb23 := hbn.trans (hb3.mono hbn.size)
  have hbel3 := hbel2.trans (hb23.mono hbel2.size)
  have hH3 := hH2.below hb23 hH2.lt
  obtain ⟨g3, c3, rfl, hA3, -, -⟩ := hv.at_ HLW.out (by omega)
  clear hv hb3 hb23 hH2 hbn hbel2
  have hbn : Below w3.heap.size w3 (w3.alloc (.cells #[.int .i64 16, .int .i64 24, .int .i64 24] 3)) := (Below.refl _ _).alloc (Nat.le_refl _) _
  go_wp2_with fail
  refine (HMK.out _ _ _ ((HA1.out.below hbel3 (Nat.le_refl _)).below hbn (Nat.le_refl _))).mono ?_
  rintro e w4 ⟨⟨v, rfl, hv⟩, hb4⟩
  have hb34 := hbn.trans (hb4.mono hbn.size)
  have hbel4 := hbel3.trans (hb34.mono hbel3.size)
  have hH4 := hH3.below hb34 hH3.lt
  have hA34 := hA3.below hb34 (Nat.le_refl _)
  obtain ⟨gk, ck, rfl, hAk, -, -⟩ := hv.at_ HLK.out (by omega)
  clear hv hb4 hb34 hH3 hbn hbel3 hA3
  go_wp2_with (first
    | (refine wpList_load_rowG rfl 24 (.tmp 7) rfl w.heap.size rfl 24 cs hH4 _ Tryz.underlying24 rfl (by rw [info_head, HS6.out]) ?_))
  refine (HFL.out _).mono ?_
  rintro e w5 ⟨rfl, hb5⟩
  have hbel5 := hbel4.trans (hb5.mono hbel4.size)
  have hH5 := hH4.below hb5 hH4.lt
  have hA35 := hA34.below hb5 (Nat.le_refl _)
  have hAk5 := hAk.below hb5 (Nat.le_refl _)
  clear hb5 hH4 hA34 hAk hbel4
  go_wp2_with fail
  refine (HNF.out _ _ _ (HA2.out.below hbel5 (Nat.le_refl _))).mono ?_
  rintro e w6 ⟨⟨v, rfl, hv⟩, hb6⟩
  obtain ⟨g6, c6, rfl, hA6, -, -⟩ := hv.at_ HLF.out HF0.out
  have hbel6 := hbel5.trans (hb6.mono hbel5.size)
  have hH6 := hH5.below hb6 hH5.lt
  have hA36 := hA35.below hb6 (Nat.le_refl _)
  have hAk6 := hAk5.below hb6 (Nat.le_refl _)
  clear hv hb6 hH5 hA35 hAk5 hbel5
  go_wp2_with (first
    | (refine wpList_load_rowG rfl 24 (.tmp 7) rfl w.heap.size rfl 24 cs hH6 _ Tryz.underlying24 rfl (by rw [info_head, HS6.out]) ?_))
  refine (HWR.out _ _ _ _ _ _ w6 hA36 hAk6 hA6 (fun W hW => HT.out.below (hbel6.trans (hW.mono hbel6.size)))).mono ?_
  rintro e w7 ⟨rfl, hb7⟩
  have hbel7 := hbel6.trans (hb7.mono hbel6.size)
  have hH7 := hH6.below hb7 hH6.lt
  have hA37 := hA36.below hb7 (Nat.le_refl _)
  have hAk7 := hAk6.below hb7 (Nat.le_refl _)
  clear hb7 hH6 hA36 hAk6 hA6 hbel6
  go_wp2_with fail
  refine (HUN.out _ _ _ hA37 (HG.out.below hbel7 (Nat.le_refl _))).mono ?_
  rintro e w8 ⟨⟨v, rfl, hv⟩, hb8⟩
  obtain ⟨g8, c8, rfl, hA8, -, -⟩ := hv.at_ HLK.out (by omega)
  have hbel8 := hbel7.trans (hb8.mono hbel7.size)
  have hH8 := hH7.below hb8 hH7.lt
  have hA38 := hA37.below hb8 (Nat.le_refl _)
  have hAk8 := hAk7.below hb8 (Nat.le_refl _)
  clear hv hb8 hH7 hA37 hAk7 hbel7
  have hbn := (Below.refl w8.heap.size w8).alloc (Nat.le_refl _) (.cells #[.int .u8 0, .string ⟨#[]⟩, .int .u8 0, .int .u8 0, .string ⟨#[]⟩, .int .u8 0] 24)
  go_wp2_with (first
    | (refine wpList_store_all rfl 24 (.tmp 16) (.tmp 75) rfl w8.heap.size cs rfl rfl 24 #[.int .u8 0, .string ⟨#[]⟩, .int .u8 0, .int .u8 0, .string ⟨#[]⟩, .int .u8 0] (Blk.new w8 _ _) (by rw [info_head, HS6.out]) (by rw [HS6.out]; rfl) HCO.out ?_; intro w9 hX9 hO9; have hb9 := hO9.below hbn (Nat.le_refl _); have hH9 := hH8.below hb9 hH8.lt; have hA39 := hA38.below hb9 (Nat.le_refl _); have hAk9 := hAk8.below hb9 (Nat.le_refl _); have hA89 := hA8.below hb9 (Nat.le_refl _); have hbel9 : Below w.heap.size w w9 := hbel8.trans (hb9.mono hbel8.size))
    | (refine wpList_load_rowG rfl 24 (.tmp 16) rfl w8.heap.size rfl 24 cs hX9 _ Tryz.underlying24 rfl (by rw [info_head, HS6.out]) ?_)
    | (refine wpList_load_rowG rfl 24 (.tmp 7) rfl w.heap.size rfl 24 cs hH9 _ Tryz.underlying24 rfl (by rw [info_head, HS6.out]) ?_)
    | (refine wpList_eql_row rfl 24 24 (.tmp 85) (.tmp 86) rfl cs true rfl rfl (HEQ.out w9) (by unfold eqGuard; go_simp; done) ?_))
  refine (HSK.out _ _ _ _ _ hA89 hAk9).mono ?_
  rintro e wA ⟨rfl, n1, rfl⟩
  have hbelA := below_drewN hbel9 n1
  have hA3A : At (w9.drewN n1) (some ⟨g3, 0, none⟩) WN := hA39.below (below_drewN (Below.refl w9.heap.size w9) n1) (Nat.le_refl _)
  generalize w9.drewN n1 = wA at *
  clear hA39 hAk9 hA89 hbel9 hH9 hX9 hO9 hb9 hA8 hA38 hAk8 hbel8 hH8
  go_wp2_with fail
  refine (HW16.out _ _ _ (HA0.out.below hbelA (Nat.le_refl _))).mono ?_
  rintro e wB ⟨⟨v, rfl, hv⟩, hbB⟩
  obtain ⟨gB, cB, rfl, hAB, -, -⟩ := hv.at_ HLW.out (by omega)
  have hbelB := hbelA.trans (hbB.mono hbelA.size)
  have hA3B := hA3A.below hbB (Nat.le_refl _)
  clear hv hbB hbelA hA3A
  go_wp2_with fail
  refine (HSW.out _ _ _ _ _ hA3B hAB).mono ?_
  rintro e wC ⟨rfl, n2, rfl⟩
  have hbelC := below_drewN hbelB n2
  go_wp2
  go_ret
  exact ⟨rfl, hbelC⟩

set_option maxHeartbeats 4000000 in
set_option maxRecDepth 100000 in
theorem back11_c22 (h : Hd) (hr : rightEr h = .ok) (l m r : List Nat) (L0 M0 R0 : Nat) (hl : l.length = L0) (hm : m.length = M0) (hrl : r.length = R0) (gl : Byt l) (gm : Byt m) (gr : Byt r) (hL : L0 ≤ 100) (hM : M0 ≤ 100) (hR : R0 ≤ 100) (A0 A1 A2 : Option Addr) (c0 c1 c2 n : Nat) (hn : n % 3 = 2) (hn2 : n / 3 % 3 = 2) (hn256 : n < 256) (w : World) (hA0 : At w A0 l) (hA1 : At w A1 m) (hA2 : At w A2 r) (hG : EtOk w) (hT : TabOk w) :
    Calls Tryz.prog 3 #[.slice A0 L0 c0, .int .u8 n, .agg h.cells, .slice A1 M0 c1, .slice A2 R0 c2] w fun e w' => e = .returned (.bool true) ∧ Below w.heap.size w w' := by
  obtain ⟨fl, hfl, hf0, hf16⟩ := fill_of hr 24 (by omega)
  have hin := backIn h hr l m r gl gm gr 16 24 fl (by omega) (by omega) hfl hf0
  have hnn : (n : Int) % 3 = 2 := by omega
  have hnq : (n : Int) / 3 % 256 % 3 = 2 := by
    rw [Int.emod_eq_of_lt (a := (n : Int) / 3) (b := 256) (by omega) (by omega)]
    omega
  have hnr : n / 3 % 256 % 3 = 2 := by rw [Nat.mod_eq_of_lt (a := n / 3) (b := 256) (by omega)]; exact hn2
  obtain ⟨-, -, -, -, hu2, hs2⟩ := right_ok hr
  have HAW := Lib.hid (fun W (hb : Below w.heap.size w W) => awake11_any W (hG.below hb (Nat.le_refl _)) (fun W' hb' => (hT.below hb).below hb'))
  have HWG := Lib.hid (fun W => refWrong_any h (by omega) (by omega) W)
  rw [show erAt (rightEr h) = -1 by rw [hr]; rfl] at HWG
  have hws := fun A0 A1 A2 c0 c1 c2 W h0 h1 h2 hTW => wrap_ok h hin.hr (someN l 16) 16 hin.hk (someN_len _ _) (someN m 24) (someN r fl) 24 fl (someN_len _ _) (someN_len _ _) hin.gk hin.gf (by have := hin.hfits; rwa [someN_len] at this) hfl hf0 A0 A1 A2 c0 c1 c2 W h0 h1 h2 hTW
  have HWR := Lib.hid hws; clear hws
  have HUN := Lib.hid (fun A0 c0 W h0 hGW => back11 h (someN l 16) (someN m 24) (someN r fl) hin 16 (someN_len _ _) A0 c0 W h0 hGW)
  have HFL := Lib.hid (fun W => fill_any h 24 (by omega) W)
  rw [show fillW h.ver.toNat 24 = (fl : Int) from hfl] at HFL
  have HW16 := Lib.hid (fun A c W hA => some_any l L0 hl (by omega) gl 16 (by omega) A c W hA)
  have HMK := Lib.hid (fun A c W hA => some_any m M0 hm (by omega) gm 24 (by omega) A c W hA)
  have HNF := Lib.hid (fun A c W hA => some_any r R0 hrl (by omega) gr fl (by omega) A c W hA)
  have hsw := fun A B ca cb W hA hB => same_any (someN l 16) (someN l 16) A B ca cb (someN_byt gl 16) (someN_byt gl 16) (by rw [someN_len]; decide) W hA hB
  have hsk := fun A B ca cb W hA hB => same_any (someN m 24) (someN m 24) A B ca cb (someN_byt gm 24) (someN_byt gm 24) (by rw [someN_len]; decide) W hA hB
  rw [someN_len, decide_eq_true rfl] at hsw hsk
  have HSW := Lib.hid hsw; clear hsw
  have HSK := Lib.hid hsk; clear hsk
  have HLW := Lib.hid (someN_len l 16)
  have HLK := Lib.hid (someN_len m 24)
  have HLF := Lib.hid (someN_len r fl)
  have HEQ := Lib.hid (fun W => eqHead h W)
  have hcs6 : h.cells.size = 6 := rfl
  have hco : h.cells.all (·.oneCell') = true := by simp [Hd.cells, Value.oneCell']
  clear hin
  generalize str (wrapS h (someN l 16) (someN m 24) (someN r fl)) = S at *
  generalize someN l 16 = WN at *
  generalize someN m 24 = KN at *
  generalize someN r fl = FN at *
  have hb0 : Below w.heap.size w (w.alloc (.cells h.cells 24)) := (Below.refl _ _).alloc (Nat.le_refl _) _
  have hB0 := Blk.new w 24 h.cells
  generalize h.cells = cs at *
  have HS6 := Lib.hid hcs6; clear hcs6
  have HCO := Lib.hid hco; clear hco
  have HA0 := Lib.hid hA0; clear hA0
  have HA1 := Lib.hid hA1; clear hA1
  have HA2 := Lib.hid hA2; clear hA2
  have hL1 : ¬ 100 < (L0 : Int) := by omega
  have hM1 : ¬ 100 < (M0 : Int) := by omega
  have hR1 : ¬ 100 < (R0 : Int) := by omega
  have HG := Lib.hid hG; clear hG
  have HT := Lib.hid hT; clear hT
  have HB0 := Lib.hid hB0; clear hB0
  have H0 := Lib.hid hb0; clear hb0
  have HF0 := Lib.hid hf0; clear hf0
  clear hl hm hrl gl gm gr hL hM hR hr hu2 hs2 hn hn2 hn256 hfl hf16
  go_enter Tryz.func3, Tryz.ntmps3
  go_wp2_with fail
  refine (HAW.out _ H0.out).mono ?_
  rintro e w1 ⟨rfl, hb1⟩
  have hH1 := HB0.out.below hb1 HB0.out.lt
  have hb1 := H0.out.trans (hb1.mono H0.out.size)
  clear HB0 H0
  go_wp2_with (first
    | (refine wpList_load_rowG (by go_simp) 24 (.tmp 7) rfl w.heap.size rfl 24 cs hH1 _ Tryz.underlying24 rfl (by rw [info_head, HS6.out]) ?_))
  refine (HWG.out _).mono ?_
  rintro e w2 ⟨rfl, hb2⟩
  have hH2 := hH1.below hb2 hH1.lt
  have hbel2 := hb1.trans (hb2.mono hb1.size)
  clear hb1 hb2 hH1
  have hbn : Below w2.heap.size w2 (w2.alloc (.cells #[.int .i64 16, .int .i64 24, .int .i64 16] 3)) := (Below.refl _ _).alloc (Nat.le_refl _) _
  go_wp2_with fail
  refine (HW16.out _ _ _ ((HA0.out.below hbel2 (Nat.le_refl _)).below hbn (Nat.le_refl _))).mono ?_
  rintro e w3 ⟨⟨v, rfl, hv⟩, hb3⟩
  have hb23 := hbn.trans (hb3.mono hbn.size)
  have hbel3 := hbel2.trans (hb23.mono hbel2.size)
  have hH3 := hH2.below hb23 hH2.lt
  obtain ⟨g3, c3, rfl, hA3, -, -⟩ := hv.at_ HLW.out (by omega)
  clear hv hb3 hb23 hH2 hbn hbel2
  have hbn : Below w3.heap.size w3 (w3.alloc (.cells #[.int .i64 16, .int .i64 24, .int .i64 24] 3)) := (Below.refl _ _).alloc (Nat.le_refl _) _
  go_wp2_with fail
  refine (HMK.out _ _ _ ((HA1.out.below hbel3 (Nat.le_refl _)).below hbn (Nat.le_refl _))).mono ?_
  rintro e w4 ⟨⟨v, rfl, hv⟩, hb4⟩
  have hb34 := hbn.trans (hb4.mono hbn.size)
  have hbel4 := hbel3.trans (hb34.mono hbel3.size)
  have hH4 := hH3.below hb34 hH3.lt
  have hA34 := hA3.below hb34 (Nat.le_refl _)
  obtain ⟨gk, ck, rfl, hAk, -, -⟩ := hv.at_ HLK.out (by omega)
  clear hv hb4 hb34 hH3 hbn hbel3 hA3
  go_wp2_with (first
    | (refine wpList_load_rowG rfl 24 (.tmp 7) rfl w.heap.size rfl 24 cs hH4 _ Tryz.underlying24 rfl (by rw [info_head, HS6.out]) ?_))
  refine (HFL.out _).mono ?_
  rintro e w5 ⟨rfl, hb5⟩
  have hbel5 := hbel4.trans (hb5.mono hbel4.size)
  have hH5 := hH4.below hb5 hH4.lt
  have hA35 := hA34.below hb5 (Nat.le_refl _)
  have hAk5 := hAk.below hb5 (Nat.le_refl _)
  clear hb5 hH4 hA34 hAk hbel4
  go_wp2_with fail
  refine (HNF.out _ _ _ (HA2.out.below hbel5 (Nat.le_refl _))).mono ?_
  rintro e w6 ⟨⟨v, rfl, hv⟩, hb6⟩
  obtain ⟨g6, c6, rfl, hA6, -, -⟩ := hv.at_ HLF.out HF0.out
  have hbel6 := hbel5.trans (hb6.mono hbel5.size)
  have hH6 := hH5.below hb6 hH5.lt
  have hA36 := hA35.below hb6 (Nat.le_refl _)
  have hAk6 := hAk5.below hb6 (Nat.le_refl _)
  clear hv hb6 hH5 hA35 hAk5 hbel5
  go_wp2_with (first
    | (refine wpList_load_rowG rfl 24 (.tmp 7) rfl w.heap.size rfl 24 cs hH6 _ Tryz.underlying24 rfl (by rw [info_head, HS6.out]) ?_))
  refine (HWR.out _ _ _ _ _ _ w6 hA36 hAk6 hA6 (fun W hW => HT.out.below (hbel6.trans (hW.mono hbel6.size)))).mono ?_
  rintro e w7 ⟨rfl, hb7⟩
  have hbel7 := hbel6.trans (hb7.mono hbel6.size)
  have hH7 := hH6.below hb7 hH6.lt
  have hA37 := hA36.below hb7 (Nat.le_refl _)
  have hAk7 := hAk6.below hb7 (Nat.le_refl _)
  clear hb7 hH6 hA36 hAk6 hA6 hbel6
  go_wp2_with fail
  refine (HUN.out _ _ _ hA37 (HG.out.below hbel7 (Nat.le_refl _))).mono ?_
  rintro e w8 ⟨⟨v, rfl, hv⟩, hb8⟩
  obtain ⟨g8, c8, rfl, hA8, -, -⟩ := hv.at_ HLK.out (by omega)
  have hbel8 := hbel7.trans (hb8.mono hbel7.size)
  have hH8 := hH7.below hb8 hH7.lt
  have hA38 := hA37.below hb8 (Nat.le_refl _)
  have hAk8 := hAk7.below hb8 (Nat.le_refl _)
  clear hv hb8 hH7 hA37 hAk7 hbel7
  have hbn := (Below.refl w8.heap.size w8).alloc (Nat.le_refl _) (.cells #[.int .u8 0, .string ⟨#[]⟩, .int .u8 0, .int .u8 0, .string ⟨#[]⟩, .int .u8 0] 24)
  go_wp2_with (first
    | (refine wpList_store_all rfl 24 (.tmp 16) (.tmp 75) rfl w8.heap.size cs rfl rfl 24 #[.int .u8 0, .string ⟨#[]⟩, .int .u8 0, .int .u8 0, .string ⟨#[]⟩, .int .u8 0] (Blk.new w8 _ _) (by rw [info_head, HS6.out]) (by rw [HS6.out]; rfl) HCO.out ?_; intro w9 hX9 hO9; have hb9 := hO9.below hbn (Nat.le_refl _); have hH9 := hH8.below hb9 hH8.lt; have hA39 := hA38.below hb9 (Nat.le_refl _); have hAk9 := hAk8.below hb9 (Nat.le_refl _); have hA89 := hA8.below hb9 (Nat.le_refl _); have hbel9 : Below w.heap.size w w9 := hbel8.trans (hb9.mono hbel8.size))
    | (refine wpList_load_rowG rfl 24 (.tmp 16) rfl w8.heap.size rfl 24 cs hX9 _ Tryz.underlying24 rfl (by rw [info_head, HS6.out]) ?_)
    | (refine wpList_load_rowG rfl 24 (.tmp 7) rfl w.heap.size rfl 24 cs hH9 _ Tryz.underlying24 rfl (by rw [info_head, HS6.out]) ?_)
    | (refine wpList_eql_row rfl 24 24 (.tmp 85) (.tmp 86) rfl cs true rfl rfl (HEQ.out w9) (by unfold eqGuard; go_simp; done) ?_))
  refine (HSK.out _ _ _ _ _ hA89 hAk9).mono ?_
  rintro e wA ⟨rfl, n1, rfl⟩
  have hbelA := below_drewN hbel9 n1
  have hA3A : At (w9.drewN n1) (some ⟨g3, 0, none⟩) WN := hA39.below (below_drewN (Below.refl w9.heap.size w9) n1) (Nat.le_refl _)
  generalize w9.drewN n1 = wA at *
  clear hA39 hAk9 hA89 hbel9 hH9 hX9 hO9 hb9 hA8 hA38 hAk8 hbel8 hH8
  go_wp2_with fail
  refine (HW16.out _ _ _ (HA0.out.below hbelA (Nat.le_refl _))).mono ?_
  rintro e wB ⟨⟨v, rfl, hv⟩, hbB⟩
  obtain ⟨gB, cB, rfl, hAB, -, -⟩ := hv.at_ HLW.out (by omega)
  have hbelB := hbelA.trans (hbB.mono hbelA.size)
  have hA3B := hA3A.below hbB (Nat.le_refl _)
  clear hv hbB hbelA hA3A
  go_wp2_with fail
  refine (HSW.out _ _ _ _ _ hA3B hAB).mono ?_
  rintro e wC ⟨rfl, n2, rfl⟩
  have hbelC := below_drewN hbelB n2
  go_wp2
  go_ret
  exact ⟨rfl, hbelC⟩

set_option maxHeartbeats 2000000 in
set_option maxRecDepth 100000 in
theorem wrapback (w : World) (l : List Nat) (gl : ∀ x ∈ l, x < 256) (A0 : Option Addr) (c0 : Nat) (_hc0 : l.length ≤ c0) (_hl : l.length ≤ 140737488351232) (hA0 : At w A0 l) (n : Nat) (hn : n < 256) (h : Hd) (hu : h.usage.size ≤ 140737488351232) (hs : h.serial.size ≤ 140737488351232)
    (m : List Nat) (gm : ∀ x ∈ m, x < 256) (A1 : Option Addr) (c1 : Nat) (_hc1 : m.length ≤ c1) (_hm : m.length ≤ 140737488351232) (hA1 : At w A1 m) (r : List Nat) (gr : ∀ x ∈ r, x < 256) (A2 : Option Addr) (c2 : Nat) (_hc2 : r.length ≤ c2) (_hr : r.length ≤ 140737488351232) (hA2 : At w A2 r) (hG : EtOk w) (hT : TabOk w) :
    Calls Tryz.prog 3 #[.slice A0 l.length c0, .int .u8 n, .agg h.cells, .slice A1 m.length c1, .slice A2 r.length c2] w fun e w' => e = .returned (.bool true) ∧ Below w.heap.size w w' := by
  by_cases hall : l.length ≤ 100 ∧ m.length ≤ 100 ∧ r.length ≤ 100 ∧ rightEr h = .ok
  · obtain ⟨hl, hm, hr, hok⟩ := hall
    have hj : n % 3 = 0 ∨ n % 3 = 1 ∨ n % 3 = 2 := by omega
    have hi : n / 3 % 3 = 0 ∨ n / 3 % 3 = 1 ∨ n / 3 % 3 = 2 := by omega
    rcases hj with hj | hj | hj <;> rcases hi with hi | hi | hi
    · exact back11_c00 h hok l m r _ _ _ rfl rfl rfl gl gm gr hl hm hr A0 A1 A2 c0 c1 c2 n hj hi hn w hA0 hA1 hA2 hG hT
    · exact back11_c01 h hok l m r _ _ _ rfl rfl rfl gl gm gr hl hm hr A0 A1 A2 c0 c1 c2 n hj hi hn w hA0 hA1 hA2 hG hT
    · exact back11_c02 h hok l m r _ _ _ rfl rfl rfl gl gm gr hl hm hr A0 A1 A2 c0 c1 c2 n hj hi hn w hA0 hA1 hA2 hG hT
    · exact back11_c10 h hok l m r _ _ _ rfl rfl rfl gl gm gr hl hm hr A0 A1 A2 c0 c1 c2 n hj hi hn w hA0 hA1 hA2 hG hT
    · exact back11_c11 h hok l m r _ _ _ rfl rfl rfl gl gm gr hl hm hr A0 A1 A2 c0 c1 c2 n hj hi hn w hA0 hA1 hA2 hG hT
    · exact back11_c12 h hok l m r _ _ _ rfl rfl rfl gl gm gr hl hm hr A0 A1 A2 c0 c1 c2 n hj hi hn w hA0 hA1 hA2 hG hT
    · exact back11_c20 h hok l m r _ _ _ rfl rfl rfl gl gm gr hl hm hr A0 A1 A2 c0 c1 c2 n hj hi hn w hA0 hA1 hA2 hG hT
    · exact back11_c21 h hok l m r _ _ _ rfl rfl rfl gl gm gr hl hm hr A0 A1 A2 c0 c1 c2 n hj hi hn w hA0 hA1 hA2 hG hT
    · exact back11_c22 h hok l m r _ _ _ rfl rfl rfl gl gm gr hl hm hr A0 A1 A2 c0 c1 c2 n hj hi hn w hA0 hA1 hA2 hG hT
  · have HAW := Lib.hid (fun W (hb : Below w.heap.size w W) => awake11_any W (hG.below hb (Nat.le_refl _)) (fun W' hb' => (hT.below hb).below hb'))
    have HWG := Lib.hid (fun W => refWrong_any h hu hs W)
    have hcs6 : h.cells.size = 6 := rfl
    have hb0 : Below w.heap.size w (w.alloc (.cells h.cells 24)) := (Below.refl _ _).alloc (Nat.le_refl _) _
    have hB0 := Blk.new w 24 h.cells
    have t0 : 100 < l.length ∨ (l.length ≤ 100 ∧ 100 < m.length) ∨ (l.length ≤ 100 ∧ m.length ≤ 100 ∧ 100 < r.length) ∨ (l.length ≤ 100 ∧ m.length ≤ 100 ∧ r.length ≤ 100 ∧ ∃ k : Nat, erAt (rightEr h) = (k : Int)) := by
      rcases Nat.lt_or_ge 100 l.length with h0 | h0
      · exact .inl h0
      · rcases Nat.lt_or_ge 100 m.length with h1 | h1
        · exact .inr (.inl ⟨h0, h1⟩)
        · rcases Nat.lt_or_ge 100 r.length with h2 | h2
          · exact .inr (.inr (.inl ⟨h0, h1, h2⟩))
          · refine .inr (.inr (.inr ⟨h0, h1, h2, ?_⟩))
            rcases rightEr_cases h with hr | ⟨k, hr, -⟩
            · exact absurd ⟨h0, h1, h2, hr⟩ hall
            · exact ⟨k, by rw [hr]; rfl⟩
    generalize h.cells = cs at *
    generalize l.length = L0 at *
    generalize m.length = M0 at *
    generalize r.length = R0 at *
    generalize erAt (rightEr h) = z at *
    have HS6 := Lib.hid hcs6; clear hcs6
    have HB0 := Lib.hid hB0; clear hB0
    have H0 := Lib.hid hb0; clear hb0
    clear hA0 hA1 hA2 hall _hl _hm _hr _hc0 _hc1 _hc2 hu hs hG hT gl gm gr hn
    rcases t0 with t0 | ⟨t0, t1⟩ | ⟨t0, t1, t2⟩ | ⟨t0, t1, t2, k, rfl⟩
    · have h0 : 100 < (L0 : Int) := by omega
      go_enter Tryz.func3, Tryz.ntmps3
      go_wp2_with fail
      refine (HAW.out _ H0.out).mono ?_
      rintro e w1 ⟨rfl, hb1⟩
      have hb1 := H0.out.trans (hb1.mono H0.out.size)
      go_wp2_with fail
      refine (HAW.out _ hb1).mono ?_
      rintro e w2 ⟨rfl, hb2⟩
      have hb := hb1.trans (hb2.mono hb1.size)
      go_wp2
      go_ret
      exact ⟨rfl, hb⟩
    · have h0 : (L0 : Int) ≤ 100 := by omega
      have h1 : 100 < (M0 : Int) := by omega
      go_enter Tryz.func3, Tryz.ntmps3
      go_wp2_with fail
      refine (HAW.out _ H0.out).mono ?_
      rintro e w1 ⟨rfl, hb1⟩
      have hb1 := H0.out.trans (hb1.mono H0.out.size)
      go_wp2_with fail
      refine (HAW.out _ hb1).mono ?_
      rintro e w2 ⟨rfl, hb2⟩
      have hb := hb1.trans (hb2.mono hb1.size)
      go_wp2
      go_ret
      exact ⟨rfl, hb⟩
    · have h0 : (L0 : Int) ≤ 100 := by omega
      have h1 : (M0 : Int) ≤ 100 := by omega
      have h2 : 100 < (R0 : Int) := by omega
      go_enter Tryz.func3, Tryz.ntmps3
      go_wp2_with fail
      refine (HAW.out _ H0.out).mono ?_
      rintro e w1 ⟨rfl, hb1⟩
      have hb1 := H0.out.trans (hb1.mono H0.out.size)
      go_wp2_with fail
      refine (HAW.out _ hb1).mono ?_
      rintro e w2 ⟨rfl, hb2⟩
      have hb := hb1.trans (hb2.mono hb1.size)
      go_wp2
      go_ret
      exact ⟨rfl, hb⟩
    · have h0 : (L0 : Int) ≤ 100 := by omega
      have h1 : (M0 : Int) ≤ 100 := by omega
      have h2 : (R0 : Int) ≤ 100 := by omega
      have hk : (0 : Int) ≤ (k : Int) := by omega
      go_enter Tryz.func3, Tryz.ntmps3
      go_wp2_with fail
      refine (HAW.out _ H0.out).mono ?_
      rintro e w1 ⟨rfl, hb1⟩
      have hH1 := HB0.out.below hb1 HB0.out.lt
      have hb1 := H0.out.trans (hb1.mono H0.out.size)
      go_wp2_with (first
        | (refine wpList_load_rowG (by go_simp) 24 (.tmp 7) rfl w.heap.size rfl 24 cs hH1 _ Tryz.underlying24 rfl (by rw [info_head, HS6.out]) ?_))
      refine (HWG.out _).mono ?_
      rintro e w2 ⟨rfl, hb2⟩
      have hbel2 := hb1.trans (hb2.mono hb1.size)
      clear hb2 hH1
      go_wp2_with fail
      refine (HAW.out _ hbel2).mono ?_
      rintro e w3 ⟨rfl, hb3⟩
      have hb := hbel2.trans (hb3.mono hbel2.size)
      go_wp2
      go_ret
      exact ⟨rfl, hb⟩
end Go.Proofs.YtfkjkkjimdilcaaGreatDoor
