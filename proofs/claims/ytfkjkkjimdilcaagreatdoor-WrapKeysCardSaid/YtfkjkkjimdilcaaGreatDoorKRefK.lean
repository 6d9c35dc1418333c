/- The contracts of lockboxref11.Kind, Keys where there are keys. -/
import Derived.Test.YtfkjkkjimdilcaaGreatDoorKRefCm
import Derived.Test.YtfkjkkjimdilcaaGreatDoorKWrapAB
namespace Go.Proofs.YtfkjkkjimdilcaaGreatDoor
open Go Go.RowKit Pr

theorem refKind_any (v : Nat) (w : World) : Calls Tryz.prog 44 #[.int .u8 v] w fun e w' => e = .returned (.int .i64 (kindV v : Nat)) ∧ w = w' := by
  unfold kindV
  by_cases h1 : v = 66
  · subst h1
    go_enter Tryz.func44, Tryz.ntmps44
    go_wp2
    go_ret
    exact ⟨rfl, rfl⟩
  · have t1 : ((v : Int) == 66) = false := by rw [beq_eq_false_iff_ne]; omega
    rw [if_neg h1]
    by_cases h2 : v = 68
    · subst h2
      clear h1 t1
      go_enter Tryz.func44, Tryz.ntmps44
      go_wp2
      go_ret
      exact ⟨rfl, rfl⟩
    · have t2 : ((v : Int) == 68) = false := by rw [beq_eq_false_iff_ne]; omega
      rw [if_neg h2]
      clear h1 h2
      go_enter Tryz.func44, Tryz.ntmps44
      go_wp2
      go_ret
      exact ⟨rfl, rfl⟩
theorem OwnN.below2 {e : TypeId} {kd : IntKind} {w w' : World} {B C : Nat} {v : Value} {l : List Nat} (h : OwnN e kd w B v l) (hb : Below C w w') (hlt : ∀ g, v.ownBlock = some g → g < C) : OwnN e kd w' B v l := by
  rcases h with ⟨h1, h2⟩
  refine ⟨h1, ?_⟩
  rcases h2 with h2 | ⟨g, cap, cur, rfl, hg, hgb, r⟩
  · exact .inl h2
  · exact .inr ⟨g, cap, cur, rfl, hg, (hb.block g (hlt g rfl)).trans hgb, r⟩
theorem Blk.setc {w : World} {g : Nat} {t : TypeId} {a b : Value} (h : Blk w g t #[a, b]) (c : Value) : Blk (w.setCell ⟨g, 0, none⟩ c) g t #[c, b] ∧ Blk (w.setCell ⟨g, 1, none⟩ c) g t #[a, c] := ⟨h.set_ 0 c, h.set_ 1 c⟩

set_option maxHeartbeats 8000000 in
set_option maxRecDepth 100000 in
theorem refKeys2_16 (v : Nat) (hv : kindV v = 2) (key : List Nat) (hk : KeyOk 2 key) (hn : key.length = 16) (A : Option Addr) (ca : Nat) (hca : 16 ≤ ca) (w : World) (hA : At w A key) :
    Calls Tryz.prog 20 #[.int .u8 v, .slice A 16 ca] w fun e w' =>
      (∃ va vb, e = .returned (.tuple #[va, vb, .int .i64 0]) ∧ Own w' w.heap.size va (madeN 2 key 0) ∧ Own w' w.heap.size vb (madeN 2 key 1)) ∧ Below w.heap.size w w' := by
  have HKI := Lib.hid (fun W => refKind_any v W)
  rw [hv] at HKI
  clear hv
  have hs0 : ∀ j, madeTo 2 key 0 16 0 (j + 1) = madeTo 2 key 0 16 0 j ++ cmacN 2 key (blkI (j + 1) 0 0 16) := fun _ => rfl
  have h00 : madeTo 2 key 0 16 0 0 = [] := rfl
  have hto0 := fun j hj => madeTo_ok (kind := 2) hk.1 (s := 0) (n := 16) (p := 0) (by omega) (by omega) (by omega) j hj
  rw [size_2] at hto0
  have hf0 : madeN 2 key 0 = (madeTo 2 key 0 16 0 2).take 16 := by unfold madeN; rw [hn]; rfl
  generalize madeN 2 key 0 = R0 at *
  generalize madeTo 2 key 0 16 0 = TO0 at *
  have HS0 := Lib.hid hs0; clear hs0
  have H00 := Lib.hid h00; clear h00
  have HTO0 := Lib.hid hto0; clear hto0
  have HF0 := Lib.hid hf0; clear hf0
  have hs1 : ∀ j, madeTo 2 key 0 16 1 (j + 1) = madeTo 2 key 0 16 1 j ++ cmacN 2 key (blkI (j + 1) 1 0 16) := fun _ => rfl
  have h01 : madeTo 2 key 0 16 1 0 = [] := rfl
  have hto1 := fun j hj => madeTo_ok (kind := 2) hk.1 (s := 0) (n := 16) (p := 1) (by omega) (by omega) (by omega) j hj
  rw [size_2] at hto1
  have hf1 : madeN 2 key 1 = (madeTo 2 key 0 16 1 2).take 16 := by unfold madeN; rw [hn]; rfl
  generalize madeN 2 key 1 = R1 at *
  generalize madeTo 2 key 0 16 1 = TO1 at *
  have HS1 := Lib.hid hs1; clear hs1
  have H01 := Lib.hid h01; clear h01
  have HTO1 := Lib.hid hto1; clear hto1
  have HF1 := Lib.hid hf1; clear hf1
  have HKN := Lib.hid hn; clear hn
  have HAW := Lib.hid (fun W (hb : Below w.heap.size w W) => hA.below hb (Nat.le_refl _))
  clear hA
  have hB0 : Blk (w.alloc (.cells #[.slice none 0 0, .slice none 0 0] 82)) w.heap.size 82 #[.slice none 0 0, .slice none 0 0] := Blk.new w _ _
  have hb0 : Below w.heap.size w (w.alloc (.cells #[.slice none 0 0, .slice none 0 0] 82)) := (Below.refl _ _).alloc (Nat.le_refl _) _
  have HB0 := Lib.hid hB0; clear hB0
  have HBE0 := Lib.hid hb0; clear hb0
  go_enter Tryz.func20, Tryz.ntmps20
  go_wp2_with fail
  refine (HKI.out _).mono ?_
  rintro e w1 ⟨rfl, rfl⟩
  go_wp2
  go_loopw [11] (fun i wr => ∃ p : Nat, i = .int .i64 p ∧ Below w.heap.size w wr ∧ ((p = 0 ∧ Blk wr w.heap.size 82 #[.slice none 0 0, .slice none 0 0]) ∨ (p = 1 ∧ ∃ va, Blk wr w.heap.size 82 #[va, .slice none 0 0] ∧ OwnN 5 .u8 wr (w.heap.size + 1) va R0) ∨ (p = 2 ∧ ∃ va vb, Blk wr w.heap.size 82 #[va, vb] ∧ OwnN 5 .u8 wr (w.heap.size + 1) va R0 ∧ OwnN 5 .u8 wr (w.heap.size + 1) vb R1))) (fun i _ => 2 - (intOf i).toNat)
  case atStart => exact ⟨0, rfl, HBE0.out, .inl ⟨rfl, HB0.out⟩⟩
  case round =>
    obtain ⟨p, rfl, hbel, ⟨rfl, hB⟩ | ⟨rfl, va, hB, hVA⟩ | ⟨rfl, va, vb, hB, hVA, hVB⟩⟩ := hrel
    · rw [show ((0 : Nat) : Int) = 0 from rfl]
      obtain ⟨wm, rfl⟩ : ∃ wm, wm = wr := ⟨_, rfl⟩
      clear HB0 HBE0
      have hwm := hbel.size
      have hgm := hB.lt
      obtain ⟨wm2, hwm2⟩ : ∃ wm2, wm2 = wm.heap.size := ⟨_, rfl⟩
      rw [← hwm2] at hgm hwm
      have HWM := Lib.hid hwm2; clear hwm2
      have hst0 : ∃ j i1 : Nat, ∃ v : Value, j ≤ 2 ∧ (.int .i64 1 : Value) = .int .i64 i1 ∧ Hid (i1 = j + 1) ∧ i1 ≤ 4 ∧ Blk wm w.heap.size 82 #[v, .slice none 0 0] ∧ OwnN 5 .u8 wm wm2 v (TO0 j) ∧ Below w.heap.size w wm ∧ wm2 ≤ wm.heap.size :=
        ⟨0, 1, .slice none 0 0, by omega, rfl, rfl, by omega, hB, by rw [H00.out]; exact OwnN.nil _ _ _ _, hbel, by rw [HWM.out]; exact Nat.le_refl _⟩
      have HST0 := Lib.hid hst0; clear hst0 hB hbel
      go_wp2
      go_loopw [12] (fun i wv => ∃ j i1 : Nat, ∃ v : Value, j ≤ 2 ∧ i = .int .i64 i1 ∧ Hid (i1 = j + 1) ∧ i1 ≤ 4 ∧ Blk wv w.heap.size 82 #[v, .slice none 0 0] ∧ OwnN 5 .u8 wv wm2 v (TO0 j) ∧ Below w.heap.size w wv ∧ wm2 ≤ wv.heap.size) (fun i _ => 10 - (intOf i).toNat)
      case atStart => exact HST0.out
      case round =>
        obtain ⟨j, i1, v, hj, rfl, hi1, hi4, hB, hown, hbel, hsz⟩ := hrel
        have htl := (HTO0.out j (by omega)).1
        obtain ⟨A1, cap, rfl, hcap, hAt⟩ := OwnN.form hown
        rw [htl] at hown hcap hB
        have hcl0 : wr.cell? ⟨w.heap.size, 0, none⟩ = some (.slice A1 (8 * j) cap) := hB.cell 0
        by_cases hlt : j < 2
        · have hqn : ((8 * j : Nat) : Int) < 16 := by omega
          obtain ⟨Q, hQ⟩ : ∃ Q, 8 * j = Q := ⟨_, rfl⟩
          rw [hQ] at hqn hown hcap hB hcl0 htl
          have hQ64 : Q ≤ 64 := by omega
          have hst := HS0.out j
          rw [← hi1.out] at hst
          have hi1b : i1 < 256 := by omega
          have hbb : Byt (blkI i1 0 0 16) := blkI_byt hi1b (by omega) (by omega) (by omega)
          have hCM := Lib.hid (fun A' ct W hA hT => refCmac_any 2 key hk 16 ca HKN.out hca A none none 0 0 0 0 (blkI i1 0 0 16) 8 rfl (by omega) (by omega) hbb A' ct W hA hT)
          have hcl := (cmacN_ok (kind := 2) hk.1 hbb).1
          rw [size_2] at hcl hCM
          have hB5 := Blk.new wr 5 (byteCells (blkI i1 0 0 16))
          have hbk : byteCells (blkI i1 0 0 16) = #[.int .u8 (i1 : Int), .int .u8 0, .int .u8 0, .int .u8 0, .int .u8 0, .int .u8 0, .int .u8 0, .int .u8 128] := rfl
          rw [hbk] at hB5
          have hb5 := (Below.refl wr.heap.size wr).alloc (Nat.le_refl _) (.cells #[.int .u8 (i1 : Int), .int .u8 0, .int .u8 0, .int .u8 0, .int .u8 0, .int .u8 0, .int .u8 0, .int .u8 128] 5)
          have hA5 : At (wr.alloc (.cells #[.int .u8 (i1 : Int), .int .u8 0, .int .u8 0, .int .u8 0, .int .u8 0, .int .u8 0, .int .u8 0, .int .u8 128] 5)) (some ⟨wr.heap.size, 0, none⟩) (blkI i1 0 0 16) := fun _ => ⟨_, _, rfl, Bs.ofBlk hB5⟩
          have hx5 := hbel.trans (hb5.mono hbel.size)
          have hs5 : wr.heap.size < (wr.alloc (.cells #[.int .u8 (i1 : Int), .int .u8 0, .int .u8 0, .int .u8 0, .int .u8 0, .int .u8 0, .int .u8 0, .int .u8 128] 5)).heap.size := by rw [World.size_alloc]; omega
          have HA5 := Lib.hid hA5
          have HB5 := Lib.hid hb5
          have HX5 := Lib.hid hx5
          clear hB5 hbk hA5 hb5 hx5 hbb hAt
          generalize cmacN 2 key (blkI i1 0 0 16) = X at *
          have HST := Lib.hid hst; clear hst
          have HXL := Lib.hid hcl; clear hcl
          have HQ := Lib.hid hQ; clear hQ
          have HTLL := Lib.hid htl; clear htl
          go_wp2_with fail
          generalize wr.alloc (.cells #[.int .u8 (i1 : Int), .int .u8 0, .int .u8 0, .int .u8 0, .int .u8 0, .int .u8 0, .int .u8 0, .int .u8 128] 5) = w5 at *
          refine (hCM.out _ _ _ (HAW.out _ HX5.out) HA5.out).mono ?_
          rintro e w6 ⟨⟨gv, ov, cv, rfl, hgv, hBv⟩, hb6⟩
          have hb56 := HB5.out.trans (hb6.mono (by omega))
          have hB6 := hB.below hb56 hB.lt
          have hown6 := OwnN.below hown hb56 (Nat.le_refl _)
          skip
          have hbel6 := hbel.trans (hb56.mono hbel.size)
          have hs6 := hb56.size
          have hgvl := hBv.lt (ne_nil HXL.out (by omega))
          have hne6 : (Value.slice A1 Q cap).ownBlock ≠ some gv := fun e => by have := (World.ownsRow.lt hown _ e).2; omega
          clear hB hown hbel hb6 hb56 HA5 HB5 HX5 hcl0
          go_wp2_with (first
            | (refine wpList_store_all rfl 85 (.tmp 13) (.tmp 75) rfl w6.heap.size #[.slice none 0 0, .slice none 0 0] rfl rfl 85 #[.slice none 0 0, .slice none 0 0] (Blk.new w6 _ _) (by rw [info_book]; rfl) rfl (by simp [Value.oneCell']) ?_; intro w8 hB8 hO8; have hbx := hO8.below ((Below.refl w6.heap.size w6).alloc (Nat.le_refl _) (.cells #[.slice none 0 0, .slice none 0 0] 85)) (Nat.le_refl _); have hBo := hB6.below hbx hB6.lt; have hown8 := OwnN.below hown6 hbx (Nat.le_refl _); have hbel8 := hbel6.trans (hbx.mono hbel6.size); have hBv8 := hBv.below hbx hgvl; have hs8 := hbx.size; have hc8 : w8.cell? ⟨w.heap.size, 0, none⟩ = some (.slice A1 Q cap) := hBo.cell 0; clear hB6 hown6 hbel6 hBv hbx hB8 hO8)
            | (at_builtin; refine wpList_append_w rfl (.tmp 81) (.tmp 82) rfl wm2 w8 _ (TO0 j) rfl (by have h := hown8; rw [← HTLL.out] at h; rw [← HTLL.out]; exact h) (Below.refl _ _) (by omega) gv ov 8 cv X rfl HXL.out hBv8 (by rw [HTLL.out]; omega) ?_; intro v7 w9 hown9 hb9 hgr9 hat9; (have hl7 : (TO0 j ++ X).length = Q + 8 := by rw [List.length_append, HTLL.out, HXL.out]); obtain ⟨g7, c7, rfl, -, -, -⟩ := Own.at_ (OwnN.bytes hown9) hl7 (by omega); clear hl7 hat9; have hB9 := hBo.below hb9 hgm; have hc9 : w9.cell? ⟨w.heap.size, 0, none⟩ = some (.slice A1 Q cap) := hB9.cell 0; have hf9 : w9.frozen? ⟨w.heap.size, 0, none⟩ = false := hB9.frozen 0))
          have hk9 : Keep w.heap.size w9 (w9.setCell ⟨w.heap.size, 0, none⟩ (.slice (some ⟨g7, 0, none⟩) (Q + 8) c7)) := (Keep.refl _ _).setCell 0 (.slice (some ⟨g7, 0, none⟩) (Q + 8) c7)
          have hB10 := (hB9.setc (.slice (some ⟨g7, 0, none⟩) (Q + 8) c7)).1
          rw [← HST.out] at hown9
          have hown10 := OwnN.keepW hown9 hk9 (fun e => by have := (World.ownsRow.lt hown9 _ e).1; omega)
          skip
          have hbel10 := hk9.below (hbel8.trans (hb9.mono (by omega))) (by have := hb9.size; omega) (Nat.le_refl _)
          have hs10 : wm2 ≤ (w9.setCell ⟨w.heap.size, 0, none⟩ (.slice (some ⟨g7, 0, none⟩) (Q + 8) c7)).heap.size := by have := hk9.size; have := hb9.size; omega
          have hi2 : i1 + 1 = j + 1 + 1 := by rw [hi1.out]
          have HI2 := Lib.hid hi2; clear hi2
          rw [hi1.out] at hown10
          have HB10 := Lib.hid hB10
          have HO10 := Lib.hid hown10
          have HBEL10 := Lib.hid hbel10
          skip
          have hi4' : i1 + 1 ≤ 4 := by have := hi1.out; omega
          clear hB10 hown10 hbel10 hown9 hb9 hgr9 hB9 hc9 hf9 hBo hown8 hbel8 hBv8 hk9
          go_roundw
          case rel => exact ⟨j + 1, i1 + 1, (.slice (some ⟨g7, 0, none⟩) (Q + 8) c7), by omega, by go_num, HI2.out, hi4', HB10.out, HO10.out, HBEL10.out, hs10⟩
          case measure => have := hi1.out; simp [intOf]; omega
        · obtain rfl : j = 2 := by omega
          have hl2 : (TO0 2).length = 16 := by rw [htl]
          rw [show 8 * 2 = 16 from rfl] at hown hcap hB hcl0
          obtain ⟨gx, cx, e', hgx, hgxl, hBx⟩ := Own.addr (OwnN.bytes hown) (ne_nil hl2 (by omega))
          injection e' with e1' e2' e3'
          subst e1'
          have hown' : Own wr wm2 (.slice (some ⟨gx, 0, none⟩) 16 cap) (TO0 2) := hown
          have hpre := Own.pre hown' 16 (by rw [hl2]; decide)
          rw [← HF0.out] at hpre
          have hfr : wr.frozen? ⟨w.heap.size, 0, none⟩ = false := hB.frozen 0
          have hk9 : Keep w.heap.size wr (wr.setCell ⟨w.heap.size, 0, none⟩ (.slice (some ⟨gx, 0, none⟩) 16 cap)) := (Keep.refl _ _).setCell 0 _
          have hpre2 : OwnN 5 .u8 wr wm2 (.slice (some ⟨gx, 0, none⟩) 16 cap) R0 := hpre
          have hpre3 := OwnN.more (C := w.heap.size + 1) (OwnN.keepW hpre2 hk9 (fun e => by have := (World.ownsRow.lt hpre2 _ e).1; omega)) (by omega)
          skip
          have hB3 := (hB.setc (.slice (some ⟨gx, 0, none⟩) 16 cap)).1
          have hbel3 := hk9.below hbel hbel.size (Nat.le_refl _)
          have hnc : (16 : Int) ≤ (cap : Int) := by omega
          have HP3 := Lib.hid hpre3
          have HB3 := Lib.hid hB3
          have HBEL3 := Lib.hid hbel3
          skip
          clear e2' e3' hBx hown hown' hpre hpre2 hpre3 hB3 hbel3 hk9 hB hbel hAt htl hl2
          go_wp2
          go_roundw
          case rel => exact ⟨1, by go_num, HBEL3.out, .inr (.inl ⟨rfl, _, HB3.out, HP3.out⟩)⟩
          case measure => simp [intOf]
    · rw [show ((1 : Nat) : Int) = 1 from rfl]
      obtain ⟨wm, rfl⟩ : ∃ wm, wm = wr := ⟨_, rfl⟩
      clear HB0 HBE0
      have hwm := hbel.size
      have hgm := hB.lt
      have hvalt : ∀ g, va.ownBlock = some g → g < wm.heap.size := fun g h => (World.ownsRow.lt hVA g h).2
      obtain ⟨wm2, hwm2⟩ : ∃ wm2, wm2 = wm.heap.size := ⟨_, rfl⟩
      rw [← hwm2] at hgm hwm hvalt
      have HWM := Lib.hid hwm2; clear hwm2
      have hst0 : ∃ j i1 : Nat, ∃ v : Value, j ≤ 2 ∧ (.int .i64 1 : Value) = .int .i64 i1 ∧ Hid (i1 = j + 1) ∧ i1 ≤ 4 ∧ Blk wm w.heap.size 82 #[va, v] ∧ OwnN 5 .u8 wm wm2 v (TO1 j) ∧ OwnN 5 .u8 wm (w.heap.size + 1) va R0 ∧ Below w.heap.size w wm ∧ wm2 ≤ wm.heap.size :=
        ⟨0, 1, .slice none 0 0, by omega, rfl, rfl, by omega, hB, by rw [H01.out]; exact OwnN.nil _ _ _ _, hVA, hbel, by rw [HWM.out]; exact Nat.le_refl _⟩
      have HST0 := Lib.hid hst0; clear hst0 hB hbel hVA
      go_wp2
      go_loopw [12] (fun i wv => ∃ j i1 : Nat, ∃ v : Value, j ≤ 2 ∧ i = .int .i64 i1 ∧ Hid (i1 = j + 1) ∧ i1 ≤ 4 ∧ Blk wv w.heap.size 82 #[va, v] ∧ OwnN 5 .u8 wv wm2 v (TO1 j) ∧ OwnN 5 .u8 wv (w.heap.size + 1) va R0 ∧ Below w.heap.size w wv ∧ wm2 ≤ wv.heap.size) (fun i _ => 10 - (intOf i).toNat)
      case atStart => exact HST0.out
      case round =>
        obtain ⟨j, i1, v, hj, rfl, hi1, hi4, hB, hown, hVA, hbel, hsz⟩ := hrel
        have htl := (HTO1.out j (by omega)).1
        obtain ⟨A1, cap, rfl, hcap, hAt⟩ := OwnN.form hown
        rw [htl] at hown hcap hB
        have hcl0 : wr.cell? ⟨w.heap.size, 1, none⟩ = some (.slice A1 (8 * j) cap) := hB.cell 1
        by_cases hlt : j < 2
        · have hqn : ((8 * j : Nat) : Int) < 16 := by omega
          obtain ⟨Q, hQ⟩ : ∃ Q, 8 * j = Q := ⟨_, rfl⟩
          rw [hQ] at hqn hown hcap hB hcl0 htl
          have hQ64 : Q ≤ 64 := by omega
          have hst := HS1.out j
          rw [← hi1.out] at hst
          have hi1b : i1 < 256 := by omega
          have hbb : Byt (blkI i1 1 0 16) := blkI_byt hi1b (by omega) (by omega) (by omega)
          have hCM := Lib.hid (fun A' ct W hA hT => refCmac_any 2 key hk 16 ca HKN.out hca A none none 0 0 0 0 (blkI i1 1 0 16) 8 rfl (by omega) (by omega) hbb A' ct W hA hT)
          have hcl := (cmacN_ok (kind := 2) hk.1 hbb).1
          rw [size_2] at hcl hCM
          have hB5 := Blk.new wr 5 (byteCells (blkI i1 1 0 16))
          have hbk : byteCells (blkI i1 1 0 16) = #[.int .u8 (i1 : Int), .int .u8 0, .int .u8 1, .int .u8 0, .int .u8 0, .int .u8 0, .int .u8 0, .int .u8 128] := rfl
          rw [hbk] at hB5
          have hb5 := (Below.refl wr.heap.size wr).alloc (Nat.le_refl _) (.cells #[.int .u8 (i1 : Int), .int .u8 0, .int .u8 1, .int .u8 0, .int .u8 0, .int .u8 0, .int .u8 0, .int .u8 128] 5)
          have hA5 : At (wr.alloc (.cells #[.int .u8 (i1 : Int), .int .u8 0, .int .u8 1, .int .u8 0, .int .u8 0, .int .u8 0, .int .u8 0, .int .u8 128] 5)) (some ⟨wr.heap.size, 0, none⟩) (blkI i1 1 0 16) := fun _ => ⟨_, _, rfl, Bs.ofBlk hB5⟩
          have hx5 := hbel.trans (hb5.mono hbel.size)
          have hs5 : wr.heap.size < (wr.alloc (.cells #[.int .u8 (i1 : Int), .int .u8 0, .int .u8 1, .int .u8 0, .int .u8 0, .int .u8 0, .int .u8 0, .int .u8 128] 5)).heap.size := by rw [World.size_alloc]; omega
          have HA5 := Lib.hid hA5
          have HB5 := Lib.hid hb5
          have HX5 := Lib.hid hx5
          clear hB5 hbk hA5 hb5 hx5 hbb hAt
          generalize cmacN 2 key (blkI i1 1 0 16) = X at *
          have HST := Lib.hid hst; clear hst
          have HXL := Lib.hid hcl; clear hcl
          have HQ := Lib.hid hQ; clear hQ
          have HTLL := Lib.hid htl; clear htl
          go_wp2_with fail
          generalize wr.alloc (.cells #[.int .u8 (i1 : Int), .int .u8 0, .int .u8 1, .int .u8 0, .int .u8 0, .int .u8 0, .int .u8 0, .int .u8 128] 5) = w5 at *
          refine (hCM.out _ _ _ (HAW.out _ HX5.out) HA5.out).mono ?_
          rintro e w6 ⟨⟨gv, ov, cv, rfl, hgv, hBv⟩, hb6⟩
          have hb56 := HB5.out.trans (hb6.mono (by omega))
          have hB6 := hB.below hb56 hB.lt
          have hown6 := OwnN.below hown hb56 (Nat.le_refl _)
          have hVA6 := OwnN.below hVA hb56 (Nat.le_refl _)
          have hbel6 := hbel.trans (hb56.mono hbel.size)
          have hs6 := hb56.size
          have hgvl := hBv.lt (ne_nil HXL.out (by omega))
          have hne6 : (Value.slice A1 Q cap).ownBlock ≠ some gv := fun e => by have := (World.ownsRow.lt hown _ e).2; omega
          clear hB hown hbel hb6 hb56 HA5 HB5 HX5 hcl0 hVA
          go_wp2_with (first
            | (refine wpList_store_all rfl 85 (.tmp 13) (.tmp 75) rfl w6.heap.size #[.slice none 0 0, .slice none 0 0] rfl rfl 85 #[.slice none 0 0, .slice none 0 0] (Blk.new w6 _ _) (by rw [info_book]; rfl) rfl (by simp [Value.oneCell']) ?_; intro w8 hB8 hO8; have hbx := hO8.below ((Below.refl w6.heap.size w6).alloc (Nat.le_refl _) (.cells #[.slice none 0 0, .slice none 0 0] 85)) (Nat.le_refl _); have hBo := hB6.below hbx hB6.lt; have hown8 := OwnN.below hown6 hbx (Nat.le_refl _); have hVA8 := OwnN.below hVA6 hbx (Nat.le_refl _); have hbel8 := hbel6.trans (hbx.mono hbel6.size); have hBv8 := hBv.below hbx hgvl; have hs8 := hbx.size; have hc8 : w8.cell? ⟨w.heap.size, 1, none⟩ = some (.slice A1 Q cap) := hBo.cell 1; clear hB6 hown6 hbel6 hBv hbx hB8 hO8 hVA6)
            | (at_builtin; refine wpList_append_w rfl (.tmp 81) (.tmp 82) rfl wm2 w8 _ (TO1 j) rfl (by have h := hown8; rw [← HTLL.out] at h; rw [← HTLL.out]; exact h) (Below.refl _ _) (by omega) gv ov 8 cv X rfl HXL.out hBv8 (by rw [HTLL.out]; omega) ?_; intro v7 w9 hown9 hb9 hgr9 hat9; (have hl7 : (TO1 j ++ X).length = Q + 8 := by rw [List.length_append, HTLL.out, HXL.out]); obtain ⟨g7, c7, rfl, -, -, -⟩ := Own.at_ (OwnN.bytes hown9) hl7 (by omega); clear hl7 hat9; have hB9 := hBo.below hb9 hgm; have hc9 : w9.cell? ⟨w.heap.size, 1, none⟩ = some (.slice A1 Q cap) := hB9.cell 1; have hf9 : w9.frozen? ⟨w.heap.size, 1, none⟩ = false := hB9.frozen 1))
          have hk9 : Keep w.heap.size w9 (w9.setCell ⟨w.heap.size, 1, none⟩ (.slice (some ⟨g7, 0, none⟩) (Q + 8) c7)) := (Keep.refl _ _).setCell 1 (.slice (some ⟨g7, 0, none⟩) (Q + 8) c7)
          have hB10 := (hB9.setc (.slice (some ⟨g7, 0, none⟩) (Q + 8) c7)).2
          rw [← HST.out] at hown9
          have hown10 := OwnN.keepW hown9 hk9 (fun e => by have := (World.ownsRow.lt hown9 _ e).1; omega)
          have hVA10 := OwnN.keepW (OwnN.below2 hVA8 hb9 hvalt) hk9 (fun e => by have := (World.ownsRow.lt hVA8 _ e).1; omega)
          have hbel10 := hk9.below (hbel8.trans (hb9.mono (by omega))) (by have := hb9.size; omega) (Nat.le_refl _)
          have hs10 : wm2 ≤ (w9.setCell ⟨w.heap.size, 1, none⟩ (.slice (some ⟨g7, 0, none⟩) (Q + 8) c7)).heap.size := by have := hk9.size; have := hb9.size; omega
          have hi2 : i1 + 1 = j + 1 + 1 := by rw [hi1.out]
          have HI2 := Lib.hid hi2; clear hi2
          rw [hi1.out] at hown10
          have HB10 := Lib.hid hB10
          have HO10 := Lib.hid hown10
          have HBEL10 := Lib.hid hbel10
          have HVA10 := Lib.hid hVA10
          have hi4' : i1 + 1 ≤ 4 := by have := hi1.out; omega
          clear hB10 hown10 hbel10 hown9 hb9 hgr9 hB9 hc9 hf9 hBo hown8 hbel8 hBv8 hk9 hVA10 hVA8
          go_roundw
          case rel => exact ⟨j + 1, i1 + 1, (.slice (some ⟨g7, 0, none⟩) (Q + 8) c7), by omega, by go_num, HI2.out, hi4', HB10.out, HO10.out, HVA10.out, HBEL10.out, hs10⟩
          case measure => have := hi1.out; simp [intOf]; omega
        · obtain rfl : j = 2 := by omega
          have hl2 : (TO1 2).length = 16 := by rw [htl]
          rw [show 8 * 2 = 16 from rfl] at hown hcap hB hcl0
          obtain ⟨gx, cx, e', hgx, hgxl, hBx⟩ := Own.addr (OwnN.bytes hown) (ne_nil hl2 (by omega))
          injection e' with e1' e2' e3'
          subst e1'
          have hown' : Own wr wm2 (.slice (some ⟨gx, 0, none⟩) 16 cap) (TO1 2) := hown
          have hpre := Own.pre hown' 16 (by rw [hl2]; decide)
          rw [← HF1.out] at hpre
          have hfr : wr.frozen? ⟨w.heap.size, 1, none⟩ = false := hB.frozen 1
          have hk9 : Keep w.heap.size wr (wr.setCell ⟨w.heap.size, 1, none⟩ (.slice (some ⟨gx, 0, none⟩) 16 cap)) := (Keep.refl _ _).setCell 1 _
          have hpre2 : OwnN 5 .u8 wr wm2 (.slice (some ⟨gx, 0, none⟩) 16 cap) R1 := hpre
          have hpre3 := OwnN.more (C := w.heap.size + 1) (OwnN.keepW hpre2 hk9 (fun e => by have := (World.ownsRow.lt hpre2 _ e).1; omega)) (by omega)
          have hVA3 := OwnN.keepW hVA hk9 (fun e => by have := (World.ownsRow.lt hVA _ e).1; omega)
          have hB3 := (hB.setc (.slice (some ⟨gx, 0, none⟩) 16 cap)).2
          have hbel3 := hk9.below hbel hbel.size (Nat.le_refl _)
          have hnc : (16 : Int) ≤ (cap : Int) := by omega
          have HP3 := Lib.hid hpre3
          have HB3 := Lib.hid hB3
          have HBEL3 := Lib.hid hbel3
          have HVA3 := Lib.hid hVA3
          clear e2' e3' hBx hown hown' hpre hpre2 hpre3 hB3 hbel3 hk9 hB hbel hAt htl hl2 hVA hVA3
          go_wp2
          go_roundw
          case rel => exact ⟨2, by go_num, HBEL3.out, .inr (.inr ⟨rfl, _, _, HB3.out, HVA3.out, HP3.out⟩)⟩
          case measure => simp [intOf]
    · rw [show ((2 : Nat) : Int) = 2 from rfl]
      have hd0 : wr.drew.cell? ⟨w.heap.size, 0, none⟩ = some va := hB.cell 0
      have hd1 : wr.drew.cell? ⟨w.heap.size, 1, none⟩ = some vb := hB.cell 1
      have hc0 : ∀ m, (wr.drewN m).cell? ⟨w.heap.size, 0, none⟩ = some va := fun m => hB.cell 0
      have hc1 : ∀ m, (wr.drewN m).cell? ⟨w.heap.size, 1, none⟩ = some vb := fun m => hB.cell 1
      clear HB0 HBE0
      go_wp2_with fail
      go_quiet (fail)
      have hfa : Own (wr.drewN nq) w.heap.size va R0 := OwnN.more (C := w.heap.size) (OwnN.below hVA (below_drewN (Below.refl wr.heap.size wr) nq) (Nat.le_refl _)) (by omega)
      have hfb : Own (wr.drewN nq) w.heap.size vb R1 := OwnN.more (C := w.heap.size) (OwnN.below hVB (below_drewN (Below.refl wr.heap.size wr) nq) (Nat.le_refl _)) (by omega)
      have hbf := below_drewN hbel nq
      clear hd0 hd1 hc0 hc1 hB hVA hVB hbel
      go_wp2
      go_ret3
      exact ⟨⟨va, vb, rfl, hfa, hfb⟩, hbf⟩

set_option maxHeartbeats 8000000 in
set_option maxRecDepth 100000 in
theorem refKeys2_24 (v : Nat) (hv : kindV v = 2) (key : List Nat) (hk : KeyOk 2 key) (hn : key.length = 24) (A : Option Addr) (ca : Nat) (hca : 24 ≤ ca) (w : World) (hA : At w A key) :
    Calls Tryz.prog 20 #[.int .u8 v, .slice A 24 ca] w fun e w' =>
      (∃ va vb, e = .returned (.tuple #[va, vb, .int .i64 0]) ∧ Own w' w.heap.size va (madeN 2 key 0) ∧ Own w' w.heap.size vb (madeN 2 key 1)) ∧ Below w.heap.size w w' := by
  have HKI := Lib.hid (fun W => refKind_any v W)
  rw [hv] at HKI
  clear hv
  have hs0 : ∀ j, madeTo 2 key 1 24 0 (j + 1) = madeTo 2 key 1 24 0 j ++ cmacN 2 key (blkI (j + 1) 0 1 24) := fun _ => rfl
  have h00 : madeTo 2 key 1 24 0 0 = [] := rfl
  have hto0 := fun j hj => madeTo_ok (kind := 2) hk.1 (s := 1) (n := 24) (p := 0) (by omega) (by omega) (by omega) j hj
  rw [size_2] at hto0
  have hf0 : madeN 2 key 0 = (madeTo 2 key 1 24 0 3).take 24 := by unfold madeN; rw [hn]; rfl
  generalize madeN 2 key 0 = R0 at *
  generalize madeTo 2 key 1 24 0 = TO0 at *
  have HS0 := Lib.hid hs0; clear hs0
  have H00 := Lib.hid h00; clear h00
  have HTO0 := Lib.hid hto0; clear hto0
  have HF0 := Lib.hid hf0; clear hf0
  have hs1 : ∀ j, madeTo 2 key 1 24 1 (j + 1) = madeTo 2 key 1 24 1 j ++ cmacN 2 key (blkI (j + 1) 1 1 24) := fun _ => rfl
  have h01 : madeTo 2 key 1 24 1 0 = [] := rfl
  have hto1 := fun j hj => madeTo_ok (kind := 2) hk.1 (s := 1) (n := 24) (p := 1) (by omega) (by omega) (by omega) j hj
  rw [size_2] at hto1
  have hf1 : madeN 2 key 1 = (madeTo 2 key 1 24 1 3).take 24 := by unfold madeN; rw [hn]; rfl
  generalize madeN 2 key 1 = R1 at *
  generalize madeTo 2 key 1 24 1 = TO1 at *
  have HS1 := Lib.hid hs1; clear hs1
  have H01 := Lib.hid h01; clear h01
  have HTO1 := Lib.hid hto1; clear hto1
  have HF1 := Lib.hid hf1; clear hf1
  have HKN := Lib.hid hn; clear hn
  have HAW := Lib.hid (fun W (hb : Below w.heap.size w W) => hA.below hb (Nat.le_refl _))
  clear hA
  have hB0 : Blk (w.alloc (.cells #[.slice none 0 0, .slice none 0 0] 82)) w.heap.size 82 #[.slice none 0 0, .slice none 0 0] := Blk.new w _ _
  have hb0 : Below w.heap.size w (w.alloc (.cells #[.slice none 0 0, .slice none 0 0] 82)) := (Below.refl _ _).alloc (Nat.le_refl _) _
  have HB0 := Lib.hid hB0; clear hB0
  have HBE0 := Lib.hid hb0; clear hb0
  go_enter Tryz.func20, Tryz.ntmps20
  go_wp2_with fail
  refine (HKI.out _).mono ?_
  rintro e w1 ⟨rfl, rfl⟩
  go_wp2
  go_loopw [11] (fun i wr => ∃ p : Nat, i = .int .i64 p ∧ Below w.heap.size w wr ∧ ((p = 0 ∧ Blk wr w.heap.size 82 #[.slice none 0 0, .slice none 0 0]) ∨ (p = 1 ∧ ∃ va, Blk wr w.heap.size 82 #[va, .slice none 0 0] ∧ OwnN 5 .u8 wr (w.heap.size + 1) va R0) ∨ (p = 2 ∧ ∃ va vb, Blk wr w.heap.size 82 #[va, vb] ∧ OwnN 5 .u8 wr (w.heap.size + 1) va R0 ∧ OwnN 5 .u8 wr (w.heap.size + 1) vb R1))) (fun i _ => 2 - (intOf i).toNat)
  case atStart => exact ⟨0, rfl, HBE0.out, .inl ⟨rfl, HB0.out⟩⟩
  case round =>
    obtain ⟨p, rfl, hbel, ⟨rfl, hB⟩ | ⟨rfl, va, hB, hVA⟩ | ⟨rfl, va, vb, hB, hVA, hVB⟩⟩ := hrel
    · rw [show ((0 : Nat) : Int) = 0 from rfl]
      obtain ⟨wm, rfl⟩ : ∃ wm, wm = wr := ⟨_, rfl⟩
      clear HB0 HBE0
      have hwm := hbel.size
      have hgm := hB.lt
      obtain ⟨wm2, hwm2⟩ : ∃ wm2, wm2 = wm.heap.size := ⟨_, rfl⟩
      rw [← hwm2] at hgm hwm
      have HWM := Lib.hid hwm2; clear hwm2
      have hst0 : ∃ j i1 : Nat, ∃ v : Value, j ≤ 3 ∧ (.int .i64 1 : Value) = .int .i64 i1 ∧ Hid (i1 = j + 1) ∧ i1 ≤ 4 ∧ Blk wm w.heap.size 82 #[v, .slice none 0 0] ∧ OwnN 5 .u8 wm wm2 v (TO0 j) ∧ Below w.heap.size w wm ∧ wm2 ≤ wm.heap.size :=
        ⟨0, 1, .slice none 0 0, by omega, rfl, rfl, by omega, hB, by rw [H00.out]; exact OwnN.nil _ _ _ _, hbel, by rw [HWM.out]; exact Nat.le_refl _⟩
      have HST0 := Lib.hid hst0; clear hst0 hB hbel
      go_wp2
      go_loopw [12] (fun i wv => ∃ j i1 : Nat, ∃ v : Value, j ≤ 3 ∧ i = .int .i64 i1 ∧ Hid (i1 = j + 1) ∧ i1 ≤ 4 ∧ Blk wv w.heap.size 82 #[v, .slice none 0 0] ∧ OwnN 5 .u8 wv wm2 v (TO0 j) ∧ Below w.heap.size w wv ∧ wm2 ≤ wv.heap.size) (fun i _ => 10 - (intOf i).toNat)
      case atStart => exact HST0.out
      case round =>
        obtain ⟨j, i1, v, hj, rfl, hi1, hi4, hB, hown, hbel, hsz⟩ := hrel
        have htl := (HTO0.out j (by omega)).1
        obtain ⟨A1, cap, rfl, hcap, hAt⟩ := OwnN.form hown
        rw [htl] at hown hcap hB
        have hcl0 : wr.cell? ⟨w.heap.size, 0, none⟩ = some (.slice A1 (8 * j) cap) := hB.cell 0
        by_cases hlt : j < 3
        · have hqn : ((8 * j : Nat) : Int) < 24 := by omega
          obtain ⟨Q, hQ⟩ : ∃ Q, 8 * j = Q := ⟨_, rfl⟩
          rw [hQ] at hqn hown hcap hB hcl0 htl
          have hQ64 : Q ≤ 64 := by omega
          have hst := HS0.out j
          rw [← hi1.out] at hst
          have hi1b : i1 < 256 := by omega
          have hbb : Byt (blkI i1 0 1 24) := blkI_byt hi1b (by omega) (by omega) (by omega)
          have hCM := Lib.hid (fun A' ct W hA hT => refCmac_any 2 key hk 24 ca HKN.out hca A none none 0 0 0 0 (blkI i1 0 1 24) 8 rfl (by omega) (by omega) hbb A' ct W hA hT)
          have hcl := (cmacN_ok (kind := 2) hk.1 hbb).1
          rw [size_2] at hcl hCM
          have hB5 := Blk.new wr 5 (byteCells (blkI i1 0 1 24))
          have hbk : byteCells (blkI i1 0 1 24) = #[.int .u8 (i1 : Int), .int .u8 0, .int .u8 0, .int .u8 0, .int .u8 0, .int .u8 1, .int .u8 0, .int .u8 192] := rfl
          rw [hbk] at hB5
          have hb5 := (Below.refl wr.heap.size wr).alloc (Nat.le_refl _) (.cells #[.int .u8 (i1 : Int), .int .u8 0, .int .u8 0, .int .u8 0, .int .u8 0, .int .u8 1, .int .u8 0, .int .u8 192] 5)
          have hA5 : At (wr.alloc (.cells #[.int .u8 (i1 : Int), .int .u8 0, .int .u8 0, .int .u8 0, .int .u8 0, .int .u8 1, .int .u8 0, .int .u8 192] 5)) (some ⟨wr.heap.size, 0, none⟩) (blkI i1 0 1 24) := fun _ => ⟨_, _, rfl, Bs.ofBlk hB5⟩
          have hx5 := hbel.trans (hb5.mono hbel.size)
          have hs5 : wr.heap.size < (wr.alloc (.cells #[.int .u8 (i1 : Int), .int .u8 0, .int .u8 0, .int .u8 0, .int .u8 0, .int .u8 1, .int .u8 0, .int .u8 192] 5)).heap.size := by rw [World.size_alloc]; omega
          have HA5 := Lib.hid hA5
          have HB5 := Lib.hid hb5
          have HX5 := Lib.hid hx5
          clear hB5 hbk hA5 hb5 hx5 hbb hAt
          generalize cmacN 2 key (blkI i1 0 1 24) = X at *
          have HST := Lib.hid hst; clear hst
          have HXL := Lib.hid hcl; clear hcl
          have HQ := Lib.hid hQ; clear hQ
          have HTLL := Lib.hid htl; clear htl
          go_wp2_with fail
          generalize wr.alloc (.cells #[.int .u8 (i1 : Int), .int .u8 0, .int .u8 0, .int .u8 0, .int .u8 0, .int .u8 1, .int .u8 0, .int .u8 192] 5) = w5 at *
          refine (hCM.out _ _ _ (HAW.out _ HX5.out) HA5.out).mono ?_
          rintro e w6 ⟨⟨gv, ov, cv, rfl, hgv, hBv⟩, hb6⟩
          have hb56 := HB5.out.trans (hb6.mono (by omega))
          have hB6 := hB.below hb56 hB.lt
          have hown6 := OwnN.below hown hb56 (Nat.le_refl _)
          skip
          have hbel6 := hbel.trans (hb56.mono hbel.size)
          have hs6 := hb56.size
          have hgvl := hBv.lt (ne_nil HXL.out (by omega))
          have hne6 : (Value.slice A1 Q cap).ownBlock ≠ some gv := fun e => by have := (World.ownsRow.lt hown _ e).2; omega
          clear hB hown hbel hb6 hb56 HA5 HB5 HX5 hcl0
          go_wp2_with (first
            | (refine wpList_store_all rfl 85 (.tmp 13) (.tmp 75) rfl w6.heap.size #[.slice none 0 0, .slice none 0 0] rfl rfl 85 #[.slice none 0 0, .slice none 0 0] (Blk.new w6 _ _) (by rw [info_book]; rfl) rfl (by simp [Value.oneCell']) ?_; intro w8 hB8 hO8; have hbx := hO8.below ((Below.refl w6.heap.size w6).alloc (Nat.le_refl _) (.cells #[.slice none 0 0, .slice none 0 0] 85)) (Nat.le_refl _); have hBo := hB6.below hbx hB6.lt; have hown8 := OwnN.below hown6 hbx (Nat.le_refl _); have hbel8 := hbel6.trans (hbx.mono hbel6.size); have hBv8 := hBv.below hbx hgvl; have hs8 := hbx.size; have hc8 : w8.cell? ⟨w.heap.size, 0, none⟩ = some (.slice A1 Q cap) := hBo.cell 0; clear hB6 hown6 hbel6 hBv hbx hB8 hO8)
            | (at_builtin; refine wpList_append_w rfl (.tmp 81) (.tmp 82) rfl wm2 w8 _ (TO0 j) rfl (by have h := hown8; rw [← HTLL.out] at h; rw [← HTLL.out]; exact h) (Below.refl _ _) (by omega) gv ov 8 cv X rfl HXL.out hBv8 (by rw [HTLL.out]; omega) ?_; intro v7 w9 hown9 hb9 hgr9 hat9; (have hl7 : (TO0 j ++ X).length = Q + 8 := by rw [List.length_append, HTLL.out, HXL.out]); obtain ⟨g7, c7, rfl, -, -, -⟩ := Own.at_ (OwnN.bytes hown9) hl7 (by omega); clear hl7 hat9; have hB9 := hBo.below hb9 hgm; have hc9 : w9.cell? ⟨w.heap.size, 0, none⟩ = some (.slice A1 Q cap) := hB9.cell 0; have hf9 : w9.frozen? ⟨w.heap.size, 0, none⟩ = false := hB9.frozen 0))
          have hk9 : Keep w.heap.size w9 (w9.setCell ⟨w.heap.size, 0, none⟩ (.slice (some ⟨g7, 0, none⟩) (Q + 8) c7)) := (Keep.refl _ _).setCell 0 (.slice (some ⟨g7, 0, none⟩) (Q + 8) c7)
          have hB10 := (hB9.setc (.slice (some ⟨g7, 0, none⟩) (Q + 8) c7)).1
          rw [← HST.out] at hown9
          have hown10 := OwnN.keepW hown9 hk9 (fun e => by have := (World.ownsRow.lt hown9 _ e).1; omega)
          skip
          have hbel10 := hk9.below (hbel8.trans (hb9.mono (by omega))) (by have := hb9.size; omega) (Nat.le_refl _)
          have hs10 : wm2 ≤ (w9.setCell ⟨w.heap.size, 0, none⟩ (.slice (some ⟨g7, 0, none⟩) (Q + 8) c7)).heap.size := by have := hk9.size; have := hb9.size; omega
          have hi2 : i1 + 1 = j + 1 + 1 := by rw [hi1.out]
          have HI2 := Lib.hid hi2; clear hi2
          rw [hi1.out] at hown10
          have HB10 := Lib.hid hB10
          have HO10 := Lib.hid hown10
          have HBEL10 := Lib.hid hbel10
          skip
          have hi4' : i1 + 1 ≤ 4 := by have := hi1.out; omega
          clear hB10 hown10 hbel10 hown9 hb9 hgr9 hB9 hc9 hf9 hBo hown8 hbel8 hBv8 hk9
          go_roundw
          case rel => exact ⟨j + 1, i1 + 1, (.slice (some ⟨g7, 0, none⟩) (Q + 8) c7), by omega, by go_num, HI2.out, hi4', HB10.out, HO10.out, HBEL10.out, hs10⟩
          case measure => have := hi1.out; simp [intOf]; omega
        · obtain rfl : j = 3 := by omega
          have hl3 : (TO0 3).length = 24 := by rw [htl]
          rw [show 8 * 3 = 24 from rfl] at hown hcap hB hcl0
          obtain ⟨gx, cx, e', hgx, hgxl, hBx⟩ := Own.addr (OwnN.bytes hown) (ne_nil hl3 (by omega))
          injection e' with e1' e2' e3'
          subst e1'
          have hown' : Own wr wm2 (.slice (some ⟨gx, 0, none⟩) 24 cap) (TO0 3) := hown
          have hpre := Own.pre hown' 24 (by rw [hl3]; decide)
          rw [← HF0.out] at hpre
          have hfr : wr.frozen? ⟨w.heap.size, 0, none⟩ = false := hB.frozen 0
          have hk9 : Keep w.heap.size wr (wr.setCell ⟨w.heap.size, 0, none⟩ (.slice (some ⟨gx, 0, none⟩) 24 cap)) := (Keep.refl _ _).setCell 0 _
          have hpre2 : OwnN 5 .u8 wr wm2 (.slice (some ⟨gx, 0, none⟩) 24 cap) R0 := hpre
          have hpre3 := OwnN.more (C := w.heap.size + 1) (OwnN.keepW hpre2 hk9 (fun e => by have := (World.ownsRow.lt hpre2 _ e).1; omega)) (by omega)
          skip
          have hB3 := (hB.setc (.slice (some ⟨gx, 0, none⟩) 24 cap)).1
          have hbel3 := hk9.below hbel hbel.size (Nat.le_refl _)
          have hnc : (24 : Int) ≤ (cap : Int) := by omega
          have HP3 := Lib.hid hpre3
          have HB3 := Lib.hid hB3
          have HBEL3 := Lib.hid hbel3
          skip
          clear e2' e3' hBx hown hown' hpre hpre2 hpre3 hB3 hbel3 hk9 hB hbel hAt htl hl3
          go_wp2
          go_roundw
          case rel => exact ⟨1, by go_num, HBEL3.out, .inr (.inl ⟨rfl, _, HB3.out, HP3.out⟩)⟩
          case measure => simp [intOf]
    · rw [show ((1 : Nat) : Int) = 1 from rfl]
      obtain ⟨wm, rfl⟩ : ∃ wm, wm = wr := ⟨_, rfl⟩
      clear HB0 HBE0
      have hwm := hbel.size
      have hgm := hB.lt
      have hvalt : ∀ g, va.ownBlock = some g → g < wm.heap.size := fun g h => (World.ownsRow.lt hVA g h).2
      obtain ⟨wm2, hwm2⟩ : ∃ wm2, wm2 = wm.heap.size := ⟨_, rfl⟩
      rw [← hwm2] at hgm hwm hvalt
      have HWM := Lib.hid hwm2; clear hwm2
      have hst0 : ∃ j i1 : Nat, ∃ v : Value, j ≤ 3 ∧ (.int .i64 1 : Value) = .int .i64 i1 ∧ Hid (i1 = j + 1) ∧ i1 ≤ 4 ∧ Blk wm w.heap.size 82 #[va, v] ∧ OwnN 5 .u8 wm wm2 v (TO1 j) ∧ OwnN 5 .u8 wm (w.heap.size + 1) va R0 ∧ Below w.heap.size w wm ∧ wm2 ≤ wm.heap.size :=
        ⟨0, 1, .slice none 0 0, by omega, rfl, rfl, by omega, hB, by rw [H01.out]; exact OwnN.nil _ _ _ _, hVA, hbel, by rw [HWM.out]; exact Nat.le_refl _⟩
      have HST0 := Lib.hid hst0; clear hst0 hB hbel hVA
      go_wp2
      go_loopw [12] (fun i wv => ∃ j i1 : Nat, ∃ v : Value, j ≤ 3 ∧ i = .int .i64 i1 ∧ Hid (i1 = j + 1) ∧ i1 ≤ 4 ∧ Blk wv w.heap.size 82 #[va, v] ∧ OwnN 5 .u8 wv wm2 v (TO1 j) ∧ OwnN 5 .u8 wv (w.heap.size + 1) va R0 ∧ Below w.heap.size w wv ∧ wm2 ≤ wv.heap.size) (fun i _ => 10 - (intOf i).toNat)
      case atStart => exact HST0.out
      case round =>
        obtain ⟨j, i1, v, hj, rfl, hi1, hi4, hB, hown, hVA, hbel, hsz⟩ := hrel
        have htl := (HTO1.out j (by omega)).1
        obtain ⟨A1, cap, rfl, hcap, hAt⟩ := OwnN.form hown
        rw [htl] at hown hcap hB
        have hcl0 : wr.cell? ⟨w.heap.size, 1, none⟩ = some (.slice A1 (8 * j) cap) := hB.cell 1
        by_cases hlt : j < 3
        · have hqn : ((8 * j : Nat) : Int) < 24 := by omega
          obtain ⟨Q, hQ⟩ : ∃ Q, 8 * j = Q := ⟨_, rfl⟩
          rw [hQ] at hqn hown hcap hB hcl0 htl
          have hQ64 : Q ≤ 64 := by omega
          have hst := HS1.out j
          rw [← hi1.out] at hst
          have hi1b : i1 < 256 := by omega
          have hbb : Byt (blkI i1 1 1 24) := blkI_byt hi1b (by omega) (by omega) (by omega)
          have hCM := Lib.hid (fun A' ct W hA hT => refCmac_any 2 key hk 24 ca HKN.out hca A none none 0 0 0 0 (blkI i1 1 1 24) 8 rfl (by omega) (by omega) hbb A' ct W hA hT)
          have hcl := (cmacN_ok (kind := 2) hk.1 hbb).1
          rw [size_2] at hcl hCM
          have hB5 := Blk.new wr 5 (byteCells (blkI i1 1 1 24))
          have hbk : byteCells (blkI i1 1 1 24) = #[.int .u8 (i1 : Int), .int .u8 0, .int .u8 1, .int .u8 0, .int .u8 0, .int .u8 1, .int .u8 0, .int .u8 192] := rfl
          rw [hbk] at hB5
          have hb5 := (Below.refl wr.heap.size wr).alloc (Nat.le_refl _) (.cells #[.int .u8 (i1 : Int), .int .u8 0, .int .u8 1, .int .u8 0, .int .u8 0, .int .u8 1, .int .u8 0, .int .u8 192] 5)
          have hA5 : At (wr.alloc (.cells #[.int .u8 (i1 : Int), .int .u8 0, .int .u8 1, .int .u8 0, .int .u8 0, .int .u8 1, .int .u8 0, .int .u8 192] 5)) (some ⟨wr.heap.size, 0, none⟩) (blkI i1 1 1 24) := fun _ => ⟨_, _, rfl, Bs.ofBlk hB5⟩
          have hx5 := hbel.trans (hb5.mono hbel.size)
          have hs5 : wr.heap.size < (wr.alloc (.cells #[.int .u8 (i1 : Int), .int .u8 0, .int .u8 1, .int .u8 0, .int .u8 0, .int .u8 1, .int .u8 0, .int .u8 192] 5)).heap.size := by rw [World.size_alloc]; omega
          have HA5 := Lib.hid hA5
          have HB5 := Lib.hid hb5
          have HX5 := Lib.hid hx5
          clear hB5 hbk hA5 hb5 hx5 hbb hAt
          generalize cmacN 2 key (blkI i1 1 1 24) = X at *
          have HST := Lib.hid hst; clear hst
          have HXL := Lib.hid hcl; clear hcl
          have HQ := Lib.hid hQ; clear hQ
          have HTLL := Lib.hid htl; clear htl
          go_wp2_with fail
          generalize wr.alloc (.cells #[.int .u8 (i1 : Int), .int .u8 0, .int .u8 1, .int .u8 0, .int .u8 0, .int .u8 1, .int .u8 0, .int .u8 192] 5) = w5 at *
          refine (hCM.out _ _ _ (HAW.out _ HX5.out) HA5.out).mono ?_
          rintro e w6 ⟨⟨gv, ov, cv, rfl, hgv, hBv⟩, hb6⟩
          have hb56 := HB5.out.trans (hb6.mono (by omega))
          have hB6 := hB.below hb56 hB.lt
          have hown6 := OwnN.below hown hb56 (Nat.le_refl _)
          have hVA6 := OwnN.below hVA hb56 (Nat.le_refl _)
          have hbel6 := hbel.trans (hb56.mono hbel.size)
          have hs6 := hb56.size
          have hgvl := hBv.lt (ne_nil HXL.out (by omega))
          have hne6 : (Value.slice A1 Q cap).ownBlock ≠ some gv := fun e => by have := (World.ownsRow.lt hown _ e).2; omega
          clear hB hown hbel hb6 hb56 HA5 HB5 HX5 hcl0 hVA
          go_wp2_with (first
            | (refine wpList_store_all rfl 85 (.tmp 13) (.tmp 75) rfl w6.heap.size #[.slice none 0 0, .slice none 0 0] rfl rfl 85 #[.slice none 0 0, .slice none 0 0] (Blk.new w6 _ _) (by rw [info_book]; rfl) rfl (by simp [Value.oneCell']) ?_; intro w8 hB8 hO8; have hbx := hO8.below ((Below.refl w6.heap.size w6).alloc (Nat.le_refl _) (.cells #[.slice none 0 0, .slice none 0 0] 85)) (Nat.le_refl _); have hBo := hB6.below hbx hB6.lt; have hown8 := OwnN.below hown6 hbx (Nat.le_refl _); have hVA8 := OwnN.below hVA6 hbx (Nat.le_refl _); have hbel8 := hbel6.trans (hbx.mono hbel6.size); have hBv8 := hBv.below hbx hgvl; have hs8 := hbx.size; have hc8 : w8.cell? ⟨w.heap.size, 1, none⟩ = some (.slice A1 Q cap) := hBo.cell 1; clear hB6 hown6 hbel6 hBv hbx hB8 hO8 hVA6)
            | (at_builtin; refine wpList_append_w rfl (.tmp 81) (.tmp 82) rfl wm2 w8 _ (TO1 j) rfl (by have h := hown8; rw [← HTLL.out] at h; rw [← HTLL.out]; exact h) (Below.refl _ _) (by omega) gv ov 8 cv X rfl HXL.out hBv8 (by rw [HTLL.out]; omega) ?_; intro v7 w9 hown9 hb9 hgr9 hat9; (have hl7 : (TO1 j ++ X).length = Q + 8 := by rw [List.length_append, HTLL.out, HXL.out]); obtain ⟨g7, c7, rfl, -, -, -⟩ := Own.at_ (OwnN.bytes hown9) hl7 (by omega); clear hl7 hat9; have hB9 := hBo.below hb9 hgm; have hc9 : w9.cell? ⟨w.heap.size, 1, none⟩ = some (.slice A1 Q cap) := hB9.cell 1; have hf9 : w9.frozen? ⟨w.heap.size, 1, none⟩ = false := hB9.frozen 1))
          have hk9 : Keep w.heap.size w9 (w9.setCell ⟨w.heap.size, 1, none⟩ (.slice (some ⟨g7, 0, none⟩) (Q + 8) c7)) := (Keep.refl _ _).setCell 1 (.slice (some ⟨g7, 0, none⟩) (Q + 8) c7)
          have hB10 := (hB9.setc (.slice (some ⟨g7, 0, none⟩) (Q + 8) c7)).2
          rw [← HST.out] at hown9
          have hown10 := OwnN.keepW hown9 hk9 (fun e => by have := (World.ownsRow.lt hown9 _ e).1; omega)
          have hVA10 := OwnN.keepW (OwnN.below2 hVA8 hb9 hvalt) hk9 (fun e => by have := (World.ownsRow.lt hVA8 _ e).1; omega)
          have hbel10 := hk9.below (hbel8.trans (hb9.mono (by omega))) (by have := hb9.size; omega) (Nat.le_refl _)
          have hs10 : wm2 ≤ (w9.setCell ⟨w.heap.size, 1, none⟩ (.slice (some ⟨g7, 0, none⟩) (Q + 8) c7)).heap.size := by have := hk9.size; have := hb9.size; omega
          have hi2 : i1 + 1 = j + 1 + 1 := by rw [hi1.out]
          have HI2 := Lib.hid hi2; clear hi2
          rw [hi1.out] at hown10
          have HB10 := Lib.hid hB10
          have HO10 := Lib.hid hown10
          have HBEL10 := Lib.hid hbel10
          have HVA10 := Lib.hid hVA10
          have hi4' : i1 + 1 ≤ 4 := by have := hi1.out; omega
          clear hB10 hown10 hbel10 hown9 hb9 hgr9 hB9 hc9 hf9 hBo hown8 hbel8 hBv8 hk9 hVA10 hVA8
          go_roundw
          case rel => exact ⟨j + 1, i1 + 1, (.slice (some ⟨g7, 0, none⟩) (Q + 8) c7), by omega, by go_num, HI2.out, hi4', HB10.out, HO10.out, HVA10.out, HBEL10.out, hs10⟩
          case measure => have := hi1.out; simp [intOf]; omega
        · obtain rfl : j = 3 := by omega
          have hl3 : (TO1 3).length = 24 := by rw [htl]
          rw [show 8 * 3 = 24 from rfl] at hown hcap hB hcl0
          obtain ⟨gx, cx, e', hgx, hgxl, hBx⟩ := Own.addr (OwnN.bytes hown) (ne_nil hl3 (by omega))
          injection e' with e1' e2' e3'
          subst e1'
          have hown' : Own wr wm2 (.slice (some ⟨gx, 0, none⟩) 24 cap) (TO1 3) := hown
          have hpre := Own.pre hown' 24 (by rw [hl3]; decide)
          rw [← HF1.out] at hpre
          have hfr : wr.frozen? ⟨w.heap.size, 1, none⟩ = false := hB.frozen 1
          have hk9 : Keep w.heap.size wr (wr.setCell ⟨w.heap.size, 1, none⟩ (.slice (some ⟨gx, 0, none⟩) 24 cap)) := (Keep.refl _ _).setCell 1 _
          have hpre2 : OwnN 5 .u8 wr wm2 (.slice (some ⟨gx, 0, none⟩) 24 cap) R1 := hpre
          have hpre3 := OwnN.more (C := w.heap.size + 1) (OwnN.keepW hpre2 hk9 (fun e => by have := (World.ownsRow.lt hpre2 _ e).1; omega)) (by omega)
          have hVA3 := OwnN.keepW hVA hk9 (fun e => by have := (World.ownsRow.lt hVA _ e).1; omega)
          have hB3 := (hB.setc (.slice (some ⟨gx, 0, none⟩) 24 cap)).2
          have hbel3 := hk9.below hbel hbel.size (Nat.le_refl _)
          have hnc : (24 : Int) ≤ (cap : Int) := by omega
          have HP3 := Lib.hid hpre3
          have HB3 := Lib.hid hB3
          have HBEL3 := Lib.hid hbel3
          have HVA3 := Lib.hid hVA3
          clear e2' e3' hBx hown hown' hpre hpre2 hpre3 hB3 hbel3 hk9 hB hbel hAt htl hl3 hVA hVA3
          go_wp2
          go_roundw
          case rel => exact ⟨2, by go_num, HBEL3.out, .inr (.inr ⟨rfl, _, _, HB3.out, HVA3.out, HP3.out⟩)⟩
          case measure => simp [intOf]
    · rw [show ((2 : Nat) : Int) = 2 from rfl]
      have hd0 : wr.drew.cell? ⟨w.heap.size, 0, none⟩ = some va := hB.cell 0
      have hd1 : wr.drew.cell? ⟨w.heap.size, 1, none⟩ = some vb := hB.cell 1
      have hc0 : ∀ m, (wr.drewN m).cell? ⟨w.heap.size, 0, none⟩ = some va := fun m => hB.cell 0
      have hc1 : ∀ m, (wr.drewN m).cell? ⟨w.heap.size, 1, none⟩ = some vb := fun m => hB.cell 1
      clear HB0 HBE0
      go_wp2_with fail
      go_quiet (fail)
      have hfa : Own (wr.drewN nq) w.heap.size va R0 := OwnN.more (C := w.heap.size) (OwnN.below hVA (below_drewN (Below.refl wr.heap.size wr) nq) (Nat.le_refl _)) (by omega)
      have hfb : Own (wr.drewN nq) w.heap.size vb R1 := OwnN.more (C := w.heap.size) (OwnN.below hVB (below_drewN (Below.refl wr.heap.size wr) nq) (Nat.le_refl _)) (by omega)
      have hbf := below_drewN hbel nq
      clear hd0 hd1 hc0 hc1 hB hVA hVB hbel
      go_wp2
      go_ret3
      exact ⟨⟨va, vb, rfl, hfa, hfb⟩, hbf⟩

set_option maxHeartbeats 8000000 in
set_option maxRecDepth 100000 in
theorem refKeys1_16 (v : Nat) (hv : kindV v = 1) (key : List Nat) (hk : KeyOk 1 key) (hn : key.length = 16) (A : Option Addr) (ca : Nat) (hca : 16 ≤ ca) (w : World) (hA : At w A key) :
    Calls Tryz.prog 20 #[.int .u8 v, .slice A 16 ca] w fun e w' =>
      (∃ va vb, e = .returned (.tuple #[va, vb, .int .i64 0]) ∧ Own w' w.heap.size va (madeN 1 key 0) ∧ Own w' w.heap.size vb (madeN 1 key 1)) ∧ Below w.heap.size w w' := by
  have HKI := Lib.hid (fun W => refKind_any v W)
  rw [hv] at HKI
  clear hv
  have hs0 : ∀ j, madeTo 1 key 2 16 0 (j + 1) = madeTo 1 key 2 16 0 j ++ cmacN 1 key (blkI (j + 1) 0 2 16) := fun _ => rfl
  have h00 : madeTo 1 key 2 16 0 0 = [] := rfl
  have hto0 := fun j hj => madeTo_ok (kind := 1) hk.1 (s := 2) (n := 16) (p := 0) (by omega) (by omega) (by omega) j hj
  rw [size_1] at hto0
  have hf0 : madeN 1 key 0 = (madeTo 1 key 2 16 0 1).take 16 := by unfold madeN; rw [hn]; rfl
  generalize madeN 1 key 0 = R0 at *
  generalize madeTo 1 key 2 16 0 = TO0 at *
  have HS0 := Lib.hid hs0; clear hs0
  have H00 := Lib.hid h00; clear h00
  have HTO0 := Lib.hid hto0; clear hto0
  have HF0 := Lib.hid hf0; clear hf0
  have hs1 : ∀ j, madeTo 1 key 2 16 1 (j + 1) = madeTo 1 key 2 16 1 j ++ cmacN 1 key (blkI (j + 1) 1 2 16) := fun _ => rfl
  have h01 : madeTo 1 key 2 16 1 0 = [] := rfl
  have hto1 := fun j hj => madeTo_ok (kind := 1) hk.1 (s := 2) (n := 16) (p := 1) (by omega) (by omega) (by omega) j hj
  rw [size_1] at hto1
  have hf1 : madeN 1 key 1 = (madeTo 1 key 2 16 1 1).take 16 := by unfold madeN; rw [hn]; rfl
  generalize madeN 1 key 1 = R1 at *
  generalize madeTo 1 key 2 16 1 = TO1 at *
  have HS1 := Lib.hid hs1; clear hs1
  have H01 := Lib.hid h01; clear h01
  have HTO1 := Lib.hid hto1; clear hto1
  have HF1 := Lib.hid hf1; clear hf1
  have HKN := Lib.hid hn; clear hn
  have HAW := Lib.hid (fun W (hb : Below w.heap.size w W) => hA.below hb (Nat.le_refl _))
  clear hA
  have hB0 : Blk (w.alloc (.cells #[.slice none 0 0, .slice none 0 0] 82)) w.heap.size 82 #[.slice none 0 0, .slice none 0 0] := Blk.new w _ _
  have hb0 : Below w.heap.size w (w.alloc (.cells #[.slice none 0 0, .slice none 0 0] 82)) := (Below.refl _ _).alloc (Nat.le_refl _) _
  have HB0 := Lib.hid hB0; clear hB0
  have HBE0 := Lib.hid hb0; clear hb0
  go_enter Tryz.func20, Tryz.ntmps20
  go_wp2_with fail
  refine (HKI.out _).mono ?_
  rintro e w1 ⟨rfl, rfl⟩
  go_wp2
  go_loopw [11] (fun i wr => ∃ p : Nat, i = .int .i64 p ∧ Below w.heap.size w wr ∧ ((p = 0 ∧ Blk wr w.heap.size 82 #[.slice none 0 0, .slice none 0 0]) ∨ (p = 1 ∧ ∃ va, Blk wr w.heap.size 82 #[va, .slice none 0 0] ∧ OwnN 5 .u8 wr (w.heap.size + 1) va R0) ∨ (p = 2 ∧ ∃ va vb, Blk wr w.heap.size 82 #[va, vb] ∧ OwnN 5 .u8 wr (w.heap.size + 1) va R0 ∧ OwnN 5 .u8 wr (w.heap.size + 1) vb R1))) (fun i _ => 2 - (intOf i).toNat)
  case atStart => exact ⟨0, rfl, HBE0.out, .inl ⟨rfl, HB0.out⟩⟩
  case round =>
    obtain ⟨p, rfl, hbel, ⟨rfl, hB⟩ | ⟨rfl, va, hB, hVA⟩ | ⟨rfl, va, vb, hB, hVA, hVB⟩⟩ := hrel
    · rw [show ((0 : Nat) : Int) = 0 from rfl]
      obtain ⟨wm, rfl⟩ : ∃ wm, wm = wr := ⟨_, rfl⟩
      clear HB0 HBE0
      have hwm := hbel.size
      have hgm := hB.lt
      obtain ⟨wm2, hwm2⟩ : ∃ wm2, wm2 = wm.heap.size := ⟨_, rfl⟩
      rw [← hwm2] at hgm hwm
      have HWM := Lib.hid hwm2; clear hwm2
      have hst0 : ∃ j i1 : Nat, ∃ v : Value, j ≤ 1 ∧ (.int .i64 1 : Value) = .int .i64 i1 ∧ Hid (i1 = j + 1) ∧ i1 ≤ 4 ∧ Blk wm w.heap.size 82 #[v, .slice none 0 0] ∧ OwnN 5 .u8 wm wm2 v (TO0 j) ∧ Below w.heap.size w wm ∧ wm2 ≤ wm.heap.size :=
        ⟨0, 1, .slice none 0 0, by omega, rfl, rfl, by omega, hB, by rw [H00.out]; exact OwnN.nil _ _ _ _, hbel, by rw [HWM.out]; exact Nat.le_refl _⟩
      have HST0 := Lib.hid hst0; clear hst0 hB hbel
      go_wp2
      go_loopw [12] (fun i wv => ∃ j i1 : Nat, ∃ v : Value, j ≤ 1 ∧ i = .int .i64 i1 ∧ Hid (i1 = j + 1) ∧ i1 ≤ 4 ∧ Blk wv w.heap.size 82 #[v, .slice none 0 0] ∧ OwnN 5 .u8 wv wm2 v (TO0 j) ∧ Below w.heap.size w wv ∧ wm2 ≤ wv.heap.size) (fun i _ => 10 - (intOf i).toNat)
      case atStart => exact HST0.out
      case round =>
        obtain ⟨j, i1, v, hj, rfl, hi1, hi4, hB, hown, hbel, hsz⟩ := hrel
        have htl := (HTO0.out j (by omega)).1
        obtain ⟨A1, cap, rfl, hcap, hAt⟩ := OwnN.form hown
        rw [htl] at hown hcap hB
        have hcl0 : wr.cell? ⟨w.heap.size, 0, none⟩ = some (.slice A1 (16 * j) cap) := hB.cell 0
        by_cases hlt : j < 1
        · have hqn : ((16 * j : Nat) : Int) < 16 := by omega
          obtain ⟨Q, hQ⟩ : ∃ Q, 16 * j = Q := ⟨_, rfl⟩
          rw [hQ] at hqn hown hcap hB hcl0 htl
          have hQ64 : Q ≤ 64 := by omega
          have hst := HS0.out j
          rw [← hi1.out] at hst
          have hi1b : i1 < 256 := by omega
          have hbb : Byt (blkI i1 0 2 16) := blkI_byt hi1b (by omega) (by omega) (by omega)
          have hCM := Lib.hid (fun A' ct W hA hT => refCmac_any 1 key hk 16 ca HKN.out hca A none none 0 0 0 0 (blkI i1 0 2 16) 8 rfl (by omega) (by omega) hbb A' ct W hA hT)
          have hcl := (cmacN_ok (kind := 1) hk.1 hbb).1
          rw [size_1] at hcl hCM
          have hB5 := Blk.new wr 5 (byteCells (blkI i1 0 2 16))
          have hbk : byteCells (blkI i1 0 2 16) = #[.int .u8 (i1 : Int), .int .u8 0, .int .u8 0, .int .u8 0, .int .u8 0, .int .u8 2, .int .u8 0, .int .u8 128] := rfl
          rw [hbk] at hB5
          have hb5 := (Below.refl wr.heap.size wr).alloc (Nat.le_refl _) (.cells #[.int .u8 (i1 : Int), .int .u8 0, .int .u8 0, .int .u8 0, .int .u8 0, .int .u8 2, .int .u8 0, .int .u8 128] 5)
          have hA5 : At (wr.alloc (.cells #[.int .u8 (i1 : Int), .int .u8 0, .int .u8 0, .int .u8 0, .int .u8 0, .int .u8 2, .int .u8 0, .int .u8 128] 5)) (some ⟨wr.heap.size, 0, none⟩) (blkI i1 0 2 16) := fun _ => ⟨_, _, rfl, Bs.ofBlk hB5⟩
          have hx5 := hbel.trans (hb5.mono hbel.size)
          have hs5 : wr.heap.size < (wr.alloc (.cells #[.int .u8 (i1 : Int), .int .u8 0, .int .u8 0, .int .u8 0, .int .u8 0, .int .u8 2, .int .u8 0, .int .u8 128] 5)).heap.size := by rw [World.size_alloc]; omega
          have HA5 := Lib.hid hA5
          have HB5 := Lib.hid hb5
          have HX5 := Lib.hid hx5
          clear hB5 hbk hA5 hb5 hx5 hbb hAt
          generalize cmacN 1 key (blkI i1 0 2 16) = X at *
          have HST := Lib.hid hst; clear hst
          have HXL := Lib.hid hcl; clear hcl
          have HQ := Lib.hid hQ; clear hQ
          have HTLL := Lib.hid htl; clear htl
          go_wp2_with fail
          generalize wr.alloc (.cells #[.int .u8 (i1 : Int), .int .u8 0, .int .u8 0, .int .u8 0, .int .u8 0, .int .u8 2, .int .u8 0, .int .u8 128] 5) = w5 at *
          refine (hCM.out _ _ _ (HAW.out _ HX5.out) HA5.out).mono ?_
          rintro e w6 ⟨⟨gv, ov, cv, rfl, hgv, hBv⟩, hb6⟩
          have hb56 := HB5.out.trans (hb6.mono (by omega))
          have hB6 := hB.below hb56 hB.lt
          have hown6 := OwnN.below hown hb56 (Nat.le_refl _)
          skip
          have hbel6 := hbel.trans (hb56.mono hbel.size)
          have hs6 := hb56.size
          have hgvl := hBv.lt (ne_nil HXL.out (by omega))
          have hne6 : (Value.slice A1 Q cap).ownBlock ≠ some gv := fun e => by have := (World.ownsRow.lt hown _ e).2; omega
          clear hB hown hbel hb6 hb56 HA5 HB5 HX5 hcl0
          go_wp2_with (first
            | (refine wpList_store_all rfl 85 (.tmp 13) (.tmp 75) rfl w6.heap.size #[.slice none 0 0, .slice none 0 0] rfl rfl 85 #[.slice none 0 0, .slice none 0 0] (Blk.new w6 _ _) (by rw [info_book]; rfl) rfl (by simp [Value.oneCell']) ?_; intro w8 hB8 hO8; have hbx := hO8.below ((Below.refl w6.heap.size w6).alloc (Nat.le_refl _) (.cells #[.slice none 0 0, .slice none 0 0] 85)) (Nat.le_refl _); have hBo := hB6.below hbx hB6.lt; have hown8 := OwnN.below hown6 hbx (Nat.le_refl _); have hbel8 := hbel6.trans (hbx.mono hbel6.size); have hBv8 := hBv.below hbx hgvl; have hs8 := hbx.size; have hc8 : w8.cell? ⟨w.heap.size, 0, none⟩ = some (.slice A1 Q cap) := hBo.cell 0; clear hB6 hown6 hbel6 hBv hbx hB8 hO8)
            | (at_builtin; refine wpList_append_w rfl (.tmp 81) (.tmp 82) rfl wm2 w8 _ (TO0 j) rfl (by have h := hown8; rw [← HTLL.out] at h; rw [← HTLL.out]; exact h) (Below.refl _ _) (by omega) gv ov 16 cv X rfl HXL.out hBv8 (by rw [HTLL.out]; omega) ?_; intro v7 w9 hown9 hb9 hgr9 hat9; (have hl7 : (TO0 j ++ X).length = Q + 16 := by rw [List.length_append, HTLL.out, HXL.out]); obtain ⟨g7, c7, rfl, -, -, -⟩ := Own.at_ (OwnN.bytes hown9) hl7 (by omega); clear hl7 hat9; have hB9 := hBo.below hb9 hgm; have hc9 : w9.cell? ⟨w.heap.size, 0, none⟩ = some (.slice A1 Q cap) := hB9.cell 0; have hf9 : w9.frozen? ⟨w.heap.size, 0, none⟩ = false := hB9.frozen 0))
          have hk9 : Keep w.heap.size w9 (w9.setCell ⟨w.heap.size, 0, none⟩ (.slice (some ⟨g7, 0, none⟩) (Q + 16) c7)) := (Keep.refl _ _).setCell 0 (.slice (some ⟨g7, 0, none⟩) (Q + 16) c7)
          have hB10 := (hB9.setc (.slice (some ⟨g7, 0, none⟩) (Q + 16) c7)).1
          rw [← HST.out] at hown9
          have hown10 := OwnN.keepW hown9 hk9 (fun e => by have := (World.ownsRow.lt hown9 _ e).1; omega)
          skip
          have hbel10 := hk9.below (hbel8.trans (hb9.mono (by omega))) (by have := hb9.size; omega) (Nat.le_refl _)
          have hs10 : wm2 ≤ (w9.setCell ⟨w.heap.size, 0, none⟩ (.slice (some ⟨g7, 0, none⟩) (Q + 16) c7)).heap.size := by have := hk9.size; have := hb9.size; omega
          have hi2 : i1 + 1 = j + 1 + 1 := by rw [hi1.out]
          have HI2 := Lib.hid hi2; clear hi2
          rw [hi1.out] at hown10
          have HB10 := Lib.hid hB10
          have HO10 := Lib.hid hown10
          have HBEL10 := Lib.hid hbel10
          skip
          have hi4' : i1 + 1 ≤ 4 := by have := hi1.out; omega
          clear hB10 hown10 hbel10 hown9 hb9 hgr9 hB9 hc9 hf9 hBo hown8 hbel8 hBv8 hk9
          go_roundw
          case rel => exact ⟨j + 1, i1 + 1, (.slice (some ⟨g7, 0, none⟩) (Q + 16) c7), by omega, by go_num, HI2.out, hi4', HB10.out, HO10.out, HBEL10.out, hs10⟩
          case measure => have := hi1.out; simp [intOf]; omega
        · obtain rfl : j = 1 := by omega
          have hl1 : (TO0 1).length = 16 := by rw [htl]
          rw [show 16 * 1 = 16 from rfl] at hown hcap hB hcl0
          obtain ⟨gx, cx, e', hgx, hgxl, hBx⟩ := Own.addr (OwnN.bytes hown) (ne_nil hl1 (by omega))
          injection e' with e1' e2' e3'
          subst e1'
          have hown' : Own wr wm2 (.slice (some ⟨gx, 0, none⟩) 16 cap) (TO0 1) := hown
          have hpre := Own.pre hown' 16 (by rw [hl1]; decide)
          rw [← HF0.out] at hpre
          have hfr : wr.frozen? ⟨w.heap.size, 0, none⟩ = false := hB.frozen 0
          have hk9 : Keep w.heap.size wr (wr.setCell ⟨w.heap.size, 0, none⟩ (.slice (some ⟨gx, 0, none⟩) 16 cap)) := (Keep.refl _ _).setCell 0 _
          have hpre2 : OwnN 5 .u8 wr wm2 (.slice (some ⟨gx, 0, none⟩) 16 cap) R0 := hpre
          have hpre3 := OwnN.more (C := w.heap.size + 1) (OwnN.keepW hpre2 hk9 (fun e => by have := (World.ownsRow.lt hpre2 _ e).1; omega)) (by omega)
          skip
          have hB3 := (hB.setc (.slice (some ⟨gx, 0, none⟩) 16 cap)).1
          have hbel3 := hk9.below hbel hbel.size (Nat.le_refl _)
          have hnc : (16 : Int) ≤ (cap : Int) := by omega
          have HP3 := Lib.hid hpre3
          have HB3 := Lib.hid hB3
          have HBEL3 := Lib.hid hbel3
          skip
          clear e2' e3' hBx hown hown' hpre hpre2 hpre3 hB3 hbel3 hk9 hB hbel hAt htl hl1
          go_wp2
          go_roundw
          case rel => exact ⟨1, by go_num, HBEL3.out, .inr (.inl ⟨rfl, _, HB3.out, HP3.out⟩)⟩
          case measure => simp [intOf]
    · rw [show ((1 : Nat) : Int) = 1 from rfl]
      obtain ⟨wm, rfl⟩ : ∃ wm, wm = wr := ⟨_, rfl⟩
      clear HB0 HBE0
      have hwm := hbel.size
      have hgm := hB.lt
      have hvalt : ∀ g, va.ownBlock = some g → g < wm.heap.size := fun g h => (World.ownsRow.lt hVA g h).2
      obtain ⟨wm2, hwm2⟩ : ∃ wm2, wm2 = wm.heap.size := ⟨_, rfl⟩
      rw [← hwm2] at hgm hwm hvalt
      have HWM := Lib.hid hwm2; clear hwm2
      have hst0 : ∃ j i1 : Nat, ∃ v : Value, j ≤ 1 ∧ (.int .i64 1 : Value) = .int .i64 i1 ∧ Hid (i1 = j + 1) ∧ i1 ≤ 4 ∧ Blk wm w.heap.size 82 #[va, v] ∧ OwnN 5 .u8 wm wm2 v (TO1 j) ∧ OwnN 5 .u8 wm (w.heap.size + 1) va R0 ∧ Below w.heap.size w wm ∧ wm2 ≤ wm.heap.size :=
        ⟨0, 1, .slice none 0 0, by omega, rfl, rfl, by omega, hB, by rw [H01.out]; exact OwnN.nil _ _ _ _, hVA, hbel, by rw [HWM.out]; exact Nat.le_refl _⟩
      have HST0 := Lib.hid hst0; clear hst0 hB hbel hVA
      go_wp2
      go_loopw [12] (fun i wv => ∃ j i1 : Nat, ∃ v : Value, j ≤ 1 ∧ i = .int .i64 i1 ∧ Hid (i1 = j + 1) ∧ i1 ≤ 4 ∧ Blk wv w.heap.size 82 #[va, v] ∧ OwnN 5 .u8 wv wm2 v (TO1 j) ∧ OwnN 5 .u8 wv (w.heap.size + 1) va R0 ∧ Below w.heap.size w wv ∧ wm2 ≤ wv.heap.size) (fun i _ => 10 - (intOf i).toNat)
      case atStart => exact HST0.out
      case round =>
        obtain ⟨j, i1, v, hj, rfl, hi1, hi4, hB, hown, hVA, hbel, hsz⟩ := hrel
        have htl := (HTO1.out j (by omega)).1
        obtain ⟨A1, cap, rfl, hcap, hAt⟩ := OwnN.form hown
        rw [htl] at hown hcap hB
        have hcl0 : wr.cell? ⟨w.heap.size, 1, none⟩ = some (.slice A1 (16 * j) cap) := hB.cell 1
        by_cases hlt : j < 1
        · have hqn : ((16 * j : Nat) : Int) < 16 := by omega
          obtain ⟨Q, hQ⟩ : ∃ Q, 16 * j = Q := ⟨_, rfl⟩
          rw [hQ] at hqn hown hcap hB hcl0 htl
          have hQ64 : Q ≤ 64 := by omega
          have hst := HS1.out j
          rw [← hi1.out] at hst
          have hi1b : i1 < 256 := by omega
          have hbb : Byt (blkI i1 1 2 16) := blkI_byt hi1b (by omega) (by omega) (by omega)
          have hCM := Lib.hid (fun A' ct W hA hT => refCmac_any 1 key hk 16 ca HKN.out hca A none none 0 0 0 0 (blkI i1 1 2 16) 8 rfl (by omega) (by omega) hbb A' ct W hA hT)
          have hcl := (cmacN_ok (kind := 1) hk.1 hbb).1
          rw [size_1] at hcl hCM
          have hB5 := Blk.new wr 5 (byteCells (blkI i1 1 2 16))
          have hbk : byteCells (blkI i1 1 2 16) = #[.int .u8 (i1 : Int), .int .u8 0, .int .u8 1, .int .u8 0, .int .u8 0, .int .u8 2, .int .u8 0, .int .u8 128] := rfl
          rw [hbk] at hB5
          have hb5 := (Below.refl wr.heap.size wr).alloc (Nat.le_refl _) (.cells #[.int .u8 (i1 : Int), .int .u8 0, .int .u8 1, .int .u8 0, .int .u8 0, .int .u8 2, .int .u8 0, .int .u8 128] 5)
          have hA5 : At (wr.alloc (.cells #[.int .u8 (i1 : Int), .int .u8 0, .int .u8 1, .int .u8 0, .int .u8 0, .int .u8 2, .int .u8 0, .int .u8 128] 5)) (some ⟨wr.heap.size, 0, none⟩) (blkI i1 1 2 16) := fun _ => ⟨_, _, rfl, Bs.ofBlk hB5⟩
          have hx5 := hbel.trans (hb5.mono hbel.size)
          have hs5 : wr.heap.size < (wr.alloc (.cells #[.int .u8 (i1 : Int), .int .u8 0, .int .u8 1, .int .u8 0, .int .u8 0, .int .u8 2, .int .u8 0, .int .u8 128] 5)).heap.size := by rw [World.size_alloc]; omega
          have HA5 := Lib.hid hA5
          have HB5 := Lib.hid hb5
          have HX5 := Lib.hid hx5
          clear hB5 hbk hA5 hb5 hx5 hbb hAt
          generalize cmacN 1 key (blkI i1 1 2 16) = X at *
          have HST := Lib.hid hst; clear hst
          have HXL := Lib.hid hcl; clear hcl
          have HQ := Lib.hid hQ; clear hQ
          have HTLL := Lib.hid htl; clear htl
          go_wp2_with fail
          generalize wr.alloc (.cells #[.int .u8 (i1 : Int), .int .u8 0, .int .u8 1, .int .u8 0, .int .u8 0, .int .u8 2, .int .u8 0, .int .u8 128] 5) = w5 at *
          refine (hCM.out _ _ _ (HAW.out _ HX5.out) HA5.out).mono ?_
          rintro e w6 ⟨⟨gv, ov, cv, rfl, hgv, hBv⟩, hb6⟩
          have hb56 := HB5.out.trans (hb6.mono (by omega))
          have hB6 := hB.below hb56 hB.lt
          have hown6 := OwnN.below hown hb56 (Nat.le_refl _)
          have hVA6 := OwnN.below hVA hb56 (Nat.le_refl _)
          have hbel6 := hbel.trans (hb56.mono hbel.size)
          have hs6 := hb56.size
          have hgvl := hBv.lt (ne_nil HXL.out (by omega))
          have hne6 : (Value.slice A1 Q cap).ownBlock ≠ some gv := fun e => by have := (World.ownsRow.lt hown _ e).2; omega
          clear hB hown hbel hb6 hb56 HA5 HB5 HX5 hcl0 hVA
          go_wp2_with (first
            | (refine wpList_store_all rfl 85 (.tmp 13) (.tmp 75) rfl w6.heap.size #[.slice none 0 0, .slice none 0 0] rfl rfl 85 #[.slice none 0 0, .slice none 0 0] (Blk.new w6 _ _) (by rw [info_book]; rfl) rfl (by simp [Value.oneCell']) ?_; intro w8 hB8 hO8; have hbx := hO8.below ((Below.refl w6.heap.size w6).alloc (Nat.le_refl _) (.cells #[.slice none 0 0, .slice none 0 0] 85)) (Nat.le_refl _); have hBo := hB6.below hbx hB6.lt; have hown8 := OwnN.below hown6 hbx (Nat.le_refl _); have hVA8 := OwnN.below hVA6 hbx (Nat.le_refl _); have hbel8 := hbel6.trans (hbx.mono hbel6.size); have hBv8 := hBv.below hbx hgvl; have hs8 := hbx.size; have hc8 : w8.cell? ⟨w.heap.size, 1, none⟩ = some (.slice A1 Q cap) := hBo.cell 1; clear hB6 hown6 hbel6 hBv hbx hB8 hO8 hVA6)
            | (at_builtin; refine wpList_append_w rfl (.tmp 81) (.tmp 82) rfl wm2 w8 _ (TO1 j) rfl (by have h := hown8; rw [← HTLL.out] at h; rw [← HTLL.out]; exact h) (Below.refl _ _) (by omega) gv ov 16 cv X rfl HXL.out hBv8 (by rw [HTLL.out]; omega) ?_; intro v7 w9 hown9 hb9 hgr9 hat9; (have hl7 : (TO1 j ++ X).length = Q + 16 := by rw [List.length_append, HTLL.out, HXL.out]); obtain ⟨g7, c7, rfl, -, -, -⟩ := Own.at_ (OwnN.bytes hown9) hl7 (by omega); clear hl7 hat9; have hB9 := hBo.below hb9 hgm; have hc9 : w9.cell? ⟨w.heap.size, 1, none⟩ = some (.slice A1 Q cap) := hB9.cell 1; have hf9 : w9.frozen? ⟨w.heap.size, 1, none⟩ = false := hB9.frozen 1))
          have hk9 : Keep w.heap.size w9 (w9.setCell ⟨w.heap.size, 1, none⟩ (.slice (some ⟨g7, 0, none⟩) (Q + 16) c7)) := (Keep.refl _ _).setCell 1 (.slice (some ⟨g7, 0, none⟩) (Q + 16) c7)
          have hB10 := (hB9.setc (.slice (some ⟨g7, 0, none⟩) (Q + 16) c7)).2
          rw [← HST.out] at hown9
          have hown10 := OwnN.keepW hown9 hk9 (fun e => by have := (World.ownsRow.lt hown9 _ e).1; omega)
          have hVA10 := OwnN.keepW (OwnN.below2 hVA8 hb9 hvalt) hk9 (fun e => by have := (World.ownsRow.lt hVA8 _ e).1; omega)
          have hbel10 := hk9.below (hbel8.trans (hb9.mono (by omega))) (by have := hb9.size; omega) (Nat.le_refl _)
          have hs10 : wm2 ≤ (w9.setCell ⟨w.heap.size, 1, none⟩ (.slice (some ⟨g7, 0, none⟩) (Q + 16) c7)).heap.size := by have := hk9.size; have := hb9.size; omega
          have hi2 : i1 + 1 = j + 1 + 1 := by rw [hi1.out]
          have HI2 := Lib.hid hi2; clear hi2
          rw [hi1.out] at hown10
          have HB10 := Lib.hid hB10
          have HO10 := Lib.hid hown10
          have HBEL10 := Lib.hid hbel10
          have HVA10 := Lib.hid hVA10
          have hi4' : i1 + 1 ≤ 4 := by have := hi1.out; omega
          clear hB10 hown10 hbel10 hown9 hb9 hgr9 hB9 hc9 hf9 hBo hown8 hbel8 hBv8 hk9 hVA10 hVA8
          go_roundw
          case rel => exact ⟨j + 1, i1 + 1, (.slice (some ⟨g7, 0, none⟩) (Q + 16) c7), by omega, by go_num, HI2.out, hi4', HB10.out, HO10.out, HVA10.out, HBEL10.out, hs10⟩
          case measure => have := hi1.out; simp [intOf]; omega
        · obtain rfl : j = 1 := by omega
          have hl1 : (TO1 1).length = 16 := by rw [htl]
          rw [show 16 * 1 = 16 from rfl] at hown hcap hB hcl0
          obtain ⟨gx, cx, e', hgx, hgxl, hBx⟩ := Own.addr (OwnN.bytes hown) (ne_nil hl1 (by omega))
          injection e' with e1' e2' e3'
          subst e1'
          have hown' : Own wr wm2 (.slice (some ⟨gx, 0, none⟩) 16 cap) (TO1 1) := hown
          have hpre := Own.pre hown' 16 (by rw [hl1]; decide)
          rw [← HF1.out] at hpre
          have hfr : wr.frozen? ⟨w.heap.size, 1, none⟩ = false := hB.frozen 1
          have hk9 : Keep w.heap.size wr (wr.setCell ⟨w.heap.size, 1, none⟩ (.slice (some ⟨gx, 0, none⟩) 16 cap)) := (Keep.refl _ _).setCell 1 _
          have hpre2 : OwnN 5 .u8 wr wm2 (.slice (some ⟨gx, 0, none⟩) 16 cap) R1 := hpre
          have hpre3 := OwnN.more (C := w.heap.size + 1) (OwnN.keepW hpre2 hk9 (fun e => by have := (World.ownsRow.lt hpre2 _ e).1; omega)) (by omega)
          have hVA3 := OwnN.keepW hVA hk9 (fun e => by have := (World.ownsRow.lt hVA _ e).1; omega)
          have hB3 := (hB.setc (.slice (some ⟨gx, 0, none⟩) 16 cap)).2
          have hbel3 := hk9.below hbel hbel.size (Nat.le_refl _)
          have hnc : (16 : Int) ≤ (cap : Int) := by omega
          have HP3 := Lib.hid hpre3
          have HB3 := Lib.hid hB3
          have HBEL3 := Lib.hid hbel3
          have HVA3 := Lib.hid hVA3
          clear e2' e3' hBx hown hown' hpre hpre2 hpre3 hB3 hbel3 hk9 hB hbel hAt htl hl1 hVA hVA3
          go_wp2
          go_roundw
          case rel => exact ⟨2, by go_num, HBEL3.out, .inr (.inr ⟨rfl, _, _, HB3.out, HVA3.out, HP3.out⟩)⟩
          case measure => simp [intOf]
    · rw [show ((2 : Nat) : Int) = 2 from rfl]
      have hd0 : wr.drew.cell? ⟨w.heap.size, 0, none⟩ = some va := hB.cell 0
      have hd1 : wr.drew.cell? ⟨w.heap.size, 1, none⟩ = some vb := hB.cell 1
      have hc0 : ∀ m, (wr.drewN m).cell? ⟨w.heap.size, 0, none⟩ = some va := fun m => hB.cell 0
      have hc1 : ∀ m, (wr.drewN m).cell? ⟨w.heap.size, 1, none⟩ = some vb := fun m => hB.cell 1
      clear HB0 HBE0
      go_wp2_with fail
      go_quiet (fail)
      have hfa : Own (wr.drewN nq) w.heap.size va R0 := OwnN.more (C := w.heap.size) (OwnN.below hVA (below_drewN (Below.refl wr.heap.size wr) nq) (Nat.le_refl _)) (by omega)
      have hfb : Own (wr.drewN nq) w.heap.size vb R1 := OwnN.more (C := w.heap.size) (OwnN.below hVB (below_drewN (Below.refl wr.heap.size wr) nq) (Nat.le_refl _)) (by omega)
      have hbf := below_drewN hbel nq
      clear hd0 hd1 hc0 hc1 hB hVA hVB hbel
      go_wp2
      go_ret3
      exact ⟨⟨va, vb, rfl, hfa, hfb⟩, hbf⟩

set_option maxHeartbeats 8000000 in
set_option maxRecDepth 100000 in
theorem refKeys1_24 (v : Nat) (hv : kindV v = 1) (key : List Nat) (hk : KeyOk 1 key) (hn : key.length = 24) (A : Option Addr) (ca : Nat) (hca : 24 ≤ ca) (w : World) (hA : At w A key) :
    Calls Tryz.prog 20 #[.int .u8 v, .slice A 24 ca] w fun e w' =>
      (∃ va vb, e = .returned (.tuple #[va, vb, .int .i64 0]) ∧ Own w' w.heap.size va (madeN 1 key 0) ∧ Own w' w.heap.size vb (madeN 1 key 1)) ∧ Below w.heap.size w w' := by
  have HKI := Lib.hid (fun W => refKind_any v W)
  rw [hv] at HKI
  clear hv
  have hs0 : ∀ j, madeTo 1 key 3 24 0 (j + 1) = madeTo 1 key 3 24 0 j ++ cmacN 1 key (blkI (j + 1) 0 3 24) := fun _ => rfl
  have h00 : madeTo 1 key 3 24 0 0 = [] := rfl
  have hto0 := fun j hj => madeTo_ok (kind := 1) hk.1 (s := 3) (n := 24) (p := 0) (by omega) (by omega) (by omega) j hj
  rw [size_1] at hto0
  have hf0 : madeN 1 key 0 = (madeTo 1 key 3 24 0 2).take 24 := by unfold madeN; rw [hn]; rfl
  generalize madeN 1 key 0 = R0 at *
  generalize madeTo 1 key 3 24 0 = TO0 at *
  have HS0 := Lib.hid hs0; clear hs0
  have H00 := Lib.hid h00; clear h00
  have HTO0 := Lib.hid hto0; clear hto0
  have HF0 := Lib.hid hf0; clear hf0
  have hs1 : ∀ j, madeTo 1 key 3 24 1 (j + 1) = madeTo 1 key 3 24 1 j ++ cmacN 1 key (blkI (j + 1) 1 3 24) := fun _ => rfl
  have h01 : madeTo 1 key 3 24 1 0 = [] := rfl
  have hto1 := fun j hj => madeTo_ok (kind := 1) hk.1 (s := 3) (n := 24) (p := 1) (by omega) (by omega) (by omega) j hj
  rw [size_1] at hto1
  have hf1 : madeN 1 key 1 = (madeTo 1 key 3 24 1 2).take 24 := by unfold madeN; rw [hn]; rfl
  generalize madeN 1 key 1 = R1 at *
  generalize madeTo 1 key 3 24 1 = TO1 at *
  have HS1 := Lib.hid hs1; clear hs1
  have H01 := Lib.hid h01; clear h01
  have HTO1 := Lib.hid hto1; clear hto1
  have HF1 := Lib.hid hf1; clear hf1
  have HKN := Lib.hid hn; clear hn
  have HAW := Lib.hid (fun W (hb : Below w.heap.size w W) => hA.below hb (Nat.le_refl _))
  clear hA
  have hB0 : Blk (w.alloc (.cells #[.slice none 0 0, .slice none 0 0] 82)) w.heap.size 82 #[.slice none 0 0, .slice none 0 0] := Blk.new w _ _
  have hb0 : Below w.heap.size w (w.alloc (.cells #[.slice none 0 0, .slice none 0 0] 82)) := (Below.refl _ _).alloc (Nat.le_refl _) _
  have HB0 := Lib.hid hB0; clear hB0
  have HBE0 := Lib.hid hb0; clear hb0
  go_enter Tryz.func20, Tryz.ntmps20
  go_wp2_with fail
  refine (HKI.out _).mono ?_
  rintro e w1 ⟨rfl, rfl⟩
  go_wp2
  go_loopw [11] (fun i wr => ∃ p : Nat, i = .int .i64 p ∧ Below w.heap.size w wr ∧ ((p = 0 ∧ Blk wr w.heap.size 82 #[.slice none 0 0, .slice none 0 0]) ∨ (p = 1 ∧ ∃ va, Blk wr w.heap.size 82 #[va, .slice none 0 0] ∧ OwnN 5 .u8 wr (w.heap.size + 1) va R0) ∨ (p = 2 ∧ ∃ va vb, Blk wr w.heap.size 82 #[va, vb] ∧ OwnN 5 .u8 wr (w.heap.size + 1) va R0 ∧ OwnN 5 .u8 wr (w.heap.size + 1) vb R1))) (fun i _ => 2 - (intOf i).toNat)
  case atStart => exact ⟨0, rfl, HBE0.out, .inl ⟨rfl, HB0.out⟩⟩
  case round =>
    obtain ⟨p, rfl, hbel, ⟨rfl, hB⟩ | ⟨rfl, va, hB, hVA⟩ | ⟨rfl, va, vb, hB, hVA, hVB⟩⟩ := hrel
    · rw [show ((0 : Nat) : Int) = 0 from rfl]
      obtain ⟨wm, rfl⟩ : ∃ wm, wm = wr := ⟨_, rfl⟩
      clear HB0 HBE0
      have hwm := hbel.size
      have hgm := hB.lt
      obtain ⟨wm2, hwm2⟩ : ∃ wm2, wm2 = wm.heap.size := ⟨_, rfl⟩
      rw [← hwm2] at hgm hwm
      have HWM := Lib.hid hwm2; clear hwm2
      have hst0 : ∃ j i1 : Nat, ∃ v : Value, j ≤ 2 ∧ (.int .i64 1 : Value) = .int .i64 i1 ∧ Hid (i1 = j + 1) ∧ i1 ≤ 4 ∧ Blk wm w.heap.size 82 #[v, .slice none 0 0] ∧ OwnN 5 .u8 wm wm2 v (TO0 j) ∧ Below w.heap.size w wm ∧ wm2 ≤ wm.heap.size :=
        ⟨0, 1, .slice none 0 0, by omega, rfl, rfl, by omega, hB, by rw [H00.out]; exact OwnN.nil _ _ _ _, hbel, by rw [HWM.out]; exact Nat.le_refl _⟩
      have HST0 := Lib.hid hst0; clear hst0 hB hbel
      go_wp2
      go_loopw [12] (fun i wv => ∃ j i1 : Nat, ∃ v : Value, j ≤ 2 ∧ i = .int .i64 i1 ∧ Hid (i1 = j + 1) ∧ i1 ≤ 4 ∧ Blk wv w.heap.size 82 #[v, .slice none 0 0] ∧ OwnN 5 .u8 wv wm2 v (TO0 j) ∧ Below w.heap.size w wv ∧ wm2 ≤ wv.heap.size) (fun i _ => 10 - (intOf i).toNat)
      case atStart => exact HST0.out
      case round =>
        obtain ⟨j, i1, v, hj, rfl, hi1, hi4, hB, hown, hbel, hsz⟩ := hrel
        have htl := (HTO0.out j (by omega)).1
        obtain ⟨A1, cap, rfl, hcap, hAt⟩ := OwnN.form hown
        rw [htl] at hown hcap hB
        have hcl0 : wr.cell? ⟨w.heap.size, 0, none⟩ = some (.slice A1 (16 * j) cap) := hB.cell 0
        by_cases hlt : j < 2
        · have hqn : ((16 * j : Nat) : Int) < 24 := by omega
          obtain ⟨Q, hQ⟩ : ∃ Q, 16 * j = Q := ⟨_, rfl⟩
          rw [hQ] at hqn hown hcap hB hcl0 htl
          have hQ64 : Q ≤ 64 := by omega
          have hst := HS0.out j
          rw [← hi1.out] at hst
          have hi1b : i1 < 256 := by omega
          have hbb : Byt (blkI i1 0 3 24) := blkI_byt hi1b (by omega) (by omega) (by omega)
          have hCM := Lib.hid (fun A' ct W hA hT => refCmac_any 1 key hk 24 ca HKN.out hca A none none 0 0 0 0 (blkI i1 0 3 24) 8 rfl (by omega) (by omega) hbb A' ct W hA hT)
          have hcl := (cmacN_ok (kind := 1) hk.1 hbb).1
          rw [size_1] at hcl hCM
          have hB5 := Blk.new wr 5 (byteCells (blkI i1 0 3 24))
          have hbk : byteCells (blkI i1 0 3 24) = #[.int .u8 (i1 : Int), .int .u8 0, .int .u8 0, .int .u8 0, .int .u8 0, .int .u8 3, .int .u8 0, .int .u8 192] := rfl
          rw [hbk] at hB5
          have hb5 := (Below.refl wr.heap.size wr).alloc (Nat.le_refl _) (.cells #[.int .u8 (i1 : Int), .int .u8 0, .int .u8 0, .int .u8 0, .int .u8 0, .int .u8 3, .int .u8 0, .int .u8 192] 5)
          have hA5 : At (wr.alloc (.cells #[.int .u8 (i1 : Int), .int .u8 0, .int .u8 0, .int .u8 0, .int .u8 0, .int .u8 3, .int .u8 0, .int .u8 192] 5)) (some ⟨wr.heap.size, 0, none⟩) (blkI i1 0 3 24) := fun _ => ⟨_, _, rfl, Bs.ofBlk hB5⟩
          have hx5 := hbel.trans (hb5.mono hbel.size)
          have hs5 : wr.heap.size < (wr.alloc (.cells #[.int .u8 (i1 : Int), .int .u8 0, .int .u8 0, .int .u8 0, .int .u8 0, .int .u8 3, .int .u8 0, .int .u8 192] 5)).heap.size := by rw [World.size_alloc]; omega
          have HA5 := Lib.hid hA5
          have HB5 := Lib.hid hb5
          have HX5 := Lib.hid hx5
          clear hB5 hbk hA5 hb5 hx5 hbb hAt
          generalize cmacN 1 key (blkI i1 0 3 24) = X at *
          have HST := Lib.hid hst; clear hst
          have HXL := Lib.hid hcl; clear hcl
          have HQ := Lib.hid hQ; clear hQ
          have HTLL := Lib.hid htl; clear htl
          go_wp2_with fail
          generalize wr.alloc (.cells #[.int .u8 (i1 : Int), .int .u8 0, .int .u8 0, .int .u8 0, .int .u8 0, .int .u8 3, .int .u8 0, .int .u8 192] 5) = w5 at *
          refine (hCM.out _ _ _ (HAW.out _ HX5.out) HA5.out).mono ?_
          rintro e w6 ⟨⟨gv, ov, cv, rfl, hgv, hBv⟩, hb6⟩
          have hb56 := HB5.out.trans (hb6.mono (by omega))
          have hB6 := hB.below hb56 hB.lt
          have hown6 := OwnN.below hown hb56 (Nat.le_refl _)
          skip
          have hbel6 := hbel.trans (hb56.mono hbel.size)
          have hs6 := hb56.size
          have hgvl := hBv.lt (ne_nil HXL.out (by omega))
          have hne6 : (Value.slice A1 Q cap).ownBlock ≠ some gv := fun e => by have := (World.ownsRow.lt hown _ e).2; omega
          clear hB hown hbel hb6 hb56 HA5 HB5 HX5 hcl0
          go_wp2_with (first
            | (refine wpList_store_all rfl 85 (.tmp 13) (.tmp 75) rfl w6.heap.size #[.slice none 0 0, .slice none 0 0] rfl rfl 85 #[.slice none 0 0, .slice none 0 0] (Blk.new w6 _ _) (by rw [info_book]; rfl) rfl (by simp [Value.oneCell']) ?_; intro w8 hB8 hO8; have hbx := hO8.below ((Below.refl w6.heap.size w6).alloc (Nat.le_refl _) (.cells #[.slice none 0 0, .slice none 0 0] 85)) (Nat.le_refl _); have hBo := hB6.below hbx hB6.lt; have hown8 := OwnN.below hown6 hbx (Nat.le_refl _); have hbel8 := hbel6.trans (hbx.mono hbel6.size); have hBv8 := hBv.below hbx hgvl; have hs8 := hbx.size; have hc8 : w8.cell? ⟨w.heap.size, 0, none⟩ = some (.slice A1 Q cap) := hBo.cell 0; clear hB6 hown6 hbel6 hBv hbx hB8 hO8)
            | (at_builtin; refine wpList_append_w rfl (.tmp 81) (.tmp 82) rfl wm2 w8 _ (TO0 j) rfl (by have h := hown8; rw [← HTLL.out] at h; rw [← HTLL.out]; exact h) (Below.refl _ _) (by omega) gv ov 16 cv X rfl HXL.out hBv8 (by rw [HTLL.out]; omega) ?_; intro v7 w9 hown9 hb9 hgr9 hat9; (have hl7 : (TO0 j ++ X).length = Q + 16 := by rw [List.length_append, HTLL.out, HXL.out]); obtain ⟨g7, c7, rfl, -, -, -⟩ := Own.at_ (OwnN.bytes hown9) hl7 (by omega); clear hl7 hat9; have hB9 := hBo.below hb9 hgm; have hc9 : w9.cell? ⟨w.heap.size, 0, none⟩ = some (.slice A1 Q cap) := hB9.cell 0; have hf9 : w9.frozen? ⟨w.heap.size, 0, none⟩ = false := hB9.frozen 0))
          have hk9 : Keep w.heap.size w9 (w9.setCell ⟨w.heap.size, 0, none⟩ (.slice (some ⟨g7, 0, none⟩) (Q + 16) c7)) := (Keep.refl _ _).setCell 0 (.slice (some ⟨g7, 0, none⟩) (Q + 16) c7)
          have hB10 := (hB9.setc (.slice (some ⟨g7, 0, none⟩) (Q + 16) c7)).1
          rw [← HST.out] at hown9
          have hown10 := OwnN.keepW hown9 hk9 (fun e => by have := (World.ownsRow.lt hown9 _ e).1; omega)
          skip
          have hbel10 := hk9.below (hbel8.trans (hb9.mono (by omega))) (by have := hb9.size; omega) (Nat.le_refl _)
          have hs10 : wm2 ≤ (w9.setCell ⟨w.heap.size, 0, none⟩ (.slice (some ⟨g7, 0, none⟩) (Q + 16) c7)).heap.size := by have := hk9.size; have := hb9.size; omega
          have hi2 : i1 + 1 = j + 1 + 1 := by rw [hi1.out]
          have HI2 := Lib.hid hi2; clear hi2
          rw [hi1.out] at hown10
          have HB10 := Lib.hid hB10
          have HO10 := Lib.hid hown10
          have HBEL10 := Lib.hid hbel10
          skip
          have hi4' : i1 + 1 ≤ 4 := by have := hi1.out; omega
          clear hB10 hown10 hbel10 hown9 hb9 hgr9 hB9 hc9 hf9 hBo hown8 hbel8 hBv8 hk9
          go_roundw
          case rel => exact ⟨j + 1, i1 + 1, (.slice (some ⟨g7, 0, none⟩) (Q + 16) c7), by omega, by go_num, HI2.out, hi4', HB10.out, HO10.out, HBEL10.out, hs10⟩
          case measure => have := hi1.out; simp [intOf]; omega
        · obtain rfl : j = 2 := by omega
          have hl2 : (TO0 2).length = 32 := by rw [htl]
          rw [show 16 * 2 = 32 from rfl] at hown hcap hB hcl0
          obtain ⟨gx, cx, e', hgx, hgxl, hBx⟩ := Own.addr (OwnN.bytes hown) (ne_nil hl2 (by omega))
          injection e' with e1' e2' e3'
          subst e1'
          have hown' : Own wr wm2 (.slice (some ⟨gx, 0, none⟩) 32 cap) (TO0 2) := hown
          have hpre := Own.pre hown' 24 (by rw [hl2]; decide)
          rw [← HF0.out] at hpre
          have hfr : wr.frozen? ⟨w.heap.size, 0, none⟩ = false := hB.frozen 0
          have hk9 : Keep w.heap.size wr (wr.setCell ⟨w.heap.size, 0, none⟩ (.slice (some ⟨gx, 0, none⟩) 24 cap)) := (Keep.refl _ _).setCell 0 _
          have hpre2 : OwnN 5 .u8 wr wm2 (.slice (some ⟨gx, 0, none⟩) 24 cap) R0 := hpre
          have hpre3 := OwnN.more (C := w.heap.size + 1) (OwnN.keepW hpre2 hk9 (fun e => by have := (World.ownsRow.lt hpre2 _ e).1; omega)) (by omega)
          skip
          have hB3 := (hB.setc (.slice (some ⟨gx, 0, none⟩) 24 cap)).1
          have hbel3 := hk9.below hbel hbel.size (Nat.le_refl _)
          have hnc : (24 : Int) ≤ (cap : Int) := by omega
          have HP3 := Lib.hid hpre3
          have HB3 := Lib.hid hB3
          have HBEL3 := Lib.hid hbel3
          skip
          clear e2' e3' hBx hown hown' hpre hpre2 hpre3 hB3 hbel3 hk9 hB hbel hAt htl hl2
          go_wp2
          go_roundw
          case rel => exact ⟨1, by go_num, HBEL3.out, .inr (.inl ⟨rfl, _, HB3.out, HP3.out⟩)⟩
          case measure => simp [intOf]
    · rw [show ((1 : Nat) : Int) = 1 from rfl]
      obtain ⟨wm, rfl⟩ : ∃ wm, wm = wr := ⟨_, rfl⟩
      clear HB0 HBE0
      have hwm := hbel.size
      have hgm := hB.lt
      have hvalt : ∀ g, va.ownBlock = some g → g < wm.heap.size := fun g h => (World.ownsRow.lt hVA g h).2
      obtain ⟨wm2, hwm2⟩ : ∃ wm2, wm2 = wm.heap.size := ⟨_, rfl⟩
      rw [← hwm2] at hgm hwm hvalt
      have HWM := Lib.hid hwm2; clear hwm2
      have hst0 : ∃ j i1 : Nat, ∃ v : Value, j ≤ 2 ∧ (.int .i64 1 : Value) = .int .i64 i1 ∧ Hid (i1 = j + 1) ∧ i1 ≤ 4 ∧ Blk wm w.heap.size 82 #[va, v] ∧ OwnN 5 .u8 wm wm2 v (TO1 j) ∧ OwnN 5 .u8 wm (w.heap.size + 1) va R0 ∧ Below w.heap.size w wm ∧ wm2 ≤ wm.heap.size :=
        ⟨0, 1, .slice none 0 0, by omega, rfl, rfl, by omega, hB, by rw [H01.out]; exact OwnN.nil _ _ _ _, hVA, hbel, by rw [HWM.out]; exact Nat.le_refl _⟩
      have HST0 := Lib.hid hst0; clear hst0 hB hbel hVA
      go_wp2
      go_loopw [12] (fun i wv => ∃ j i1 : Nat, ∃ v : Value, j ≤ 2 ∧ i = .int .i64 i1 ∧ Hid (i1 = j + 1) ∧ i1 ≤ 4 ∧ Blk wv w.heap.size 82 #[va, v] ∧ OwnN 5 .u8 wv wm2 v (TO1 j) ∧ OwnN 5 .u8 wv (w.heap.size + 1) va R0 ∧ Below w.heap.size w wv ∧ wm2 ≤ wv.heap.size) (fun i _ => 10 - (intOf i).toNat)
      case atStart => exact HST0.out
      case round =>
        obtain ⟨j, i1, v, hj, rfl, hi1, hi4, hB, hown, hVA, hbel, hsz⟩ := hrel
        have htl := (HTO1.out j (by omega)).1
        obtain ⟨A1, cap, rfl, hcap, hAt⟩ := OwnN.form hown
        rw [htl] at hown hcap hB
        have hcl0 : wr.cell? ⟨w.heap.size, 1, none⟩ = some (.slice A1 (16 * j) cap) := hB.cell 1
        by_cases hlt : j < 2
        · have hqn : ((16 * j : Nat) : Int) < 24 := by omega
          obtain ⟨Q, hQ⟩ : ∃ Q, 16 * j = Q := ⟨_, rfl⟩
          rw [hQ] at hqn hown hcap hB hcl0 htl
          have hQ64 : Q ≤ 64 := by omega
          have hst := HS1.out j
          rw [← hi1.out] at hst
          have hi1b : i1 < 256 := by omega
          have hbb : Byt (blkI i1 1 3 24) := blkI_byt hi1b (by omega) (by omega) (by omega)
          have hCM := Lib.hid (fun A' ct W hA hT => refCmac_any 1 key hk 24 ca HKN.out hca A none none 0 0 0 0 (blkI i1 1 3 24) 8 rfl (by omega) (by omega) hbb A' ct W hA hT)
          have hcl := (cmacN_ok (kind := 1) hk.1 hbb).1
          rw [size_1] at hcl hCM
          have hB5 := Blk.new wr 5 (byteCells (blkI i1 1 3 24))
          have hbk : byteCells (blkI i1 1 3 24) = #[.int .u8 (i1 : Int), .int .u8 0, .int .u8 1, .int .u8 0, .int .u8 0, .int .u8 3, .int .u8 0, .int .u8 192] := rfl
          rw [hbk] at hB5
          have hb5 := (Below.refl wr.heap.size wr).alloc (Nat.le_refl _) (.cells #[.int .u8 (i1 : Int), .int .u8 0, .int .u8 1, .int .u8 0, .int .u8 0, .int .u8 3, .int .u8 0, .int .u8 192] 5)
          have hA5 : At (wr.alloc (.cells #[.int .u8 (i1 : Int), .int .u8 0, .int .u8 1, .int .u8 0, .int .u8 0, .int .u8 3, .int .u8 0, .int .u8 192] 5)) (some ⟨wr.heap.size, 0, none⟩) (blkI i1 1 3 24) := fun _ => ⟨_, _, rfl, Bs.ofBlk hB5⟩
          have hx5 := hbel.trans (hb5.mono hbel.size)
          have hs5 : wr.heap.size < (wr.alloc (.cells #[.int .u8 (i1 : Int), .int .u8 0, .int .u8 1, .int .u8 0, .int .u8 0, .int .u8 3, .int .u8 0, .int .u8 192] 5)).heap.size := by rw [World.size_alloc]; omega
          have HA5 := Lib.hid hA5
          have HB5 := Lib.hid hb5
          have HX5 := Lib.hid hx5
          clear hB5 hbk hA5 hb5 hx5 hbb hAt
          generalize cmacN 1 key (blkI i1 1 3 24) = X at *
          have HST := Lib.hid hst; clear hst
          have HXL := Lib.hid hcl; clear hcl
          have HQ := Lib.hid hQ; clear hQ
          have HTLL := Lib.hid htl; clear htl
          go_wp2_with fail
          generalize wr.alloc (.cells #[.int .u8 (i1 : Int), .int .u8 0, .int .u8 1, .int .u8 0, .int .u8 0, .int .u8 3, .int .u8 0, .int .u8 192] 5) = w5 at *
          refine (hCM.out _ _ _ (HAW.out _ HX5.out) HA5.out).mono ?_
          rintro e w6 ⟨⟨gv, ov, cv, rfl, hgv, hBv⟩, hb6⟩
          have hb56 := HB5.out.trans (hb6.mono (by omega))
          have hB6 := hB.below hb56 hB.lt
          have hown6 := OwnN.below hown hb56 (Nat.le_refl _)
          have hVA6 := OwnN.below hVA hb56 (Nat.le_refl _)
          have hbel6 := hbel.trans (hb56.mono hbel.size)
          have hs6 := hb56.size
          have hgvl := hBv.lt (ne_nil HXL.out (by omega))
          have hne6 : (Value.slice A1 Q cap).ownBlock ≠ some gv := fun e => by have := (World.ownsRow.lt hown _ e).2; omega
          clear hB hown hbel hb6 hb56 HA5 HB5 HX5 hcl0 hVA
          go_wp2_with (first
            | (refine wpList_store_all rfl 85 (.tmp 13) (.tmp 75) rfl w6.heap.size #[.slice none 0 0, .slice none 0 0] rfl rfl 85 #[.slice none 0 0, .slice none 0 0] (Blk.new w6 _ _) (by rw [info_book]; rfl) rfl (by simp [Value.oneCell']) ?_; intro w8 hB8 hO8; have hbx := hO8.below ((Below.refl w6.heap.size w6).alloc (Nat.le_refl _) (.cells #[.slice none 0 0, .slice none 0 0] 85)) (Nat.le_refl _); have hBo := hB6.below hbx hB6.lt; have hown8 := OwnN.below hown6 hbx (Nat.le_refl _); have hVA8 := OwnN.below hVA6 hbx (Nat.le_refl _); have hbel8 := hbel6.trans (hbx.mono hbel6.size); have hBv8 := hBv.below hbx hgvl; have hs8 := hbx.size; have hc8 : w8.cell? ⟨w.heap.size, 1, none⟩ = some (.slice A1 Q cap) := hBo.cell 1; clear hB6 hown6 hbel6 hBv hbx hB8 hO8 hVA6)
            | (at_builtin; refine wpList_append_w rfl (.tmp 81) (.tmp 82) rfl wm2 w8 _ (TO1 j) rfl (by have h := hown8; rw [← HTLL.out] at h; rw [← HTLL.out]; exact h) (Below.refl _ _) (by omega) gv ov 16 cv X rfl HXL.out hBv8 (by rw [HTLL.out]; omega) ?_; intro v7 w9 hown9 hb9 hgr9 hat9; (have hl7 : (TO1 j ++ X).length = Q + 16 := by rw [List.length_append, HTLL.out, HXL.out]); obtain ⟨g7, c7, rfl, -, -, -⟩ := Own.at_ (OwnN.bytes hown9) hl7 (by omega); clear hl7 hat9; have hB9 := hBo.below hb9 hgm; have hc9 : w9.cell? ⟨w.heap.size, 1, none⟩ = some (.slice A1 Q cap) := hB9.cell 1; have hf9 : w9.frozen? ⟨w.heap.size, 1, none⟩ = false := hB9.frozen 1))
          have hk9 : Keep w.heap.size w9 (w9.setCell ⟨w.heap.size, 1, none⟩ (.slice (some ⟨g7, 0, none⟩) (Q + 16) c7)) := (Keep.refl _ _).setCell 1 (.slice (some ⟨g7, 0, none⟩) (Q + 16) c7)
          have hB10 := (hB9.setc (.slice (some ⟨g7, 0, none⟩) (Q + 16) c7)).2
          rw [← HST.out] at hown9
          have hown10 := OwnN.keepW hown9 hk9 (fun e => by have := (World.ownsRow.lt hown9 _ e).1; omega)
          have hVA10 := OwnN.keepW (OwnN.below2 hVA8 hb9 hvalt) hk9 (fun e => by have := (World.ownsRow.lt hVA8 _ e).1; omega)
          have hbel10 := hk9.below (hbel8.trans (hb9.mono (by omega))) (by have := hb9.size; omega) (Nat.le_refl _)
          have hs10 : wm2 ≤ (w9.setCell ⟨w.heap.size, 1, none⟩ (.slice (some ⟨g7, 0, none⟩) (Q + 16) c7)).heap.size := by have := hk9.size; have := hb9.size; omega
          have hi2 : i1 + 1 = j + 1 + 1 := by rw [hi1.out]
          have HI2 := Lib.hid hi2; clear hi2
          rw [hi1.out] at hown10
          have HB10 := Lib.hid hB10
          have HO10 := Lib.hid hown10
          have HBEL10 := Lib.hid hbel10
          have HVA10 := Lib.hid hVA10
          have hi4' : i1 + 1 ≤ 4 := by have := hi1.out; omega
          clear hB10 hown10 hbel10 hown9 hb9 hgr9 hB9 hc9 hf9 hBo hown8 hbel8 hBv8 hk9 hVA10 hVA8
          go_roundw
          case rel => exact ⟨j + 1, i1 + 1, (.slice (some ⟨g7, 0, none⟩) (Q + 16) c7), by omega, by go_num, HI2.out, hi4', HB10.out, HO10.out, HVA10.out, HBEL10.out, hs10⟩
          case measure => have := hi1.out; simp [intOf]; omega
        · obtain rfl : j = 2 := by omega
          have hl2 : (TO1 2).length = 32 := by rw [htl]
          rw [show 16 * 2 = 32 from rfl] at hown hcap hB hcl0
          obtain ⟨gx, cx, e', hgx, hgxl, hBx⟩ := Own.addr (OwnN.bytes hown) (ne_nil hl2 (by omega))
          injection e' with e1' e2' e3'
          subst e1'
          have hown' : Own wr wm2 (.slice (some ⟨gx, 0, none⟩) 32 cap) (TO1 2) := hown
          have hpre := Own.pre hown' 24 (by rw [hl2]; decide)
          rw [← HF1.out] at hpre
          have hfr : wr.frozen? ⟨w.heap.size, 1, none⟩ = false := hB.frozen 1
          have hk9 : Keep w.heap.size wr (wr.setCell ⟨w.heap.size, 1, none⟩ (.slice (some ⟨gx, 0, none⟩) 24 cap)) := (Keep.refl _ _).setCell 1 _
          have hpre2 : OwnN 5 .u8 wr wm2 (.slice (some ⟨gx, 0, none⟩) 24 cap) R1 := hpre
          have hpre3 := OwnN.more (C := w.heap.size + 1) (OwnN.keepW hpre2 hk9 (fun e => by have := (World.ownsRow.lt hpre2 _ e).1; omega)) (by omega)
          have hVA3 := OwnN.keepW hVA hk9 (fun e => by have := (World.ownsRow.lt hVA _ e).1; omega)
          have hB3 := (hB.setc (.slice (some ⟨gx, 0, none⟩) 24 cap)).2
          have hbel3 := hk9.below hbel hbel.size (Nat.le_refl _)
          have hnc : (24 : Int) ≤ (cap : Int) := by omega
          have HP3 := Lib.hid hpre3
          have HB3 := Lib.hid hB3
          have HBEL3 := Lib.hid hbel3
          have HVA3 := Lib.hid hVA3
          clear e2' e3' hBx hown hown' hpre hpre2 hpre3 hB3 hbel3 hk9 hB hbel hAt htl hl2 hVA hVA3
          go_wp2
          go_roundw
          case rel => exact ⟨2, by go_num, HBEL3.out, .inr (.inr ⟨rfl, _, _, HB3.out, HVA3.out, HP3.out⟩)⟩
          case measure => simp [intOf]
    · rw [show ((2 : Nat) : Int) = 2 from rfl]
      have hd0 : wr.drew.cell? ⟨w.heap.size, 0, none⟩ = some va := hB.cell 0
      have hd1 : wr.drew.cell? ⟨w.heap.size, 1, none⟩ = some vb := hB.cell 1
      have hc0 : ∀ m, (wr.drewN m).cell? ⟨w.heap.size, 0, none⟩ = some va := fun m => hB.cell 0
      have hc1 : ∀ m, (wr.drewN m).cell? ⟨w.heap.size, 1, none⟩ = some vb := fun m => hB.cell 1
      clear HB0 HBE0
      go_wp2_with fail
      go_quiet (fail)
      have hfa : Own (wr.drewN nq) w.heap.size va R0 := OwnN.more (C := w.heap.size) (OwnN.below hVA (below_drewN (Below.refl wr.heap.size wr) nq) (Nat.le_refl _)) (by omega)
      have hfb : Own (wr.drewN nq) w.heap.size vb R1 := OwnN.more (C := w.heap.size) (OwnN.below hVB (below_drewN (Below.refl wr.heap.size wr) nq) (Nat.le_refl _)) (by omega)
      have hbf := below_drewN hbel nq
      clear hd0 hd1 hc0 hc1 hB hVA hVB hbel
      go_wp2
      go_ret3
      exact ⟨⟨va, vb, rfl, hfa, hfb⟩, hbf⟩

set_option maxHeartbeats 8000000 in
set_option maxRecDepth 100000 in
theorem refKeys1_32 (v : Nat) (hv : kindV v = 1) (key : List Nat) (hk : KeyOk 1 key) (hn : key.length = 32) (A : Option Addr) (ca : Nat) (hca : 32 ≤ ca) (w : World) (hA : At w A key) :
    Calls Tryz.prog 20 #[.int .u8 v, .slice A 32 ca] w fun e w' =>
      (∃ va vb, e = .returned (.tuple #[va, vb, .int .i64 0]) ∧ Own w' w.heap.size va (madeN 1 key 0) ∧ Own w' w.heap.size vb (madeN 1 key 1)) ∧ Below w.heap.size w w' := by
  have HKI := Lib.hid (fun W => refKind_any v W)
  rw [hv] at HKI
  clear hv
  have hs0 : ∀ j, madeTo 1 key 4 32 0 (j + 1) = madeTo 1 key 4 32 0 j ++ cmacN 1 key (blkI (j + 1) 0 4 32) := fun _ => rfl
  have h00 : madeTo 1 key 4 32 0 0 = [] := rfl
  have hto0 := fun j hj => madeTo_ok (kind := 1) hk.1 (s := 4) (n := 32) (p := 0) (by omega) (by omega) (by omega) j hj
  rw [size_1] at hto0
  have hf0 : madeN 1 key 0 = (madeTo 1 key 4 32 0 2).take 32 := by unfold madeN; rw [hn]; rfl
  generalize madeN 1 key 0 = R0 at *
  generalize madeTo 1 key 4 32 0 = TO0 at *
  have HS0 := Lib.hid hs0; clear hs0
  have H00 := Lib.hid h00; clear h00
  have HTO0 := Lib.hid hto0; clear hto0
  have HF0 := Lib.hid hf0; clear hf0
  have hs1 : ∀ j, madeTo 1 key 4 32 1 (j + 1) = madeTo 1 key 4 32 1 j ++ cmacN 1 key (blkI (j + 1) 1 4 32) := fun _ => rfl
  have h01 : madeTo 1 key 4 32 1 0 = [] := rfl
  have hto1 := fun j hj => madeTo_ok (kind := 1) hk.1 (s := 4) (n := 32) (p := 1) (by omega) (by omega) (by omega) j hj
  rw [size_1] at hto1
  have hf1 : madeN 1 key 1 = (madeTo 1 key 4 32 1 2).take 32 := by unfold madeN; rw [hn]; rfl
  generalize madeN 1 key 1 = R1 at *
  generalize madeTo 1 key 4 32 1 = TO1 at *
  have HS1 := Lib.hid hs1; clear hs1
  have H01 := Lib.hid h01; clear h01
  have HTO1 := Lib.hid hto1; clear hto1
  have HF1 := Lib.hid hf1; clear hf1
  have HKN := Lib.hid hn; clear hn
  have HAW := Lib.hid (fun W (hb : Below w.heap.size w W) => hA.below hb (Nat.le_refl _))
  clear hA
  have hB0 : Blk (w.alloc (.cells #[.slice none 0 0, .slice none 0 0] 82)) w.heap.size 82 #[.slice none 0 0, .slice none 0 0] := Blk.new w _ _
  have hb0 : Below w.heap.size w (w.alloc (.cells #[.slice none 0 0, .slice none 0 0] 82)) := (Below.refl _ _).alloc (Nat.le_refl _) _
  have HB0 := Lib.hid hB0; clear hB0
  have HBE0 := Lib.hid hb0; clear hb0
  go_enter Tryz.func20, Tryz.ntmps20
  go_wp2_with fail
  refine (HKI.out _).mono ?_
  rintro e w1 ⟨rfl, rfl⟩
  go_wp2
  go_loopw [11] (fun i wr => ∃ p : Nat, i = .int .i64 p ∧ Below w.heap.size w wr ∧ ((p = 0 ∧ Blk wr w.heap.size 82 #[.slice none 0 0, .slice none 0 0]) ∨ (p = 1 ∧ ∃ va, Blk wr w.heap.size 82 #[va, .slice none 0 0] ∧ OwnN 5 .u8 wr (w.heap.size + 1) va R0) ∨ (p = 2 ∧ ∃ va vb, Blk wr w.heap.size 82 #[va, vb] ∧ OwnN 5 .u8 wr (w.heap.size + 1) va R0 ∧ OwnN 5 .u8 wr (w.heap.size + 1) vb R1))) (fun i _ => 2 - (intOf i).toNat)
  case atStart => exact ⟨0, rfl, HBE0.out, .inl ⟨rfl, HB0.out⟩⟩
  case round =>
    obtain ⟨p, rfl, hbel, ⟨rfl, hB⟩ | ⟨rfl, va, hB, hVA⟩ | ⟨rfl, va, vb, hB, hVA, hVB⟩⟩ := hrel
    · rw [show ((0 : Nat) : Int) = 0 from rfl]
      obtain ⟨wm, rfl⟩ : ∃ wm, wm = wr := ⟨_, rfl⟩
      clear HB0 HBE0
      have hwm := hbel.size
      have hgm := hB.lt
      obtain ⟨wm2, hwm2⟩ : ∃ wm2, wm2 = wm.heap.size := ⟨_, rfl⟩
      rw [← hwm2] at hgm hwm
      have HWM := Lib.hid hwm2; clear hwm2
      have hst0 : ∃ j i1 : Nat, ∃ v : Value, j ≤ 2 ∧ (.int .i64 1 : Value) = .int .i64 i1 ∧ Hid (i1 = j + 1) ∧ i1 ≤ 4 ∧ Blk wm w.heap.size 82 #[v, .slice none 0 0] ∧ OwnN 5 .u8 wm wm2 v (TO0 j) ∧ Below w.heap.size w wm ∧ wm2 ≤ wm.heap.size :=
        ⟨0, 1, .slice none 0 0, by omega, rfl, rfl, by omega, hB, by rw [H00.out]; exact OwnN.nil _ _ _ _, hbel, by rw [HWM.out]; exact Nat.le_refl _⟩
      have HST0 := Lib.hid hst0; clear hst0 hB hbel
      go_wp2
      go_loopw [12] (fun i wv => ∃ j i1 : Nat, ∃ v : Value, j ≤ 2 ∧ i = .int .i64 i1 ∧ Hid (i1 = j + 1) ∧ i1 ≤ 4 ∧ Blk wv w.heap.size 82 #[v, .slice none 0 0] ∧ OwnN 5 .u8 wv wm2 v (TO0 j) ∧ Below w.heap.size w wv ∧ wm2 ≤ wv.heap.size) (fun i _ => 10 - (intOf i).toNat)
      case atStart => exact HST0.out
      case round =>
        obtain ⟨j, i1, v, hj, rfl, hi1, hi4, hB, hown, hbel, hsz⟩ := hrel
        have htl := (HTO0.out j (by omega)).1
        obtain ⟨A1, cap, rfl, hcap, hAt⟩ := OwnN.form hown
        rw [htl] at hown hcap hB
        have hcl0 : wr.cell? ⟨w.heap.size, 0, none⟩ = some (.slice A1 (16 * j) cap) := hB.cell 0
        by_cases hlt : j < 2
        · have hqn : ((16 * j : Nat) : Int) < 32 := by omega
          obtain ⟨Q, hQ⟩ : ∃ Q, 16 * j = Q := ⟨_, rfl⟩
          rw [hQ] at hqn hown hcap hB hcl0 htl
          have hQ64 : Q ≤ 64 := by omega
          have hst := HS0.out j
          rw [← hi1.out] at hst
          have hi1b : i1 < 256 := by omega
          have hbb : Byt (blkI i1 0 4 32) := blkI_byt hi1b (by omega) (by omega) (by omega)
          have hCM := Lib.hid (fun A' ct W hA hT => refCmac_any 1 key hk 32 ca HKN.out hca A none none 0 0 0 0 (blkI i1 0 4 32) 8 rfl (by omega) (by omega) hbb A' ct W hA hT)
          have hcl := (cmacN_ok (kind := 1) hk.1 hbb).1
          rw [size_1] at hcl hCM
          have hB5 := Blk.new wr 5 (byteCells (blkI i1 0 4 32))
          have hbk : byteCells (blkI i1 0 4 32) = #[.int .u8 (i1 : Int), .int .u8 0, .int .u8 0, .int .u8 0, .int .u8 0, .int .u8 4, .int .u8 1, .int .u8 0] := rfl
          rw [hbk] at hB5
          have hb5 := (Below.refl wr.heap.size wr).alloc (Nat.le_refl _) (.cells #[.int .u8 (i1 : Int), .int .u8 0, .int .u8 0, .int .u8 0, .int .u8 0, .int .u8 4, .int .u8 1, .int .u8 0] 5)
          have hA5 : At (wr.alloc (.cells #[.int .u8 (i1 : Int), .int .u8 0, .int .u8 0, .int .u8 0, .int .u8 0, .int .u8 4, .int .u8 1, .int .u8 0] 5)) (some ⟨wr.heap.size, 0, none⟩) (blkI i1 0 4 32) := fun _ => ⟨_, _, rfl, Bs.ofBlk hB5⟩
          have hx5 := hbel.trans (hb5.mono hbel.size)
          have hs5 : wr.heap.size < (wr.alloc (.cells #[.int .u8 (i1 : Int), .int .u8 0, .int .u8 0, .int .u8 0, .int .u8 0, .int .u8 4, .int .u8 1, .int .u8 0] 5)).heap.size := by rw [World.size_alloc]; omega
          have HA5 := Lib.hid hA5
          have HB5 := Lib.hid hb5
          have HX5 := Lib.hid hx5
          clear hB5 hbk hA5 hb5 hx5 hbb hAt
          generalize cmacN 1 key (blkI i1 0 4 32) = X at *
          have HST := Lib.hid hst; clear hst
          have HXL := Lib.hid hcl; clear hcl
          have HQ := Lib.hid hQ; clear hQ
          have HTLL := Lib.hid htl; clear htl
          go_wp2_with fail
          generalize wr.alloc (.cells #[.int .u8 (i1 : Int), .int .u8 0, .int .u8 0, .int .u8 0, .int .u8 0, .int .u8 4, .int .u8 1, .int .u8 0] 5) = w5 at *
          refine (hCM.out _ _ _ (HAW.out _ HX5.out) HA5.out).mono ?_
          rintro e w6 ⟨⟨gv, ov, cv, rfl, hgv, hBv⟩, hb6⟩
          have hb56 := HB5.out.trans (hb6.mono (by omega))
          have hB6 := hB.below hb56 hB.lt
          have hown6 := OwnN.below hown hb56 (Nat.le_refl _)
          skip
          have hbel6 := hbel.trans (hb56.mono hbel.size)
          have hs6 := hb56.size
          have hgvl := hBv.lt (ne_nil HXL.out (by omega))
          have hne6 : (Value.slice A1 Q cap).ownBlock ≠ some gv := fun e => by have := (World.ownsRow.lt hown _ e).2; omega
          clear hB hown hbel hb6 hb56 HA5 HB5 HX5 hcl0
          go_wp2_with (first
            | (refine wpList_store_all rfl 85 (.tmp 13) (.tmp 75) rfl w6.heap.size #[.slice none 0 0, .slice none 0 0] rfl rfl 85 #[.slice none 0 0, .slice none 0 0] (Blk.new w6 _ _) (by rw [info_book]; rfl) rfl (by simp [Value.oneCell']) ?_; intro w8 hB8 hO8; have hbx := hO8.below ((Below.refl w6.heap.size w6).alloc (Nat.le_refl _) (.cells #[.slice none 0 0, .slice none 0 0] 85)) (Nat.le_refl _); have hBo := hB6.below hbx hB6.lt; have hown8 := OwnN.below hown6 hbx (Nat.le_refl _); have hbel8 := hbel6.trans (hbx.mono hbel6.size); have hBv8 := hBv.below hbx hgvl; have hs8 := hbx.size; have hc8 : w8.cell? ⟨w.heap.size, 0, none⟩ = some (.slice A1 Q cap) := hBo.cell 0; clear hB6 hown6 hbel6 hBv hbx hB8 hO8)
            | (at_builtin; refine wpList_append_w rfl (.tmp 81) (.tmp 82) rfl wm2 w8 _ (TO0 j) rfl (by have h := hown8; rw [← HTLL.out] at h; rw [← HTLL.out]; exact h) (Below.refl _ _) (by omega) gv ov 16 cv X rfl HXL.out hBv8 (by rw [HTLL.out]; omega) ?_; intro v7 w9 hown9 hb9 hgr9 hat9; (have hl7 : (TO0 j ++ X).length = Q + 16 := by rw [List.length_append, HTLL.out, HXL.out]); obtain ⟨g7, c7, rfl, -, -, -⟩ := Own.at_ (OwnN.bytes hown9) hl7 (by omega); clear hl7 hat9; have hB9 := hBo.below hb9 hgm; have hc9 : w9.cell? ⟨w.heap.size, 0, none⟩ = some (.slice A1 Q cap) := hB9.cell 0; have hf9 : w9.frozen? ⟨w.heap.size, 0, none⟩ = false := hB9.frozen 0))
          have hk9 : Keep w.heap.size w9 (w9.setCell ⟨w.heap.size, 0, none⟩ (.slice (some ⟨g7, 0, none⟩) (Q + 16) c7)) := (Keep.refl _ _).setCell 0 (.slice (some ⟨g7, 0, none⟩) (Q + 16) c7)
          have hB10 := (hB9.setc (.slice (some ⟨g7, 0, none⟩) (Q + 16) c7)).1
          rw [← HST.out] at hown9
          have hown10 := OwnN.keepW hown9 hk9 (fun e => by have := (World.ownsRow.lt hown9 _ e).1; omega)
          skip
          have hbel10 := hk9.below (hbel8.trans (hb9.mono (by omega))) (by have := hb9.size; omega) (Nat.le_refl _)
          have hs10 : wm2 ≤ (w9.setCell ⟨w.heap.size, 0, none⟩ (.slice (some ⟨g7, 0, none⟩) (Q + 16) c7)).heap.size := by have := hk9.size; have := hb9.size; omega
          have hi2 : i1 + 1 = j + 1 + 1 := by rw [hi1.out]
          have HI2 := Lib.hid hi2; clear hi2
          rw [hi1.out] at hown10
          have HB10 := Lib.hid hB10
          have HO10 := Lib.hid hown10
          have HBEL10 := Lib.hid hbel10
          skip
          have hi4' : i1 + 1 ≤ 4 := by have := hi1.out; omega
          clear hB10 hown10 hbel10 hown9 hb9 hgr9 hB9 hc9 hf9 hBo hown8 hbel8 hBv8 hk9
          go_roundw
          case rel => exact ⟨j + 1, i1 + 1, (.slice (some ⟨g7, 0, none⟩) (Q + 16) c7), by omega, by go_num, HI2.out, hi4', HB10.out, HO10.out, HBEL10.out, hs10⟩
          case measure => have := hi1.out; simp [intOf]; omega
        · obtain rfl : j = 2 := by omega
          have hl2 : (TO0 2).length = 32 := by rw [htl]
          rw [show 16 * 2 = 32 from rfl] at hown hcap hB hcl0
          obtain ⟨gx, cx, e', hgx, hgxl, hBx⟩ := Own.addr (OwnN.bytes hown) (ne_nil hl2 (by omega))
          injection e' with e1' e2' e3'
          subst e1'
          have hown' : Own wr wm2 (.slice (some ⟨gx, 0, none⟩) 32 cap) (TO0 2) := hown
          have hpre := Own.pre hown' 32 (by rw [hl2]; decide)
          rw [← HF0.out] at hpre
          have hfr : wr.frozen? ⟨w.heap.size, 0, none⟩ = false := hB.frozen 0
          have hk9 : Keep w.heap.size wr (wr.setCell ⟨w.heap.size, 0, none⟩ (.slice (some ⟨gx, 0, none⟩) 32 cap)) := (Keep.refl _ _).setCell 0 _
          have hpre2 : OwnN 5 .u8 wr wm2 (.slice (some ⟨gx, 0, none⟩) 32 cap) R0 := hpre
          have hpre3 := OwnN.more (C := w.heap.size + 1) (OwnN.keepW hpre2 hk9 (fun e => by have := (World.ownsRow.lt hpre2 _ e).1; omega)) (by omega)
          skip
          have hB3 := (hB.setc (.slice (some ⟨gx, 0, none⟩) 32 cap)).1
          have hbel3 := hk9.below hbel hbel.size (Nat.le_refl _)
          have hnc : (32 : Int) ≤ (cap : Int) := by omega
          have HP3 := Lib.hid hpre3
          have HB3 := Lib.hid hB3
          have HBEL3 := Lib.hid hbel3
          skip
          clear e2' e3' hBx hown hown' hpre hpre2 hpre3 hB3 hbel3 hk9 hB hbel hAt htl hl2
          go_wp2
          go_roundw
          case rel => exact ⟨1, by go_num, HBEL3.out, .inr (.inl ⟨rfl, _, HB3.out, HP3.out⟩)⟩
          case measure => simp [intOf]
    · rw [show ((1 : Nat) : Int) = 1 from rfl]
      obtain ⟨wm, rfl⟩ : ∃ wm, wm = wr := ⟨_, rfl⟩
      clear HB0 HBE0
      have hwm := hbel.size
      have hgm := hB.lt
      have hvalt : ∀ g, va.ownBlock = some g → g < wm.heap.size := fun g h => (World.ownsRow.lt hVA g h).2
      obtain ⟨wm2, hwm2⟩ : ∃ wm2, wm2 = wm.heap.size := ⟨_, rfl⟩
      rw [← hwm2] at hgm hwm hvalt
      have HWM := Lib.hid hwm2; clear hwm2
      have hst0 : ∃ j i1 : Nat, ∃ v : Value, j ≤ 2 ∧ (.int .i64 1 : Value) = .int .i64 i1 ∧ Hid (i1 = j + 1) ∧ i1 ≤ 4 ∧ Blk wm w.heap.size 82 #[va, v] ∧ OwnN 5 .u8 wm wm2 v (TO1 j) ∧ OwnN 5 .u8 wm (w.heap.size + 1) va R0 ∧ Below w.heap.size w wm ∧ wm2 ≤ wm.heap.size :=
        ⟨0, 1, .slice none 0 0, by omega, rfl, rfl, by omega, hB, by rw [H01.out]; exact OwnN.nil _ _ _ _, hVA, hbel, by rw [HWM.out]; exact Nat.le_refl _⟩
      have HST0 := Lib.hid hst0; clear hst0 hB hbel hVA
      go_wp2
      go_loopw [12] (fun i wv => ∃ j i1 : Nat, ∃ v : Value, j ≤ 2 ∧ i = .int .i64 i1 ∧ Hid (i1 = j + 1) ∧ i1 ≤ 4 ∧ Blk wv w.heap.size 82 #[va, v] ∧ OwnN 5 .u8 wv wm2 v (TO1 j) ∧ OwnN 5 .u8 wv (w.heap.size + 1) va R0 ∧ Below w.heap.size w wv ∧ wm2 ≤ wv.heap.size) (fun i _ => 10 - (intOf i).toNat)
      case atStart => exact HST0.out
      case round =>
        obtain ⟨j, i1, v, hj, rfl, hi1, hi4, hB, hown, hVA, hbel, hsz⟩ := hrel
        have htl := (HTO1.out j (by omega)).1
        obtain ⟨A1, cap, rfl, hcap, hAt⟩ := OwnN.form hown
        rw [htl] at hown hcap hB
        have hcl0 : wr.cell? ⟨w.heap.size, 1, none⟩ = some (.slice A1 (16 * j) cap) := hB.cell 1
        by_cases hlt : j < 2
        · have hqn : ((16 * j : Nat) : Int) < 32 := by omega
          obtain ⟨Q, hQ⟩ : ∃ Q, 16 * j = Q := ⟨_, rfl⟩
          rw [hQ] at hqn hown hcap hB hcl0 htl
          have hQ64 : Q ≤ 64 := by omega
          have hst := HS1.out j
          rw [← hi1.out] at hst
          have hi1b : i1 < 256 := by omega
          have hbb : Byt (blkI i1 1 4 32) := blkI_byt hi1b (by omega) (by omega) (by omega)
          have hCM := Lib.hid (fun A' ct W hA hT => refCmac_any 1 key hk 32 ca HKN.out hca A none none 0 0 0 0 (blkI i1 1 4 32) 8 rfl (by omega) (by omega) hbb A' ct W hA hT)
          have hcl := (cmacN_ok (kind := 1) hk.1 hbb).1
          rw [size_1] at hcl hCM
          have hB5 := Blk.new wr 5 (byteCells (blkI i1 1 4 32))
          have hbk : byteCells (blkI i1 1 4 32) = #[.int .u8 (i1 : Int), .int .u8 0, .int .u8 1, .int .u8 0, .int .u8 0, .int .u8 4, .int .u8 1, .int .u8 0] := rfl
          rw [hbk] at hB5
          have hb5 := (Below.refl wr.heap.size wr).alloc (Nat.le_refl _) (.cells #[.int .u8 (i1 : Int), .int .u8 0, .int .u8 1, .int .u8 0, .int .u8 0, .int .u8 4, .int .u8 1, .int .u8 0] 5)
          have hA5 : At (wr.alloc (.cells #[.int .u8 (i1 : Int), .int .u8 0, .int .u8 1, .int .u8 0, .int .u8 0, .int .u8 4, .int .u8 1, .int .u8 0] 5)) (some ⟨wr.heap.size, 0, none⟩) (blkI i1 1 4 32) := fun _ => ⟨_, _, rfl, Bs.ofBlk hB5⟩
          have hx5 := hbel.trans (hb5.mono hbel.size)
          have hs5 : wr.heap.size < (wr.alloc (.cells #[.int .u8 (i1 : Int), .int .u8 0, .int .u8 1, .int .u8 0, .int .u8 0, .int .u8 4, .int .u8 1, .int .u8 0] 5)).heap.size := by rw [World.size_alloc]; omega
          have HA5 := Lib.hid hA5
          have HB5 := Lib.hid hb5
          have HX5 := Lib.hid hx5
          clear hB5 hbk hA5 hb5 hx5 hbb hAt
          generalize cmacN 1 key (blkI i1 1 4 32) = X at *
          have HST := Lib.hid hst; clear hst
          have HXL := Lib.hid hcl; clear hcl
          have HQ := Lib.hid hQ; clear hQ
          have HTLL := Lib.hid htl; clear htl
          go_wp2_with fail
          generalize wr.alloc (.cells #[.int .u8 (i1 : Int), .int .u8 0, .int .u8 1, .int .u8 0, .int .u8 0, .int .u8 4, .int .u8 1, .int .u8 0] 5) = w5 at *
          refine (hCM.out _ _ _ (HAW.out _ HX5.out) HA5.out).mono ?_
          rintro e w6 ⟨⟨gv, ov, cv, rfl, hgv, hBv⟩, hb6⟩
          have hb56 := HB5.out.trans (hb6.mono (by omega))
          have hB6 := hB.below hb56 hB.lt
          have hown6 := OwnN.below hown hb56 (Nat.le_refl _)
          have hVA6 := OwnN.below hVA hb56 (Nat.le_refl _)
          have hbel6 := hbel.trans (hb56.mono hbel.size)
          have hs6 := hb56.size
          have hgvl := hBv.lt (ne_nil HXL.out (by omega))
          have hne6 : (Value.slice A1 Q cap).ownBlock ≠ some gv := fun e => by have := (World.ownsRow.lt hown _ e).2; omega
          clear hB hown hbel hb6 hb56 HA5 HB5 HX5 hcl0 hVA
          go_wp2_with (first
            | (refine wpList_store_all rfl 85 (.tmp 13) (.tmp 75) rfl w6.heap.size #[.slice none 0 0, .slice none 0 0] rfl rfl 85 #[.slice none 0 0, .slice none 0 0] (Blk.new w6 _ _) (by rw [info_book]; rfl) rfl (by simp [Value.oneCell']) ?_; intro w8 hB8 hO8; have hbx := hO8.below ((Below.refl w6.heap.size w6).alloc (Nat.le_refl _) (.cells #[.slice none 0 0, .slice none 0 0] 85)) (Nat.le_refl _); have hBo := hB6.below hbx hB6.lt; have hown8 := OwnN.below hown6 hbx (Nat.le_refl _); have hVA8 := OwnN.below hVA6 hbx (Nat.le_refl _); have hbel8 := hbel6.trans (hbx.mono hbel6.size); have hBv8 := hBv.below hbx hgvl; have hs8 := hbx.size; have hc8 : w8.cell? ⟨w.heap.size, 1, none⟩ = some (.slice A1 Q cap) := hBo.cell 1; clear hB6 hown6 hbel6 hBv hbx hB8 hO8 hVA6)
            | (at_builtin; refine wpList_append_w rfl (.tmp 81) (.tmp 82) rfl wm2 w8 _ (TO1 j) rfl (by have h := hown8; rw [← HTLL.out] at h; rw [← HTLL.out]; exact h) (Below.refl _ _) (by omega) gv ov 16 cv X rfl HXL.out hBv8 (by rw [HTLL.out]; omega) ?_; intro v7 w9 hown9 hb9 hgr9 hat9; (have hl7 : (TO1 j ++ X).length = Q + 16 := by rw [List.length_append, HTLL.out, HXL.out]); obtain ⟨g7, c7, rfl, -, -, -⟩ := Own.at_ (OwnN.bytes hown9) hl7 (by omega); clear hl7 hat9; have hB9 := hBo.below hb9 hgm; have hc9 : w9.cell? ⟨w.heap.size, 1, none⟩ = some (.slice A1 Q cap) := hB9.cell 1; have hf9 : w9.frozen? ⟨w.heap.size, 1, none⟩ = false := hB9.frozen 1))
          have hk9 : Keep w.heap.size w9 (w9.setCell ⟨w.heap.size, 1, none⟩ (.slice (some ⟨g7, 0, none⟩) (Q + 16) c7)) := (Keep.refl _ _).setCell 1 (.slice (some ⟨g7, 0, none⟩) (Q + 16) c7)
          have hB10 := (hB9.setc (.slice (some ⟨g7, 0, none⟩) (Q + 16) c7)).2
          rw [← HST.out] at hown9
          have hown10 := OwnN.keepW hown9 hk9 (fun e => by have := (World.ownsRow.lt hown9 _ e).1; omega)
          have hVA10 := OwnN.keepW (OwnN.below2 hVA8 hb9 hvalt) hk9 (fun e => by have := (World.ownsRow.lt hVA8 _ e).1; omega)
          have hbel10 := hk9.below (hbel8.trans (hb9.mono (by omega))) (by have := hb9.size; omega) (Nat.le_refl _)
          have hs10 : wm2 ≤ (w9.setCell ⟨w.heap.size, 1, none⟩ (.slice (some ⟨g7, 0, none⟩) (Q + 16) c7)).heap.size := by have := hk9.size; have := hb9.size; omega
          have hi2 : i1 + 1 = j + 1 + 1 := by rw [hi1.out]
          have HI2 := Lib.hid hi2; clear hi2
          rw [hi1.out] at hown10
          have HB10 := Lib.hid hB10
          have HO10 := Lib.hid hown10
          have HBEL10 := Lib.hid hbel10
          have HVA10 := Lib.hid hVA10
          have hi4' : i1 + 1 ≤ 4 := by have := hi1.out; omega
          clear hB10 hown10 hbel10 hown9 hb9 hgr9 hB9 hc9 hf9 hBo hown8 hbel8 hBv8 hk9 hVA10 hVA8
          go_roundw
          case rel => exact ⟨j + 1, i1 + 1, (.slice (some ⟨g7, 0, none⟩) (Q + 16) c7), by omega, by go_num, HI2.out, hi4', HB10.out, HO10.out, HVA10.out, HBEL10.out, hs10⟩
          case measure => have := hi1.out; simp [intOf]; omega
        · obtain rfl : j = 2 := by omega
          have hl2 : (TO1 2).length = 32 := by rw [htl]
          rw [show 16 * 2 = 32 from rfl] at hown hcap hB hcl0
          obtain ⟨gx, cx, e', hgx, hgxl, hBx⟩ := Own.addr (OwnN.bytes hown) (ne_nil hl2 (by omega))
          injection e' with e1' e2' e3'
          subst e1'
          have hown' : Own wr wm2 (.slice (some ⟨gx, 0, none⟩) 32 cap) (TO1 2) := hown
          have hpre := Own.pre hown' 32 (by rw [hl2]; decide)
          rw [← HF1.out] at hpre
          have hfr : wr.frozen? ⟨w.heap.size, 1, none⟩ = false := hB.frozen 1
          have hk9 : Keep w.heap.size wr (wr.setCell ⟨w.heap.size, 1, none⟩ (.slice (some ⟨gx, 0, none⟩) 32 cap)) := (Keep.refl _ _).setCell 1 _
          have hpre2 : OwnN 5 .u8 wr wm2 (.slice (some ⟨gx, 0, none⟩) 32 cap) R1 := hpre
          have hpre3 := OwnN.more (C := w.heap.size + 1) (OwnN.keepW hpre2 hk9 (fun e => by have := (World.ownsRow.lt hpre2 _ e).1; omega)) (by omega)
          have hVA3 := OwnN.keepW hVA hk9 (fun e => by have := (World.ownsRow.lt hVA _ e).1; omega)
          have hB3 := (hB.setc (.slice (some ⟨gx, 0, none⟩) 32 cap)).2
          have hbel3 := hk9.below hbel hbel.size (Nat.le_refl _)
          have hnc : (32 : Int) ≤ (cap : Int) := by omega
          have HP3 := Lib.hid hpre3
          have HB3 := Lib.hid hB3
          have HBEL3 := Lib.hid hbel3
          have HVA3 := Lib.hid hVA3
          clear e2' e3' hBx hown hown' hpre hpre2 hpre3 hB3 hbel3 hk9 hB hbel hAt htl hl2 hVA hVA3
          go_wp2
          go_roundw
          case rel => exact ⟨2, by go_num, HBEL3.out, .inr (.inr ⟨rfl, _, _, HB3.out, HVA3.out, HP3.out⟩)⟩
          case measure => simp [intOf]
    · rw [show ((2 : Nat) : Int) = 2 from rfl]
      have hd0 : wr.drew.cell? ⟨w.heap.size, 0, none⟩ = some va := hB.cell 0
      have hd1 : wr.drew.cell? ⟨w.heap.size, 1, none⟩ = some vb := hB.cell 1
      have hc0 : ∀ m, (wr.drewN m).cell? ⟨w.heap.size, 0, none⟩ = some va := fun m => hB.cell 0
      have hc1 : ∀ m, (wr.drewN m).cell? ⟨w.heap.size, 1, none⟩ = some vb := fun m => hB.cell 1
      clear HB0 HBE0
      go_wp2_with fail
      go_quiet (fail)
      have hfa : Own (wr.drewN nq) w.heap.size va R0 := OwnN.more (C := w.heap.size) (OwnN.below hVA (below_drewN (Below.refl wr.heap.size wr) nq) (Nat.le_refl _)) (by omega)
      have hfb : Own (wr.drewN nq) w.heap.size vb R1 := OwnN.more (C := w.heap.size) (OwnN.below hVB (below_drewN (Below.refl wr.heap.size wr) nq) (Nat.le_refl _)) (by omega)
      have hbf := below_drewN hbel nq
      clear hd0 hd1 hc0 hc1 hB hVA hVB hbel
      go_wp2
      go_ret3
      exact ⟨⟨va, vb, rfl, hfa, hfb⟩, hbf⟩

/-- the reference's keys, where there are keys -/
theorem refKeys_ok (v kind : Nat) (hv : kindV v = kind) (key : List Nat) (hk : KeyOk kind key) (n : Nat) (hn : key.length = n) (A : Option Addr) (ca : Nat) (hca : n ≤ ca) (w : World) (hA : At w A key) :
    Calls Tryz.prog 20 #[.int .u8 v, .slice A n ca] w fun e w' =>
      (∃ va vb, e = .returned (.tuple #[va, vb, .int .i64 0]) ∧ Own w' w.heap.size va (madeN kind key 0) ∧ Own w' w.heap.size vb (madeN kind key 1)) ∧ Below w.heap.size w w' := by
  have h2 := hk.2
  rw [hn] at h2
  rcases h2 with ⟨rfl, rfl | rfl⟩ | ⟨rfl, rfl | rfl | rfl⟩
  · exact refKeys2_16 v hv key hk hn A ca hca w hA
  · exact refKeys2_24 v hv key hk hn A ca hca w hA
  · exact refKeys1_16 v hv key hk hn A ca hca w hA
  · exact refKeys1_24 v hv key hk hn A ca hca w hA
  · exact refKeys1_32 v hv key hk hn A ca hca w hA
set_option maxHeartbeats 1000000 in
/-- the reference's keys, where there are none -/
theorem refKeys_bad (v n : Nat) (hn : n ≤ 1000) (er : Er) (he : keysEr v n = er) (hne : er ≠ .ok) (A : Option Addr) (c : Nat) (w : World) :
    Calls Tryz.prog 20 #[.int .u8 v, .slice A n c] w fun e w' => e = .returned (.tuple #[.slice none 0 0, .slice none 0 0, .int .i64 (erCode er)]) ∧ w = w' := by
  have HK := Lib.hid (fun W => refKind_any v W)
  have hc := kindV_cases v
  unfold keysEr at he
  generalize kindV v = k at *
  by_cases h0 : k = 0
  · rw [if_pos h0] at he
    subst h0
    subst he
    clear hc hne
    go_enter Tryz.func20, Tryz.ntmps20
    go_wp2_with fail
    refine (HK.out _).mono ?_
    rintro e w1 ⟨rfl, rfl⟩
    go_wp2
    go_ret3
    exact ⟨rfl, rfl⟩
  · rw [if_neg h0] at he
    by_cases h1 : sortZ k n < 0
    · rw [if_pos h1] at he
      subst he
      clear hne
      unfold sortZ at h1
      by_cases h2 : n = 16 ∨ n = 24
      · rw [if_pos h2] at h1
        split at h1 <;> omega
      · rw [if_neg h2] at h1
        by_cases h3 : n = 32 ∧ k = 1
        · rw [if_pos h3] at h1; omega
        · have t1 : ((n : Int) != 16) = true := by rw [bne_iff_ne]; omega
          have t2 : ((n : Int) != 24) = true := by rw [bne_iff_ne]; omega
          have t0 : ((k : Int) == 0) = false := by rw [beq_eq_false_iff_ne]; omega
          by_cases h4 : n = 32
          · have h5 : k = 2 := by omega
            subst h5
            have t3 : ((n : Int) != 32) = false := by rw [bne_eq_false_iff_eq]; omega
            clear h1 h2 h3 h4 h0 hc t0
            go_enter Tryz.func20, Tryz.ntmps20
            go_wp2_with fail
            refine (HK.out _).mono ?_
            rintro e w1 ⟨rfl, rfl⟩
            go_wp2
            go_ret3
            exact ⟨rfl, rfl⟩
          · have t3 : ((n : Int) != 32) = true := by rw [bne_iff_ne]; omega
            clear h1 h2 h3 h4 h0 hc
            go_enter Tryz.func20, Tryz.ntmps20
            go_wp2_with fail
            refine (HK.out _).mono ?_
            rintro e w1 ⟨rfl, rfl⟩
            go_wp2
            go_ret3
            exact ⟨rfl, rfl⟩
    · rw [if_neg h1] at he
      exact absurd he.symm hne
end Go.Proofs.YtfkjkkjimdilcaaGreatDoor
