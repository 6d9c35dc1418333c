/- The contracts of mode.Chained's closure, mode.each as Chained calls it, mode.Chained. The contracts of mac.doubled, mac.Pad. The contracts of mode.Chained's closure, deciphering; mode.each as Chained calls it; mode.Chained. The contract of mode.Chained. A row of bytes of one's own: read and written cell by cell. The contract of mac.Pad. The contracts of mac.chain, mac.Cmac. -/
import Derived.Test.YtfkjkkjimdilcaaGreatDoorQModeQ
import Derived.Test.YtfkjkkjimdilcaaGreatDoorQPB
import Derived.Test.YtfkjkkjimdilcaaGreatDoorQNums
set_option maxHeartbeats 8000000
set_option maxRecDepth 100000
/- The contracts of mode.Chained's closure, mode.each as Chained calls it, mode.Chained. -/
namespace Go.Proofs.YtfkjkkjimdilcaaGreatDoor
open Go Go.RowKit Pr

/-- a cipher whose blocks lie below B -/
def CipherB (w : World) (B g kind : Nat) (key : List Nat) (bk : Value) : Prop :=
 g < B ∧ ∃ gk cp, Blk w g 120 #[.int .i64 kind, .slice (some ⟨gk, 0, none⟩) key.length cp, bk] ∧ key.length ≤ cp ∧ Bs w gk 0 key ∧ gk < B ∧ gk < w.heap.size
theorem CipherAt.low {w : World} {g kind : Nat} {key : List Nat} {bk : Value} (h : CipherAt w g kind key bk) : CipherB w w.heap.size g kind key bk := by
 have hl := h.lt; obtain ⟨gk, cp, hB, hc, hK, hk⟩ := h; exact ⟨hl, gk, cp, hB, hc, hK, hk, hk⟩
theorem CipherB.at_ {w : World} {B g kind : Nat} {key : List Nat} {bk : Value} (h : CipherB w B g kind key bk) : CipherAt w g kind key bk := by
 obtain ⟨_, gk, cp, hB, hc, hK, _, hk⟩ := h; exact ⟨gk, cp, hB, hc, hK, hk⟩
theorem CipherB.keep {w w' : World} {B g kind x : Nat} {key : List Nat} {bk : Value} (h : CipherB w B g kind key bk) (hk : Keep x w w') (hx : B ≤ x) : CipherB w' B g kind key bk := by
 obtain ⟨hg, gk, cp, hB, hc, hK, hkB, hl⟩ := h; exact ⟨hg, gk, cp, hB.keep hk (by omega), hc, hK.keep hk (by omega), hkB, Nat.lt_of_lt_of_le hl hk.size⟩
theorem CipherB.below {w w' : World} {B C g kind : Nat} {key : List Nat} {bk : Value} (h : CipherB w B g kind key bk) (hb : Below C w w') (hC : B ≤ C) : CipherB w' B g kind key bk := by
 obtain ⟨hg, gk, cp, hB, hc, hK, hkB, hl⟩ := h; exact ⟨hg, gk, cp, hB.below hb (by omega), hc, hK.below hb (by omega), hkB, Nat.lt_of_lt_of_le hl hb.size⟩
theorem CipherB.grown {w w' : World} {B g kind : Nat} {key : List Nat} {bk : Value} {row : Option Nat} (h : CipherB w B g kind key bk) (hg : w.grownBy w' row) (hr : ∀ r, row = some r → B ≤ r) : CipherB w' B g kind key bk := by
 obtain ⟨hgB, gk, cp, hB, hc, hK, hkB, hl⟩ := h; have hs := hg.size; refine ⟨hgB, gk, cp, (hg.block g hB.lt (fun e => by have := hr g e.symm; omega)).trans hB, hc, fun j v hv => ?_, hkB, by omega⟩; exact (World.cell?_of_block (a := ⟨gk, 0 + j, none⟩) (hg.block gk hl (fun e => by have := hr gk e.symm; omega))).trans (hK j v hv)
theorem Own.addr {w : World} {B : Nat} {v : Value} {l : List Nat} (h : Own w B v l) (hl : l ≠ []) : ∃ g cap, v = .slice (some ⟨g, 0, none⟩) l.length cap ∧ B ≤ g ∧ g < w.heap.size ∧ Bs w g 0 l := by
 obtain ⟨g, cap, e, h1, _, h2, h3⟩ := Own.form h hl; exact ⟨g, cap, e, h1, h2, h3⟩
theorem ne_nil {l : List Nat} {n : Nat} (h : l.length = n) (hn : 0 < n) : l ≠ [] := fun e => by rw [e] at h; simp at h; omega
theorem Keep.setBelow {w w' : World} {gl i : Nat} {u : Value} (h : Below w.heap.size w w') (_hg : gl < w.heap.size) : Keep gl w (w'.setCell ⟨gl, i, none⟩ u) := (Keep.ofBelow h).setCell i u

/-- what the closure has in hand -/
structure ChIn (W : World) (B gb gc gl g kind : Nat) (key : List Nat) (bk : Value) (back : Bool) (bl ol cl : Nat) (last : List Nat) : Prop where
 hgb : gb < B
 hgc : gc < B
 hgl : B ≤ gl
 fb : Blk W gb 4 #[.bool back]
 fc : Blk W gc 61 #[.pointer (some ⟨g, 0, none⟩)]
 fl : Blk W gl 22 #[.slice (some ⟨bl, ol, none⟩) (sizeN kind) cl]
 hbl : bl < W.heap.size
 fs : Bs W bl ol last
 fC : CipherB W B g kind key bk
theorem ChIn.keep {W W' : World} {B gb gc gl g kind : Nat} {key : List Nat} {bk : Value} {back : Bool} {bl ol cl bl' ol' cl' : Nat} {last last' : List Nat} (h : ChIn W B gb gc gl g kind key bk back bl ol cl last) (hk : Keep gl W W')
    (fl : Blk W' gl 22 #[.slice (some ⟨bl', ol', none⟩) (sizeN kind) cl']) (hbl : bl' < W'.heap.size) (fs : Bs W' bl' ol' last') : ChIn W' B gb gc gl g kind key bk back bl' ol' cl' last' :=
 ⟨h.hgb, h.hgc, h.hgl, h.fb.keep hk (by have := h.hgb; have := h.hgl; omega), h.fc.keep hk (by have := h.hgc; have := h.hgl; omega), fl, hbl, fs, h.fC.keep hk h.hgl⟩

/-- the closure, enciphering -/
theorem chainE1 (W : World) (B gb gc gl g kind : Nat) (key : List Nat) (hk : KeyOk kind key) (bk : Value) (bl ol cl : Nat) (last : List Nat) (hll : last.length = sizeN kind) (hlb : Byt last) (hI : ChIn W B gb gc gl g kind key bk false bl ol cl last)
    (b o c : Nat) (x : List Nat) (hx : x.length = sizeN kind) (gx : Byt x) (hA : Bs W b o x) :
    Calls Tryz.prog 65 #[.slice (some ⟨b, o, none⟩) (sizeN kind) c, .pointer (some ⟨gb, 0, none⟩), .pointer (some ⟨gc, 0, none⟩), .pointer (some ⟨gl, 0, none⟩)] W fun e W' =>
     ∃ gy, e = .returned (.tuple #[.slice (some ⟨gy, 0, none⟩) (sizeN kind) (sizeN kind), .nilIface]) ∧ W.heap.size ≤ gy ∧ Bs W' gy 0 (ciN kind key (xorTo x last (sizeN kind)) false) ∧ ChIn W' B gb gc gl g kind key bk false gy 0 (sizeN kind) (ciN kind key (xorTo x last (sizeN kind)) false) ∧ Keep gl W W' := by
 have h16 := size_le kind; have hpos := size_pos kind; have HX := Hh (modeXor_any x last (sizeN kind) hx hll (by omega) gx hlb (some ⟨b, o, none⟩) (some ⟨bl, ol, none⟩) c cl W (fun _ => ⟨_, _, rfl, hA⟩) (fun _ => ⟨_, _, rfl, hI.fs⟩)); have hXl : (xorTo x last (sizeN kind)).length = sizeN kind := by rw [xorTo_len, hx]
 have hXb := xor_byt gx hlb (sizeN kind); generalize xorTo x last (sizeN kind) = X at *; have HD := Hh (fun A cx w hC hA => ciDo_any g kind key hk bk X hXl hXb false A cx w hC hA); have hYl := ciN_len kind key X false; generalize ciN kind key X false = Y at *; have cb : W.cell? ⟨gb, 0, none⟩ = some (.bool false) := hI.fb.cell 0; have cl0 : W.cell? ⟨gl, 0, none⟩ = some (.slice (some ⟨bl, ol, none⟩) (sizeN kind) cl) := hI.fl.cell 0; have HI := Hh hI; have hgl := hI.fl.lt; have hgcl := hI.fc.lt; clear hI hA; generalize hn : sizeN kind = n at *; have HN := Hh hn; clear hn
 go_enter Tryz.func65, Tryz.ntmps65
 go_wp2_with fail
 refine (HX.out).mono ?_; rintro e w1 ⟨⟨v, rfl, hv⟩, hb1⟩; obtain ⟨gX, cX, rfl, hgX, hgX1, hBX⟩ := hv.addr (ne_nil hXl hpos); rw [hXl]; have cc1 : w1.cell? ⟨gc, 0, none⟩ = some (.pointer (some ⟨g, 0, none⟩)) := (HI.out.fc.below hb1 hgcl).cell 0; have fC1 := Hh ((HI.out.fC.below hb1 (by have := HI.out.hgl; omega)).at_); have HBX := Hh hBX; clear hv HX cb cl0; go_wp2_with fail
 refine (HD.out (some ⟨gX, 0, none⟩) cX w1 fC1.out (fun _ => ⟨_, _, rfl, HBX.out⟩)).mono ?_; rintro e w2 ⟨⟨gy, rfl, hgy, hBy⟩, hb2⟩; have hb12 := hb1.trans (hb2.mono hb1.size); have hB2 := HI.out.fl.below hb12 hgl; have cl2 : w2.cell? ⟨gl, 0, none⟩ = some (.slice (some ⟨bl, ol, none⟩) n cl) := by have := hB2.cell 0; rw [HN.out] at this; exact this
 have fr2 : w2.frozen? ⟨gl, 0, none⟩ = false := hB2.frozen 0; have hs1 := hb1.size; have hbyl := hBy.lt (ne_nil hYl hpos); have hk2 := Keep.setBelow (i := 0) (u := .slice (some ⟨gy, 0, none⟩) n n) hb12 hgl; have hl2 : Blk (w2.setCell ⟨gl, 0, none⟩ (.slice (some ⟨gy, 0, none⟩) n n)) gl 22 #[.slice (some ⟨gy, 0, none⟩) n n] := hB2.set_ 0 _; have hy2 : Bs (w2.setCell ⟨gl, 0, none⟩ (.slice (some ⟨gy, 0, none⟩) n n)) gy 0 Y := hBy.only (Only.setCell w2 gl 0 _) (by omega); have hz2 : gy < (w2.setCell ⟨gl, 0, none⟩ (.slice (some ⟨gy, 0, none⟩) n n)).heap.size := by rw [(Only.setCell w2 gl 0 _).size]; exact hbyl
 have cl3 : (w2.setCell ⟨gl, 0, none⟩ (.slice (some ⟨gy, 0, none⟩) n n)).cell? ⟨gl, 0, none⟩ = some (.slice (some ⟨gy, 0, none⟩) n n) := hl2.cell 0; have HK2 := Hh hk2; clear hk2; have HL2 := Hh hl2; clear hl2; have HY2 := Hh hy2; clear hy2; have HZ2 := Hh hz2; clear hz2; clear hB2 hBy cc1; go_wp2
 go_ret2
 exact ⟨gy, rfl, by omega, HY2.out, HI.out.keep HK2.out (by rw [HN.out]; exact HL2.out) HZ2.out HY2.out, HK2.out⟩

theorem or_bit (s c : Nat) (hs : s % 2 = 0) (hc : c < 2) : s ||| c = s + c := by
 have h := Nat.two_pow_add_eq_or_of_lt (i := 1) (b := c) (by omega) (s / 2); rw [Nat.pow_one, show 2 * (s / 2) = s by omega] at h; exact h.symm
def dbl0 (l : List Nat) : List Nat := (List.range l.length).map fun i => 2 * l.getD i 0 % 256 + l.getD (i + 1) 0 / 128
theorem dbl0_len (l : List Nat) : (dbl0 l).length = l.length := by simp [dbl0]
theorem dbl0_at (l : List Nat) (k : Nat) (h : k < l.length) : (dbl0 l).getD k 0 = 2 * l.getD k 0 % 256 + l.getD (k + 1) 0 / 128 := rangeD _ _ _ h
theorem dbl0_byt {l : List Nat} (h : Byt l) : Byt (dbl0 l) := fun c hc => by
 obtain ⟨i, _, rfl⟩ := List.mem_map.1 hc; have h1 := h.at_ i; have h2 := h.at_ (i + 1); omega
theorem dblN_eq (l : List Nat) : dblN l = if 128 ≤ l.getD 0 0 then (dbl0 l).set (l.length - 1) ((dbl0 l).getD (l.length - 1) 0 ^^^ (if l.length = 8 then 27 else 135)) else dbl0 l := rfl

theorem doubled_any (l : List Nat) (n : Nat) (hn : l.length = n) (h816 : n = 8 ∨ n = 16) (gl : Byt l) (b o c : Nat) (w : World) (hA : Bs w b o l) :
    Calls Tryz.prog 60 #[.slice (some ⟨b, o, none⟩) n c] w fun e w' => (∃ g, e = .returned (.slice (some ⟨g, 0, none⟩) n n) ∧ w.heap.size ≤ g ∧ Blk w' g 5 (byteCells (dblN l))) ∧ Below w.heap.size w w' := by
 have hOl := dbl0_len l; have hOk := fun k h => dbl0_at l k h; have hOb := dbl0_byt gl; have hD := dblN_eq l; have hbl := hA.lt (ne_nil hn (by omega)); rw [hn] at hOl hD hOk
 have hcx : ∀ k, k < n → ∀ W, Below w.heap.size w W → W.cell? ⟨b, o + k, none⟩ = some (.int .u8 (l.getD k 0 : Nat)) := fun k hk W hW => by
  rw [getD_of _ _ (by omega)]; exact (hA.below hW hbl).cell k (by omega)
 have hend : l.getD n 0 = 0 := by rw [List.getD_eq_getElem?_getD, List.getElem?_eq_none (by omega)]; rfl
 have HX := Hh (fun k => gl.at_ k); generalize dbl0 l = O at *; generalize dblN l = D at *; have HOL := Hh hOl; clear hOl; have HOK := Hh hOk; clear hOk; have HOB := Hh hOb; clear hOb; have HD := Hh hD; clear hD; have HCX := Hh hcx; clear hcx; have HEN := Hh hend; clear hend; have HN := Hh hn; clear hn hA gl; have h1000 : n ≤ 1000 := by omega
 have h8 : 8 ≤ n := by omega
 go_enter Tryz.func60, Tryz.ntmps60
 go_wp2_with (refine wpList_make_bytes rfl (.tmp 7) (.tmp 7) rfl .i64 .i64 n n n rfl rfl rfl rfl (by omega) ?_; intro w1 hb1 hB1 hs1)
 have HS1 := Hh hs1; clear hs1
 go_loopw [11] (fun i wr => ∃ k : Nat, k ≤ n ∧ i = .int .i64 k ∧ Blk wr w.heap.size 5 (byteCells (fillN O n k)) ∧ Below w.heap.size w wr) (fun i _ => n - (intOf i).toNat)
 case atStart => exact ⟨0, by omega, rfl, by simpa [fillN] using hB1, hb1⟩
 case round =>
  obtain ⟨k, hk, rfl, hBr, hbr⟩ := hrel
  by_cases hlt : k < n
  ·
   have hl := fillN_len O n k hk HOL.out; have hc0 := HCX.out k hlt wr hbr; have hfr := hBr.frozen k; obtain ⟨c0, hcell⟩ : ∃ c, wr.cell? ⟨w.heap.size, k, none⟩ = some c := ⟨_, (hBr.cell k).trans (get_byteCells _ k (by rw [hl]; exact hlt))⟩; have hst := fillN_set O n k hlt HOL.out; have hOk : O[k]'(by rw [HOL.out]; exact hlt) = 2 * l.getD k 0 % 256 + l.getD (k + 1) 0 / 128 := by rw [← HOK.out k hlt, getD_of]
   rw [hOk] at hst; have hx1 := HX.out k; have hx2 := HX.out (k + 1); have hen := HEN.out
   have hset : ∀ v : Nat, Blk (wr.setCell ⟨w.heap.size, k, none⟩ (.int .u8 (v : Int))) w.heap.size 5 (byteCells ((fillN O n k).set k v)) := fun v => by
    have := hBr.set_ k (.int .u8 (v : Int)); rw [set_byteCells] at this; exact this
   have hbel : ∀ u, Below w.heap.size w (wr.setCell ⟨w.heap.size, k, none⟩ u) := fun u => hbr.setCell (by show w.heap.size ≤ w.heap.size; omega) _
   by_cases hk1 : k + 1 < n
   ·
    obtain ⟨T, hT⟩ : ∃ T, k + 1 = T := ⟨_, rfl⟩; have hTn : T < n := by omega
    have hc1 := HCX.out T hTn; rw [hT] at hst hx2; generalize l.getD k 0 = x1 at *; generalize l.getD T 0 = x2 at *; obtain ⟨s, hs⟩ : ∃ s, 2 * x1 % 256 = s := ⟨_, rfl⟩; obtain ⟨u, hu⟩ : ∃ u, x2 / 128 = u := ⟨_, rfl⟩; have hv : (x1 : Int) * 2 % 256 = (s : Int) := by omega
    have hx2d : (x2 : Int) / 128 = (u : Int) := by omega
    have hor : bits .or .u8 (s : Int) (u : Int) = ((s + u : Nat) : Int) := by
     rw [u8_or_nat _ _ (by omega) (by omega), or_bit _ _ (by omega) (by omega)]
    have hk1I : ((k : Int) + 1) < (n : Int) := by omega
    have hTI : (T : Int) < (n : Int) := by omega
    have e1 : IntKind.i64.wrap ((k : Int) + 1) = (T : Int) := by rw [IntWalk.i64_in _ (by omega)]; omega
    rw [hs, hu] at hst; have HX12 := Hh (And.intro hx1 hx2); clear hx1 hx2; have HV := Hh hv; clear hv; have HSET := Hh hset; clear hset; have HBEL := Hh hbel; clear hbel; have HC1 := Hh hc1; clear hc1; have HST := Hh hst; clear hst hOk hen hl; have HT := Hh hT; clear hT; have HOR := Hh hor; clear hor; have HX2D := Hh hx2d; clear hx2d; clear hs hu; have hE1 := Hh e1; clear e1; go_wp2_with fail
    rw [HV.out]; have hB1 := HSET.out s; have hbel1 := HBEL.out (.int .u8 (s : Int)); generalize wr.setCell ⟨w.heap.size, k, none⟩ (.int .u8 (s : Int)) = W1 at *; have hl1 : ((fillN O n k).set k s).length = n := by rw [List.length_set]; exact fillN_len O n k hk HOL.out
    have cA : W1.drew.cell? ⟨w.heap.size, k, none⟩ = some (.int .u8 (s : Int)) := by
     have h1 := hB1.cell k; rw [cellD _ k (by rw [hl1]; exact hlt)] at h1; have h2 : ((fillN O n k).set k s).getD k 0 = s := by rw [getD_of _ _ (by rw [hl1]; exact hlt), List.getElem_set_self]
     rw [h2] at h1; exact h1
    have fA : W1.drew.frozen? ⟨w.heap.size, k, none⟩ = false := hB1.frozen k; have cB := HC1.out W1.drew (below_drewN hbel1 1); have hst2 : (((fillN O n k).set k s).set k (s + u)) = fillN O n (k + 1) := by rw [List.set_set, HT.out]; exact HST.out
    have hB2 : Blk (W1.drew.setCell ⟨w.heap.size, k, none⟩ (.int .u8 ((s + u : Nat) : Int))) w.heap.size 5 (byteCells (fillN O n (k + 1))) := by
     have h1 := (hB1.drewN 1).set_ k (.int .u8 ((s + u : Nat) : Int)); rw [set_byteCells, hst2] at h1; exact h1
    rw [← HOR.out] at hB2; have hbel2 : Below w.heap.size w W1.drew := below_drewN hbel1 1; have HB2 := Hh hB2; clear hB2; have e1 := hE1.out; have hx2d := HX2D.out; clear hB1 hl1 hst2 hcell hfr hc0 hbel1 hBr
    go_still_tail 12, (by kernel_rfl)
    change wpList _ _ _ _ _ W1.drew
    generalize W1.drew = w2 at *; go_wp2
    go_roundw
    case rel => exact ⟨T, by omega, by first | rfl | go_num, by rw [← HT.out]; exact HB2.out, hbel2.setCell (by show w.heap.size ≤ w.heap.size; omega) _⟩
    case measure => have h9 := HT.out; simp [intOf]; omega
   ·
    obtain rfl : k = n - 1 := by omega
    have hnn : n - 1 + 1 = n := by omega
    rw [hnn] at hst; rw [hen] at hst; obtain ⟨K, hK⟩ : ∃ K, n - 1 = K := ⟨_, rfl⟩; rw [hK] at hst hc0 hfr hcell hset hbel hBr hl ⊢; generalize l.getD K 0 = x1 at *; obtain ⟨s, hs⟩ : ∃ s, 2 * x1 % 256 = s := ⟨_, rfl⟩; have hv : (x1 : Int) * 2 % 256 = (s : Int) := by omega
    have hKI : ¬ ((K : Int) + 1) < (n : Int) := by omega
    have hKn : K < n := by omega
    have hKI2 : (K : Int) < (n : Int) := by omega
    have hB1 := hset s; rw [hs, Nat.zero_div, Nat.add_zero] at hst; rw [hst] at hB1; have hbel1 := hbel (.int .u8 (s : Int)); have HB1 := Hh hB1; clear hB1; have HBEL1 := Hh hbel1; clear hbel1; have HV := Hh hv; clear hv; have HK := Hh hK; clear hK; have HX1 := Hh hx1; clear hx1 hx2; clear hs hst hset hbel hl hOk hen hnn hk1 hlt hk; go_wp2
    rw [HV.out]; generalize wr.setCell ⟨w.heap.size, K, none⟩ (.int .u8 (s : Int)) = W1 at *
    go_roundw
    case rel => exact ⟨n, by omega, by have := HK.out; go_num, HB1.out, HBEL1.out⟩
    case measure => have h9 := HK.out; simp [intOf]; omega
  ·
   obtain rfl : k = n := by omega
   rw [fillN_end _ _ HOL.out] at hBr; have hc0 := HCX.out 0 (by omega) wr hbr; rw [Nat.add_zero] at hc0; have hx0 := HX.out 0; have hD := HD.out; have hh := high1 _ hx0; generalize l.getD 0 0 = x0 at *; have HX0 := Hh hx0; clear hx0
   have hset : ∀ (k v : Nat), Blk (wr.setCell ⟨w.heap.size, k, none⟩ (.int .u8 (v : Int))) w.heap.size 5 (byteCells (O.set k v)) := fun k v => by
    have := hBr.set_ k (.int .u8 (v : Int)); rw [set_byteCells] at this; exact this
   by_cases h1 : 128 ≤ x0
   ·
    rw [if_pos h1] at hD hh; have hho : (((128 : Nat) : Int) != 0) = true := rfl
    rcases h816 with rfl | rfl
    ·
     have hk7 : wr.cell? ⟨w.heap.size, 7, none⟩ = some (.int .u8 (O.getD 7 0 : Nat)) := (hBr.cell 7).trans (cellD O 7 (by rw [HOL.out]; omega)); have hf7 : wr.frozen? ⟨w.heap.size, 7, none⟩ = false := hBr.frozen 7; have hxx := u8_xor_nat (O.getD 7 0) 27 (HOB.out.at_ 7) (by omega); have hB7 := hset 7 (O.getD 7 0 ^^^ 27); have hD7 : D = O.set 7 (O.getD 7 0 ^^^ 27) := hD; rw [← hD7, ← hxx] at hB7; have HB7 := Hh hB7; clear hB7 hD hD7 hxx hset; have hbel7 := hbr.setCell (p := ⟨w.heap.size, 7, none⟩) (by show w.heap.size ≤ w.heap.size; omega) (.int .u8 (bits .xor .u8 (O.getD 7 0 : Nat) 27)); generalize O.getD 7 0 = y at *; have HBEL7 := Hh hbel7; clear hbel7; go_wp2
     go_ret
     exact ⟨⟨_, rfl, Nat.le_refl _, HB7.out⟩, HBEL7.out⟩
    ·
     have hk7 : wr.cell? ⟨w.heap.size, 15, none⟩ = some (.int .u8 (O.getD 15 0 : Nat)) := (hBr.cell 15).trans (cellD O 15 (by rw [HOL.out]; omega)); have hf7 : wr.frozen? ⟨w.heap.size, 15, none⟩ = false := hBr.frozen 15; have hxx := u8_xor_nat (O.getD 15 0) 135 (HOB.out.at_ 15) (by omega); have hB7 := hset 15 (O.getD 15 0 ^^^ 135); have hD7 : D = O.set 15 (O.getD 15 0 ^^^ 135) := hD; rw [← hD7, ← hxx] at hB7; have HB7 := Hh hB7; clear hB7 hD hD7 hxx hset; have hbel7 := hbr.setCell (p := ⟨w.heap.size, 15, none⟩) (by show w.heap.size ≤ w.heap.size; omega) (.int .u8 (bits .xor .u8 (O.getD 15 0 : Nat) 135)); generalize O.getD 15 0 = y at *; have HBEL7 := Hh hbel7; clear hbel7; go_wp2
     go_ret
     exact ⟨⟨_, rfl, Nat.le_refl _, HB7.out⟩, HBEL7.out⟩
   ·
    rw [if_neg h1] at hD hh; have hho : (((0 : Nat) : Int) != 0) = false := rfl; rw [← hD] at hBr; clear hD hset; have HBR := Hh hBr; clear hBr; go_wp2
    go_ret
    exact ⟨⟨_, rfl, Nat.le_refl _, HBR.out⟩, hbr⟩

/-- the closure, deciphering -/
theorem chainD1 (W : World) (B gb gc gl g kind : Nat) (key : List Nat) (hk : KeyOk kind key) (bk : Value) (bl ol cl : Nat) (last : List Nat) (hll : last.length = sizeN kind) (hlb : Byt last) (hI : ChIn W B gb gc gl g kind key bk true bl ol cl last)
    (b o c : Nat) (x : List Nat) (hx : x.length = sizeN kind) (gx : Byt x) (hA : Bs W b o x) (hbgl : b ≠ gl) :
    Calls Tryz.prog 65 #[.slice (some ⟨b, o, none⟩) (sizeN kind) c, .pointer (some ⟨gb, 0, none⟩), .pointer (some ⟨gc, 0, none⟩), .pointer (some ⟨gl, 0, none⟩)] W fun e W' =>
     ∃ gy cy, e = .returned (.tuple #[.slice (some ⟨gy, 0, none⟩) (sizeN kind) cy, .nilIface]) ∧ W.heap.size ≤ gy ∧ Bs W' gy 0 (xorTo (ciN kind key x true) last (sizeN kind)) ∧ ChIn W' B gb gc gl g kind key bk true b o c x ∧ Keep gl W W' := by
 have h16 := size_le kind; have hpos := size_pos kind; have HD := Hh (fun A cx w hC hA => ciDo_any g kind key hk bk x hx gx true A cx w hC hA); have hYl := ciN_len kind key x true; have hYb := ciN_lt hk.1 hx gx true; generalize ciN kind key x true = Y at *; have HX := Hh (fun A B ca cb w hA hB => modeXor_any Y last (sizeN kind) hYl hll (by omega) hYb hlb A B ca cb w hA hB); have hZl : (xorTo Y last (sizeN kind)).length = sizeN kind := by rw [xorTo_len, hYl]
 generalize xorTo Y last (sizeN kind) = Z at *; have cb : W.cell? ⟨gb, 0, none⟩ = some (.bool true) := hI.fb.cell 0; have cc : W.cell? ⟨gc, 0, none⟩ = some (.pointer (some ⟨g, 0, none⟩)) := hI.fc.cell 0; have fC := Hh hI.fC.at_; have HI := Hh hI; have hgl := hI.fl.lt; have hbll := hI.hbl; have hbx := hA.lt (ne_nil hx hpos); have HA := Hh hA; clear hI hA; generalize hn : sizeN kind = n at *; have HN := Hh hn; clear hn
 go_enter Tryz.func65, Tryz.ntmps65
 go_wp2_with fail
 refine (HD.out (some ⟨b, o, none⟩) c W fC.out (fun _ => ⟨_, _, rfl, HA.out⟩)).mono ?_; rintro e w1 ⟨⟨gy, rfl, hgy, hBy⟩, hb1⟩; have hB1 := HI.out.fl.below hb1 hgl; have cl1 : w1.cell? ⟨gl, 0, none⟩ = some (.slice (some ⟨bl, ol, none⟩) n cl) := by have := hB1.cell 0; rw [HN.out] at this; exact this
 have fr1 : w1.frozen? ⟨gl, 0, none⟩ = false := hB1.frozen 0; have hk1 := Keep.setBelow (i := 0) (u := .slice (some ⟨b, o, none⟩) n c) hb1 hgl; have hl1 : Blk (w1.setCell ⟨gl, 0, none⟩ (.slice (some ⟨b, o, none⟩) n c)) gl 22 #[.slice (some ⟨b, o, none⟩) n c] := hB1.set_ 0 _; have hs1 := hb1.size; have hy1 : Bs (w1.setCell ⟨gl, 0, none⟩ (.slice (some ⟨b, o, none⟩) n c)) gy 0 Y := hBy.only (Only.setCell w1 gl 0 _) (by omega); have hla1 : ol = ol ∧ (bl ≠ gl → Bs (w1.setCell ⟨gl, 0, none⟩ (.slice (some ⟨b, o, none⟩) n c)) bl ol last) := ⟨rfl, fun h => (HI.out.fs.below hb1 hbll).only (Only.setCell w1 gl 0 _) h⟩; have hx1 : Bs (w1.setCell ⟨gl, 0, none⟩ (.slice (some ⟨b, o, none⟩) n c)) b o x := (HA.out.below hb1 hbx).only (Only.setCell w1 gl 0 _) hbgl; have hz1 : b < (w1.setCell ⟨gl, 0, none⟩ (.slice (some ⟨b, o, none⟩) n c)).heap.size := by rw [(Only.setCell w1 gl 0 _).size]; omega
 have hsz1 : (w1.setCell ⟨gl, 0, none⟩ (.slice (some ⟨b, o, none⟩) n c)).heap.size = w1.heap.size := (Only.setCell w1 gl 0 _).size
 have hbne : bl ≠ gl := fun h => by
  subst h; have h1 := HI.out.fs.cell 0 (by rw [hll]; exact hpos); have h2 := HI.out.fl.cell (ol + 0); rw [h1] at h2; have : (#[Value.slice (some ⟨bl, ol, none⟩) (sizeN kind) cl] : Array Value)[ol + 0]? = some (.int .u8 (last[0]'(by rw [hll]; exact hpos) : Nat)) := h2.symm
  rcases Nat.eq_zero_or_pos ol with h0 | h0
  ·
   subst h0; simp at this
  ·
   rw [Array.getElem?_eq_none (by simp; omega)] at this; cases this
 have HK1 := Hh hk1; clear hk1; have HL1 := Hh hl1; clear hl1; have HY1 := Hh hy1; clear hy1; have HLA := Hh (hla1.2 hbne); clear hla1; have HX1 := Hh hx1; clear hx1; have HS1 := Hh hsz1; clear hsz1; clear hB1 hBy cc cb; go_wp2_with fail
 refine (HX.out (some ⟨gy, 0, none⟩) (some ⟨bl, ol, none⟩) n cl _ (fun _ => ⟨_, _, rfl, HY1.out⟩) (fun _ => ⟨_, _, rfl, HLA.out⟩)).mono ?_; rintro e w2 ⟨⟨v, rfl, hv⟩, hb2⟩; obtain ⟨gZ, cZ, rfl, hgZ, hgZ1, hBZ⟩ := hv.addr (ne_nil hZl hpos); rw [hZl]; have hk2 := HK1.out.trans (Keep.ofBelow hb2); rw [HS1.out] at hgZ; have hgl1 : gl < (w1.setCell ⟨gl, 0, none⟩ (.slice (some ⟨b, o, none⟩) n c)).heap.size := by rw [HS1.out]; omega
 have hl2 := HL1.out.below hb2 hgl1; have hx2 := HX1.out.below hb2 hz1; have hz2 : b < w2.heap.size := Nat.lt_of_lt_of_le hz1 hb2.size; have HK2 := Hh hk2; clear hk2; have HL2 := Hh hl2; clear hl2; have HX2 := Hh hx2; clear hx2; have HBZ := Hh hBZ; clear hBZ hv; clear hgl1; go_wp2
 go_ret2
 exact ⟨gZ, cZ, rfl, by omega, HBZ.out, HI.out.keep HK2.out (by rw [HN.out]; exact HL2.out) hz2 HX2.out, HK2.out⟩

/-- blocks, each with what was laid aside -/
def chTo (Y L : List Nat → List Nat → List Nat) (n : Nat) (start t : List Nat) : Nat → List Nat × List Nat
 | 0 => ([], start)
 | m + 1 => ((chTo Y L n start t m).1 ++ Y (blkAt n m t) (chTo Y L n start t m).2, L (blkAt n m t) (chTo Y L n start t m).2)
theorem chTo_E (f : List Nat → List Nat) (n : Nat) (start t : List Nat) : ∀ m, chTo (fun x l => f (xorTo x l n)) (fun x l => f (xorTo x l n)) n start t m = cbcE f n start t m
 | 0 => rfl
 | m + 1 => by unfold chTo cbcE; rw [chTo_E f n start t m]
theorem chTo_D (f : List Nat → List Nat) (n : Nat) (start t : List Nat) : ∀ m, chTo (fun x l => xorTo (f x) l n) (fun x _ => x) n start t m = cbcD f n start t m
 | 0 => rfl
 | m + 1 => by unfold chTo cbcD; rw [chTo_D f n start t m]
theorem chTo_ok {Y L : List Nat → List Nat → List Nat} {n : Nat} (hY : ∀ x l : List Nat, x.length = n → Byt x → l.length = n → Byt l → (Y x l).length = n ∧ Byt (Y x l) ∧ (L x l).length = n ∧ Byt (L x l)) {start t : List Nat} (hs : start.length = n) (gs : Byt start) (gt : Byt t) : ∀ m, n * m ≤ t.length →
    (chTo Y L n start t m).1.length = n * m ∧ Byt (chTo Y L n start t m).1 ∧ (chTo Y L n start t m).2.length = n ∧ Byt (chTo Y L n start t m).2
 | 0, _ => ⟨rfl, (by intro c hc; cases hc), hs, gs⟩
 | m + 1, h => by
  rw [Nat.mul_succ] at h; obtain ⟨h1, h2, h3, h4⟩ := chTo_ok hY hs gs gt m (by omega); obtain ⟨k1, k2, k3, k4⟩ := hY _ _ (blkAt_len h) (blkAt_byt (n := n) (m := m) gt) h3 h4
  unfold chTo
  refine ⟨by rw [List.length_append, h1, k1, Nat.mul_succ], ?_, k3, k4⟩; intro c hc
  rcases List.mem_append.1 hc with hc | hc
  ·
   exact h2 c hc
  ·
   exact k2 c hc

theorem Bs.keepB {w w' : World} {gl b o : Nat} {l : List Nat} (h : Bs w b o l) (hk : Keep gl w w') (_hb : b < w.heap.size) (hne : b ≠ gl) : Bs w' b o l := h.keep hk hne
theorem Keep.grown {gl : Nat} {a w w' : World} {row : Option Nat} (h : Keep gl a w) (hg : w.grownBy w' row) (hr : ∀ k, row = some k → a.heap.size ≤ k) : Keep gl a w' :=
 ⟨hg.os.trans h.os, hg.tape.trans h.tape, hg.output.trans h.output, Nat.le_trans h.size hg.size, fun k hk hne => (hg.block k (Nat.lt_of_lt_of_le hk h.size) (fun e => by have := hr k e.symm; omega)).trans (h.block k hk hne)⟩
theorem ChIn.grown {W W' : World} {B gb gc gl g kind : Nat} {key : List Nat} {bk : Value} {back : Bool} {bl ol cl : Nat} {last : List Nat} {row : Option Nat} (h : ChIn W B gb gc gl g kind key bk back bl ol cl last) (hg : W.grownBy W' row) (hr : ∀ r, row = some r → gl < r ∧ r ≠ bl) : ChIn W' B gb gc gl g kind key bk back bl ol cl last := by
 have hb := h.hgb; have hc := h.hgc; have hl := h.hgl; have ne : ∀ i, i ≤ gl → some i ≠ row := fun i hi e => by have := hr i e.symm; omega
 refine ⟨hb, hc, hl, (hg.block gb h.fb.lt (ne _ (by omega))).trans h.fb, (hg.block gc h.fc.lt (ne _ (by omega))).trans h.fc, (hg.block gl h.fl.lt (ne _ (by omega))).trans h.fl, Nat.lt_of_lt_of_le h.hbl hg.size, fun j v hv => ?_, h.fC.grown hg (fun r e => by have := hr r e; omega)⟩; exact (World.cell?_of_block (a := ⟨bl, ol + j, none⟩) (hg.block bl h.hbl (fun e => (hr bl e.symm).2 rfl))).trans (h.fs j v hv)
section
variable {P : Program} {ops : Array Oper} {rest : List Oper} {op : Oper} {a : Act} {w : World} {Q : Exit → Act → World → Prop}
theorem wpList_append_numsW (hgd : op.guard = none) (s x : Operand) (t : TypeId) (ho : op.op = .call { callee := .builtin .append, args := #[s, x], argTypes := #[t, t] })
    (kd : IntKind) (e : TypeId) (bytes : Nat) (ht : P.underlying t = some (.slice e)) (hinfo : (P.info? e).map (fun i => (i.zero, i.size, i.bytes)) = some (some (.int kd 0), 1, bytes))
    (B : Nat) (w0 : World) (v : Value) (l : List Nat) (hs : a.eval s = v) (hown : OwnN e kd w B v l) (hbel : Below B w0 w) (hB : B ≤ w.heap.size)
    (A : Option Addr) (m c : Nat) (l2 : List Nat) (hx : a.eval x = .slice A m c) (hm : l2.length = m) (hA : ∃ b o, A = some ⟨b, o, none⟩ ∧ Ns kd w b o l2)
    (h63 : l.length + m ≤ 1000000000) (hby : bytes ≤ 1000)
    (h : ∀ v' w', OwnN e kd w' B v' (l ++ l2) → Below B w0 w' → w.grownBy w' v.ownBlock → (v'.ownBlock = v.ownBlock ∨ v'.ownBlock = some w.heap.size) → wpList P ops Q rest (a.put op.dst v') w') : wpList P ops Q (op :: rest) a w :=
 wpList_plain hgd fun _ hK => op_append_numsW s x t ho kd e bytes ht hinfo B w0 v l hs hown hbel hB A m c l2 hx hm hA h63 hby fun v' w' h1 h2 h3 h4 => hK _ _ (h v' w' h1 h2 h3 h4)
end

/-- mode.each, with the closure of Chained -/
theorem each_any (B gb gc gl g kind : Nat) (key : List Nat) (bk : Value) (back : Bool) (Y L : List Nat → List Nat → List Nat)
    (hY : ∀ x l : List Nat, x.length = sizeN kind → Byt x → l.length = sizeN kind → Byt l → (Y x l).length = sizeN kind ∧ Byt (Y x l) ∧ (L x l).length = sizeN kind ∧ Byt (L x l))
    (hcl : ∀ (W : World) (bl ol cl : Nat) (last : List Nat), last.length = sizeN kind → Byt last → ChIn W B gb gc gl g kind key bk back bl ol cl last → ∀ (b o c : Nat) (x : List Nat), x.length = sizeN kind → Byt x → Bs W b o x → b ≠ gl →
     Calls Tryz.prog 65 #[.slice (some ⟨b, o, none⟩) (sizeN kind) c, .pointer (some ⟨gb, 0, none⟩), .pointer (some ⟨gc, 0, none⟩), .pointer (some ⟨gl, 0, none⟩)] W fun e W' =>
      ∃ gy cy, e = .returned (.tuple #[.slice (some ⟨gy, 0, none⟩) (sizeN kind) cy, .nilIface]) ∧ W.heap.size ≤ gy ∧ Bs W' gy 0 (Y x last) ∧ (∃ bl' ol' cl', ChIn W' B gb gc gl g kind key bk back bl' ol' cl' (L x last) ∧ (bl' = b ∨ W.heap.size ≤ bl')) ∧ Keep gl W W')
    (bl ol cl : Nat) (start : List Nat) (hsl : start.length = sizeN kind) (hsb : Byt start) (t : List Nat) (len : Nat) (hlen : t.length = len) (hl0 : len ≤ 100000) (hmod : len % sizeN kind = 0) (gt : Byt t) (b o ct : Nat) (hct : len ≤ ct) (w : World)
    (hI : ChIn w B gb gc gl g kind key bk back bl ol cl start) (hA : Bs w b o t) (hbw : b < w.heap.size) (hbgl : b ≠ gl) (hk12 : kind = 1 ∨ kind = 2) :
    Calls Tryz.prog 64 #[.pointer (some ⟨g, 0, none⟩), .slice (some ⟨b, o, none⟩) len ct, .func (.func 65) #[] #[.pointer (some ⟨gb, 0, none⟩), .pointer (some ⟨gc, 0, none⟩), .pointer (some ⟨gl, 0, none⟩)]] w fun e w' =>
     (∃ v, e = .returned (.tuple #[v, .nilIface]) ∧ Own w' w.heap.size v (chTo Y L (sizeN kind) start t (len / sizeN kind)).1) ∧ Keep gl w w' := by
 have h16 := size_le kind; have hpos := size_pos kind; have HSZ := Hh (size_any kind g (by omega) key bk w hI.fC.at_); have hdm := mul_div hmod; obtain ⟨M, hM⟩ : ∃ M, len / sizeN kind = M := ⟨_, rfl⟩; rw [hM] at hdm ⊢; have hok := fun m h => chTo_ok hY hsl hsb gt m h; have hstep : ∀ m, chTo Y L (sizeN kind) start t (m + 1) = ((chTo Y L (sizeN kind) start t m).1 ++ Y (blkAt (sizeN kind) m t) (chTo Y L (sizeN kind) start t m).2, L (blkAt (sizeN kind) m t) (chTo Y L (sizeN kind) start t m).2) := fun _ => rfl; have h0 : chTo Y L (sizeN kind) start t 0 = ([], start) := rfl
 have hblk : ∀ m q, sizeN kind * m = q → q + sizeN kind ≤ t.length → Bs w b (o + q) (blkAt (sizeN kind) m t) ∧ (blkAt (sizeN kind) m t).length = sizeN kind ∧ Byt (blkAt (sizeN kind) m t) := fun m q hq hl => by
  subst hq; exact ⟨hA.sub _ _, blkAt_len hl, blkAt_byt gt⟩
 generalize hch : chTo Y L (sizeN kind) start t = ch at *; generalize hn : sizeN kind = n at *; have hmodI : (len : Int) % (n : Int) = 0 := by omega
 clear hn; have HOK := Hh hok; clear hok; have HST := Hh hstep; clear hstep; have HBK := Hh hblk; clear hblk; have HCL := Hh hcl; clear hcl; have HYY := Hh hY; clear hY; have HH0 := Hh h0; clear h0; have HDM := Hh hdm; clear hdm; have HTL := Hh hlen; clear hlen; have hgl := hI.fl.lt; have hglB := hI.hgl; clear hch hsl hsb gt hA hM
 go_enter Tryz.func64, Tryz.ntmps64
 go_wp2_with fail
 refine (HSZ.out).mono ?_; rintro e w1 ⟨rfl, rfl⟩; go_wp2
 rw [hmodI]; clear hmodI hmod
 go_loopw [9, 10] (fun v i wr => ∃ m q : Nat, m ≤ M ∧ i = .int .i64 q ∧ Hid (n * m = q) ∧ q ≤ len ∧ OwnN 5 .u8 wr w.heap.size v (ch m).1 ∧ Keep gl w wr ∧ ∃ bl ol cl, Hid (ChIn wr B gb gc gl g kind key bk back bl ol cl (ch m).2) ∧ v.ownBlock ≠ some bl) (fun _ i _ => len - (intOf i).toNat)
 case atStart => exact ⟨0, 0, by omega, rfl, Nat.mul_zero n, by omega, by rw [HH0.out]; exact OwnN.nil _ _ _ _, Keep.refl _ _, bl, ol, cl, by rw [HH0.out]; exact hI, by simp [Value.ownBlock]⟩
 case round =>
  obtain ⟨m, q, hm, rfl, hq, hql, hown, hkeep, bl1, ol1, cl1, hIm, hne⟩ := hrel
  by_cases hlt : m < M
  ·
   have hqn : q + n ≤ len := by
    have h1 := Nat.mul_le_mul_left n (show m + 1 ≤ M by omega); rw [Nat.mul_succ, hq.out, HDM.out] at h1; exact h1
   obtain ⟨k1, k2, k3⟩ := HBK.out m q hq.out (by rw [HTL.out]; exact hqn); obtain ⟨o1, o2, o3, o4⟩ := HOK.out m (by rw [hq.out, HTL.out]; omega); obtain ⟨y1, y2, y3, y4⟩ := HYY.out _ _ k2 k3 o3 o4; have hst := HST.out m; have HC := Hh (HCL.out wr bl1 ol1 cl1 (ch m).2 o3 o4 hIm.out b (o + q) (ct - q) (blkAt n m t) k2 k3 (k1.keepB hkeep hbw hbgl) hbgl); generalize blkAt n m t = x at *; have HSTM := Hh hst; clear hst; have hol : (ch m).1.length + n ≤ 1000000000 := by rw [o1, hq.out]; omega
   have hrow := fun r hr => World.ownsRow.lt hown r hr; generalize (ch m).1 = O at *; generalize (ch m).2 = Z at *; have hws := hkeep.size; have e1 : IntKind.i64.wrap ((q : Int) + (n : Int)) = ((q + n : Nat) : Int) := by rw [IntWalk.i64_in _ (by omega)]; omega
   clear hne k1 k2 k3 o1 o2 o3 o4 y2 y3 y4; have hqI : (q : Int) < (len : Int) := by omega
   have HROW := Hh hrow; clear hrow; have HOWN := Hh hown; clear hown; have HQ := Hh hq; clear hq; go_wp2_with fail
   refine (HC.out).mono ?_; rintro e w2 ⟨gy, cy, rfl, hgy, hBy, ⟨bl2, ol2, cl2, hI2, hb2⟩, hk2⟩; have hown2 := OwnN.keepW HOWN.out hk2 (fun e => by have := HROW.out _ e; omega); have hws2 := hk2.size; have hI2l := hI2.hbl; have HI2 := Hh hI2; clear hI2; have HBy := Hh hBy; clear hBy; go_wp2_with (at_builtin; go_loud (refine wpList_append_numsW rfl (.tmp 48) (.tmp 49) 22 rfl .u8 5 1 Tryz.underlying22 info_byte w.heap.size w2 _ O rfl hown2 (Below.refl _ _) (by omega) _ n cy (Y x Z) rfl y1 ⟨_, _, rfl, HBy.out⟩ hol (by omega) ?_); intro v3 w3 hown3 hbel3 hgr3 hob3)
   have hr3 : ∀ r, _ = some r → gl < r ∧ r ≠ bl2 := fun r hr => by
    have h1 := HROW.out r hr
    rcases hb2 with h2 | h2 <;> omega
   have hI3 := HI2.out.grown hgr3 hr3; have hk3 := (hkeep.trans hk2).grown hgr3 (fun r hr => (HROW.out r hr).1)
   have hne3 : v3.ownBlock ≠ some bl2 := fun e => by
    rcases hob3 with h | h
    ·
     rw [h] at e; exact (hr3 _ e).2 rfl
    ·
     rw [h] at e; injection e with e; omega
   have hsO := HSTM.out; have hq3 : n * (m + 1) = q + n := by rw [Nat.mul_succ, HQ.out]
   have HK3 := Hh hk3; have HI3 := Hh hI3; have HO3 := Hh hown3; have HNE3 := Hh hne3; have HQ3 := Hh hq3; clear hr3 hk3 hI3 hown3 hne3 hgr3 hob3 hbel3 hown2 hkeep hk2 hsO hq3
   go_roundw
   case rel => exact ⟨m + 1, q + n, by omega, by go_num, HQ3.out, by omega, by rw [HSTM.out]; exact HO3.out, HK3.out, bl2, ol2, cl2, by rw [HSTM.out]; exact HI3.out, HNE3.out⟩
   case measure => simp [intOf]; omega
  ·
   obtain rfl : m = M := by omega
   have hql2 : ¬ ((q : Int) < (len : Int)) := by have h1 := hq.out; rw [HDM.out] at h1; omega
   go_wp2
   go_ret2
   exact ⟨⟨_, rfl, hown⟩, hkeep⟩

theorem CipherB.mono {w : World} {B B' g kind : Nat} {key : List Nat} {bk : Value} (h : CipherB w B g kind key bk) (hB : B ≤ B') : CipherB w B' g kind key bk := by
 obtain ⟨hg, gk, cp, h1, hc, hK, hkB, hl⟩ := h; exact ⟨by omega, gk, cp, h1, hc, hK, by omega, hl⟩
/-- each, whichever way -/
theorem each_both (B gb gc gl g kind : Nat) (key : List Nat) (hk : KeyOk kind key) (bk : Value) (back : Bool) (bl ol cl : Nat) (start : List Nat) (hsl : start.length = sizeN kind) (hsb : Byt start) (t : List Nat) (len : Nat) (hlen : t.length = len) (hl0 : len ≤ 100000) (hmod : len % sizeN kind = 0) (gt : Byt t) (b o ct : Nat) (hct : len ≤ ct) (w : World)
    (hI : ChIn w B gb gc gl g kind key bk back bl ol cl start) (hA : Bs w b o t) (hbw : b < w.heap.size) (hbgl : b ≠ gl) :
    Calls Tryz.prog 64 #[.pointer (some ⟨g, 0, none⟩), .slice (some ⟨b, o, none⟩) len ct, .func (.func 65) #[] #[.pointer (some ⟨gb, 0, none⟩), .pointer (some ⟨gc, 0, none⟩), .pointer (some ⟨gl, 0, none⟩)]] w fun e w' =>
     (∃ v, e = .returned (.tuple #[v, .nilIface]) ∧ Own w' w.heap.size v (chN kind key start t back)) ∧ Keep gl w w' := by
 cases back with
 | false =>
  have := each_any B gb gc gl g kind key bk false (fun x l => ciN kind key (xorTo x l (sizeN kind)) false) (fun x l => ciN kind key (xorTo x l (sizeN kind)) false)
   (fun x l h1 h2 h3 h4 => by
    have hx := xor_byt h2 h4 (sizeN kind); have hl : (xorTo x l (sizeN kind)).length = sizeN kind := by rw [xorTo_len, h1]
    exact ⟨ciN_len _ _ _ _, ciN_lt hk.1 hl hx false, ciN_len _ _ _ _, ciN_lt hk.1 hl hx false⟩)
   (fun W bl ol cl last h1 h2 h3 b o c x h4 h5 h6 _ => (chainE1 W B gb gc gl g kind key hk bk bl ol cl last h1 h2 h3 b o c x h4 h5 h6).mono fun e W' => by
    rintro ⟨gy, rfl, q1, q2, q3, q4⟩
    exact ⟨gy, _, rfl, q1, q2, ⟨_, _, _, q3, .inr q1⟩, q4⟩)
   bl ol cl start hsl hsb t len hlen hl0 hmod gt b o ct hct w hI hA hbw hbgl hk.kind
  rw [chTo_E (fun y => ciN kind key y false)] at this; rw [show chN kind key start t false = (cbcE (fun x => ciN kind key x false) (sizeN kind) start t (t.length / sizeN kind)).1 from rfl, hlen]; exact this
 | true =>
  have := each_any B gb gc gl g kind key bk true (fun x l => xorTo (ciN kind key x true) l (sizeN kind)) (fun x _ => x)
   (fun x l h1 h2 h3 h4 => by
    have hx := ciN_lt hk.1 h1 h2 true
    exact ⟨by rw [xorTo_len, ciN_len], xor_byt hx h4 _, h1, h2⟩)
   (fun W bl ol cl last h1 h2 h3 b o c x h4 h5 h6 h7 => (chainD1 W B gb gc gl g kind key hk bk bl ol cl last h1 h2 h3 b o c x h4 h5 h6 h7).mono fun e W' => by
    rintro ⟨gy, cy, rfl, q1, q2, q3, q4⟩
    exact ⟨gy, _, rfl, q1, q2, ⟨_, _, _, q3, .inl rfl⟩, q4⟩)
   bl ol cl start hsl hsb t len hlen hl0 hmod gt b o ct hct w hI hA hbw hbgl hk.kind
  rw [chTo_D (fun y => ciN kind key y true)] at this; rw [show chN kind key start t true = (cbcD (fun x => ciN kind key x true) (sizeN kind) start t (t.length / sizeN kind)).1 from rfl, hlen]; exact this

theorem chained_any (g kind : Nat) (key : List Nat) (hk : KeyOk kind key) (bk : Value) (back : Bool) (start : List Nat) (hsl : start.length = sizeN kind) (hsb : Byt start) (t : List Nat) (len : Nat) (hlen : t.length = len) (hl0 : len ≤ 100000) (hl1 : 0 < len) (hmod : len % sizeN kind = 0) (gt : Byt t)
    (A0 : Option Addr) (c0 : Nat) (A1 : Option Addr) (ct : Nat) (hct : len ≤ ct) (w : World) (hC : CipherAt w g kind key bk) (hS : At w A0 start) (hT : At w A1 t) :
    Calls Tryz.prog 36 #[.pointer (some ⟨g, 0, none⟩), .slice A0 (sizeN kind) c0, .slice A1 len ct, .bool back] w fun e w' =>
     (∃ v, e = .returned (.tuple #[v, .nilIface]) ∧ Own w' w.heap.size v (chN kind key start t back)) ∧ Below w.heap.size w w' := by
 obtain ⟨bs, os, rfl, hBs⟩ := hS (ne_nil hsl (size_pos kind)); obtain ⟨b, o, rfl, hB⟩ := hT (ne_nil hlen hl1); have hbsl := hBs.lt (ne_nil hsl (size_pos kind)); have hbl := hB.lt (ne_nil hlen hl1); have HSZ := Hh (fun W hC => size_any kind g (by rcases hk.kind with h | h <;> omega) key bk W hC); have HE := Hh (fun B gb gc gl bl ol cl W hI hA hbw hbgl => each_both B gb gc gl g kind key hk bk back bl ol cl start hsl hsb t len hlen hl0 hmod gt b o ct hct W hI hA hbw hbgl); generalize chN kind key start t back = R at *; have hCW := fun W hb => hC.below (w' := W) (C := w.heap.size) hb lr; have HCW := Hh hCW; clear hCW; have hlow := hC.low
 have hI : ∀ (W : World), Blk W w.heap.size 61 #[.pointer (some ⟨g, 0, none⟩)] → Blk W (w.heap.size + 1) 4 #[.bool back] → Blk W (w.heap.size + 1 + 1) 22 #[.slice (some ⟨bs, os, none⟩) (sizeN kind) c0] → Below w.heap.size w W → ChIn W (w.heap.size + 1 + 1) (w.heap.size + 1) w.heap.size (w.heap.size + 1 + 1) g kind key bk back bs os c0 start := fun W h1 h2 h3 hb =>
  ⟨by omega, by omega, Nat.le_refl _, h2, h1, h3, Nat.lt_of_lt_of_le hbsl hb.size, hBs.below hb hbsl, (hlow.below hb lr).mono (by omega)⟩
 have HI := Hh hI; clear hI; have HBT := Hh (fun W (hb : Below w.heap.size w W) => hB.below hb hbl); clear hsl hsb hlen gt hT hS hmod hC hlow hBs hB hk; generalize sizeN kind = n at *; have t1 : ((n : Int) != (n : Int)) = false := by simp
 go_enter Tryz.func36, Tryz.ntmps36
 have hb2 := ((Below.refl w.heap.size w).alloc lr (.cells #[.pointer (some ⟨g, 0, none⟩)] 61)).alloc (by simp) (.cells #[.bool back] 4); have hg2 := (Blk.new w 61 #[.pointer (some ⟨g, 0, none⟩)]).alloc (.cells #[.bool back] 4); have hk2 := Blk.new2 w (.cells #[.pointer (some ⟨g, 0, none⟩)] 61) 4 #[.bool back]; have hz2 : ((w.alloc (.cells #[.pointer (some ⟨g, 0, none⟩)] 61)).alloc (.cells #[.bool back] 4)).heap.size = w.heap.size + 1 + 1 := by simp
 have cg2 := hg2.cell 0; go_wp2_with fail
 refine (HSZ.out _ (HCW.out _ hb2)).mono ?_; rintro e w1 ⟨rfl, hw1⟩; rw [hw1] at hb2 hg2 hk2 hz2; clear cg2; have cg1 : w1.cell? ⟨w.heap.size, 0, none⟩ = some (.pointer (some ⟨g, 0, none⟩)) := hg2.cell 0; clear hw1; have HZ2 := Hh hz2; have hs1 : w1.heap.size = w.heap.size + 1 + 1 := hz2; clear hz2; have hw3 : Blk (w1.alloc (.cells #[.slice (some ⟨bs, os, none⟩) n c0] 22)) (w.heap.size + 1 + 1) 22 #[.slice (some ⟨bs, os, none⟩) n c0] := by rw [← hs1]; exact Blk.new w1 _ _
 have hb3 := hb2.alloc hb2.size (.cells #[.slice (some ⟨bs, os, none⟩) n c0] 22); have hs3 : (w1.alloc (.cells #[.slice (some ⟨bs, os, none⟩) n c0] 22)).heap.size = w.heap.size + 1 + 1 + 1 := by rw [World.size_alloc, hs1]
 have hI3 := HI.out _ (hg2.alloc _) (hk2.alloc _) hw3 hb3; have HI3 := Hh hI3; clear hI3 hw3 hg2 hk2; have HS3 := Hh hs3; clear hs3; go_wp2_with fail
 refine (HE.out _ _ _ _ _ _ _ _ HI3.out (HBT.out _ hb3) (by rw [HS3.out]; omega) (by omega)).mono ?_; rintro e w4 ⟨⟨v, rfl, hv⟩, hk4⟩; have hbel4 := hk4.below hb3 (by rw [HS3.out]; omega) (by omega); have hv4 := hv.more (C := w.heap.size) (by rw [HS3.out]; omega); go_wp2
 go_ret2
 exact ⟨⟨_, rfl, hv4⟩, hbel4⟩

theorem Own.set {w : World} {B g n cap : Nat} {l : List Nat} (h : Own w B (.slice (some ⟨g, 0, none⟩) n cap) l) (k c : Nat) : Own (w.setCell ⟨g, k, none⟩ (.int .u8 (c : Int))) B (.slice (some ⟨g, 0, none⟩) n cap) (l.set k c) := by
 rcases h with ⟨h1, h2⟩
 unfold Own
 rw [List.length_set]; refine ⟨by simp [byteCells], ?_⟩
 rcases h2 with ⟨h2, _⟩ | ⟨g', cap', cur, hv, hg, hb, hn, hm, hs, ht⟩
 ·
  cases h2
 ·
  injection hv with e1 e2 e3; injection e1 with e1; injection e1 with e1; subst e1; subst e3; refine .inr ⟨g, cap, cur.setIfInBounds k (.int .u8 (c : Int)), by rw [e2], hg, Blk.set_ hb k _, hn, hm, by simpa using hs, ?_⟩; rw [Array.toList_setIfInBounds, List.take_set, ht]
  simp [byteCells]
theorem Own.cellAt {w : World} {B g n cap : Nat} {l : List Nat} (h : Own w B (.slice (some ⟨g, 0, none⟩) n cap) l) (j : Nat) (hj : j < l.length) : w.cell? ⟨g, j, none⟩ = some (.int .u8 (l[j] : Nat)) := by
 have := World.ownsRow.cells h (g := g) rfl j (.int .u8 (l[j] : Nat)) (by simp [byteCells, hj]); rw [Addr.add_mid, Nat.zero_add] at this; exact this
theorem Own.frz {w : World} {B g n cap : Nat} {l : List Nat} (h : Own w B (.slice (some ⟨g, 0, none⟩) n cap) l) (hn : l.length = n) (j : Nat) : w.frozen? ⟨g, j, none⟩ = false := by
 subst hn; exact World.ownsRow.frozenAt h j

theorem Own.shape {w : World} {B : Nat} {v : Value} {l : List Nat} (h : Own w B v l) : ∃ A cap, v = .slice A l.length cap ∧ (l = [] ∨ ∃ g, A = some ⟨g, 0, none⟩ ∧ B ≤ g ∧ g < w.heap.size) := by
 by_cases hl : l = []
 ·
  obtain ⟨A, cap, rfl, -, -⟩ := OwnN.form (e := 5) (kd := .u8) h; exact ⟨A, cap, rfl, .inl hl⟩
 ·
  obtain ⟨g, cap, rfl, hg, _, hlt, _⟩ := h.form hl; exact ⟨_, cap, rfl, .inr ⟨g, rfl, hg, hlt⟩⟩
theorem Own.only {g B : Nat} {w w' : World} {v : Value} {l : List Nat} (h : Own w B v l) (ho : Only g w w') (hne : v.ownBlock ≠ some g) : Own w' B v l := by
 rcases h with ⟨h1, h2⟩
 refine ⟨h1, ?_⟩
 rcases h2 with h2 | ⟨g', cap, cur, rfl, hg, hgb, r⟩
 ·
  exact .inl h2
 ·
  exact .inr ⟨g', cap, cur, rfl, hg, (ho.block g' (fun e => hne (by rw [e]; rfl))).trans hgb, r⟩

def lenOf : Value → Nat
 | .slice _ n _ => n
 | _ => 0
def padK (L n : Nat) : Nat := (n - (L + 1) % n) % n
theorem pad_any (l : List Nat) (L : Nat) (hl : l.length = L) (hL0 : 0 < L) (hL : L ≤ 1000) (n : Nat) (h816 : n = 8 ∨ n = 16) (A : Option Addr) (c : Nat) (w : World) (hA : At w A l) :
    Calls Tryz.prog 62 #[.slice A L c, .int .i64 n] w fun e w' => (∃ v, e = .returned v ∧ Own w' w.heap.size v (padN l n)) ∧ Below w.heap.size w w' := by
 have HC := Hh (clone_any l L hl hL0 hL A c w hA); have HL := Hh hl; clear hl; clear hA; have hfin : padN l n = l ++ 128 :: List.replicate (padK L n) 0 := by unfold padN padK; rw [HL.out]
 have HF := Hh hfin; clear hfin; obtain ⟨K, hK⟩ : ∃ K, padK L n = K := ⟨_, rfl⟩; rw [hK] at HF; have hK2 : (n - (L + 1) % n) % n = K := hK; clear hK; have h8 : 8 ≤ n := by omega
 have tT : ∀ k T : Nat, k < K → L + 1 + k = T → ((T : Int) % (n : Int) != 0) = true := fun k T h1 h2 => by
  rw [bne_iff_ne]
  rcases h816 with rfl | rfl <;> omega
 have tF : ∀ T : Nat, L + 1 + K = T → ((T : Int) % (n : Int) != 0) = false := fun T h2 => by
  rw [bne_eq_false_iff_eq]
  rcases h816 with rfl | rfl <;> omega
 have hK16 : K < 16 := by rcases h816 with rfl | rfl <;> omega
 have TT := Hh tT; clear tT; have TF := Hh tF; clear tF
 focus
  have HK := Hh hK2; clear hK2
  go_enter Tryz.func62, Tryz.ntmps62
  go_wp2_with fail
  refine (HC.out).mono ?_; rintro e w1 ⟨⟨v, rfl, hv⟩, hb1⟩; have hv' : OwnN 5 .u8 w1 w.heap.size v l := hv; have hownA : OwnN 5 .u8 (w1.alloc (.cells #[.int .u8 128] 5)) w.heap.size v l := OwnN.below hv' ((Below.refl w1.heap.size w1).alloc lr _) lr; have hs1 := hb1.size; go_wp2_with (at_builtin; go_loud (refine wpList_append_nums rfl (.tmp 7) (.tmp 8) 22 rfl .u8 5 1 Tryz.underlying22 info_byte w.heap.size w _ l rfl hownA (hb1.alloc hs1 _) (by rw [World.size_alloc]; omega) _ 1 1 [128] rfl rfl ⟨_, _, rfl, Ns.new .u8 w1 5 128⟩ (by rw [HL.out]; omega) (by omega) ?_); intro v2 w2 hown2 hbel2 hsz2)
  clear hownA hv hv' hb1 hs1
  go_loopw [5] (fun v wr => ∃ k : Nat, k ≤ K ∧ OwnN 5 .u8 wr w.heap.size v (l ++ 128 :: List.replicate k 0) ∧ Below w.heap.size w wr) (fun v _ => L + 1 + K - lenOf v)
  case atStart => exact ⟨0, by omega, hown2, hbel2⟩
  case round =>
   obtain ⟨k, hk, hown, hbel⟩ := hrel; have hll : (l ++ 128 :: List.replicate k 0).length = L + 1 + k := by rw [List.length_append, List.length_cons, List.length_replicate, HL.out]; omega
   obtain ⟨g, cap, rfl, hg, hgl, hB⟩ := Own.addr (OwnN.bytes hown) (ne_nil hll (by omega)); rw [hll] at hown ⊢; have hKK := HK.out; obtain ⟨T, hT⟩ : ∃ T, L + 1 + k = T := ⟨_, rfl⟩; rw [hT] at hown ⊢; clear hown2 hbel2 hsz2 hB
   by_cases hlt : k < K
   ·
    have hnx : (l ++ 128 :: List.replicate k 0) ++ [0] = l ++ 128 :: List.replicate (k + 1) 0 := by
     rw [List.append_assoc, List.cons_append, List.replicate_succ']
    have hlen : (l ++ 128 :: List.replicate k 0).length + 1 ≤ 1000000000 := by rw [hll]; omega
    generalize l ++ 128 :: List.replicate k 0 = M at *; have hss := hbel.size; have hownA : OwnN 5 .u8 (wr.alloc (.cells #[.int .u8 0] 5)) w.heap.size (.slice (some ⟨g, 0, none⟩) T cap) M := OwnN.below hown ((Below.refl wr.heap.size wr).alloc lr _) lr; have HNX := Hh hnx; clear hnx hll; have t1 := TT.out k T hlt hT; have HT := Hh hT; clear hT; go_wp2_with (at_builtin; go_loud (refine wpList_append_nums rfl (.tmp 15) (.tmp 16) 22 rfl .u8 5 1 Tryz.underlying22 info_byte w.heap.size w _ M rfl hownA (hbel.alloc hss _) (by rw [World.size_alloc]; omega) _ 1 1 [0] rfl rfl ⟨_, _, rfl, Ns.new .u8 wr 5 0⟩ hlen (by omega) ?_); intro v6 w6 hown6 hbel6 hsz6)
    rw [HNX.out] at hown6
    have hl6 : lenOf v6 = L + 1 + (k + 1) := by
     have h1 : (l ++ 128 :: List.replicate (k + 1) 0).length = L + 1 + (k + 1) := by rw [List.length_append, List.length_cons, List.length_replicate, HL.out]; omega
     obtain ⟨A6, c6, rfl, -, -⟩ := OwnN.form hown6; exact h1
    exact ⟨⟨k + 1, by omega, hown6, hbel6⟩, by rw [hl6]; show _ < L + 1 + K - T; have := HT.out; omega⟩
   ·
    obtain rfl : k = K := by omega
    have t1 := TF.out T hT; rw [← HF.out] at hown; clear hT hll; go_wp2
    go_ret
    exact ⟨⟨_, rfl, OwnN.bytes hown⟩, hbel⟩

theorem chain_any (g kind : Nat) (key : List Nat) (hk : KeyOk kind key) (bk : Value) (t : List Nat) (n q : Nat) (hn : sizeN kind = n) (hlen : t.length = q + n) (hl0 : q + n ≤ 100000) (hmod : (q + n) % n = 0) (gt : Byt t)
    (A : Option Addr) (ct : Nat) (hct : q + n ≤ ct) (w : World) (hC : CipherAt w g kind key bk) (hT : At w A t) :
    Calls Tryz.prog 63 #[.pointer (some ⟨g, 0, none⟩), .slice A (q + n) ct] w fun e w' =>
     (∃ gx cx, e = .returned (.tuple #[.slice (some ⟨gx, q, none⟩) n cx, .nilIface]) ∧ n ≤ cx ∧ w.heap.size ≤ gx ∧ Bs w' gx q ((chN kind key (List.replicate n 0) t false).drop q)) ∧ Below w.heap.size w w' := by
 have hpos : 0 < n := by have := size_pos kind; omega
 have h16 : n ≤ 16 := by have := size_le kind; omega
 have HSZ := Hh (fun W hC => size_any kind g (by rcases hk.kind with h | h <;> omega) key bk W hC); rw [hn] at HSZ; have HCH := Hh (fun A0 c0 W hC hS hT => chained_any g kind key hk bk false (List.replicate n 0) (by rw [List.length_replicate, hn]) (zero_byt _) t (q + n) hlen hl0 (by omega) (by rw [hn]; exact hmod) gt A0 c0 A ct hct W hC hS hT); rw [hn] at HCH; have hXl : (chN kind key (List.replicate n 0) t false).length = q + n := by rw [(chN_ok hk.1 (by rw [List.length_replicate, hn]) (zero_byt _) gt (by rw [hlen, hn]; exact hmod) false).1, hlen]
 generalize chN kind key (List.replicate n 0) t false = X at *; have HCW := Hh (fun W (hb : Below w.heap.size w W) => hC.below hb lr); have HTW := Hh (fun W (hb : Below w.heap.size w W) => hT.below hb lr); have HC0 := Hh hC; have e1 : IntKind.i64.wrap ((q : Int) + (n : Int) - (n : Int)) = (q : Int) := by rw [IntWalk.i64_in _ (by omega)]; omega
 clear hn hlen hmod gt hC hT hk
 go_enter Tryz.func63, Tryz.ntmps63
 go_wp2_with fail
 refine (HSZ.out _ HC0.out).mono ?_; rintro e w1 ⟨rfl, rfl⟩; go_wp2_with (refine wpList_make_bytes rfl (.tmp 11) (.tmp 11) rfl .i64 .i64 n n n rfl rfl rfl rfl (by omega) ?_; intro w1 hb1 hB1 hs1)
 have HS1 := Hh hs1; clear hs1; have hB1' : Blk w1 w.heap.size 5 (byteCells (List.replicate n 0)) := hB1; refine (HCH.out _ _ _ (HCW.out _ hb1) (fun _ => ⟨_, _, rfl, Bs.ofBlk hB1'⟩) (HTW.out _ hb1)).mono ?_; rintro e w2 ⟨⟨v, rfl, hv⟩, hb2⟩; have hbel2 := hb1.trans (hb2.mono hb1.size); obtain ⟨gx, cx, rfl, hgx, hgxl, hBx⟩ := hv.addr (ne_nil hXl (by omega)); rw [hXl] at hv ⊢
 have hcx : q + n ≤ cx := by
  obtain ⟨g', cap', e', _, h4, _⟩ := hv.form (ne_nil hXl (by omega)); injection e' with e1' e2' e3'; omega
 have hBq : Bs w2 gx q (X.drop q) := by
  have := hBx.sub q n; rw [Nat.zero_add, List.take_of_length_le (by rw [List.length_drop, hXl]; omega)] at this; exact this
 have HBQ := Hh hBq; clear hBq hBx hv; have hs1 := hb1.size; clear hb2 hB1 hB1'; go_wp2_with fail
 refine (HSZ.out _ (HCW.out _ hbel2)).mono ?_; rintro e w3 ⟨rfl, rfl⟩; go_wp2
 go_ret2
 exact ⟨⟨gx, _, rfl, by omega, by omega, HBQ.out⟩, hbel2⟩

/-- the last block of a text, turned byte by byte -/
def tailX (F D : List Nat) (q k : Nat) : List Nat := F.take q ++ xorTo (F.drop q) D k
theorem tailX_len (F D : List Nat) (q k : Nat) : (tailX F D q k).length = F.length := by
 unfold tailX; rw [List.length_append, xorTo_len, List.length_take, List.length_drop]; omega
theorem tailX_byt {F D : List Nat} (hF : Byt F) (hD : Byt D) (q k : Nat) : Byt (tailX F D q k) := fun c hc => by
 unfold tailX at hc
 rcases List.mem_append.1 hc with hc | hc
 ·
  exact hF c (List.mem_of_mem_take hc)
 ·
  exact xor_byt (fun c hc => hF c (List.mem_of_mem_drop hc)) hD k c hc
theorem tailX_at {F D : List Nat} {q k : Nat} (h : q + k < F.length) : (tailX F D q k).getD (q + k) 0 = F.getD (q + k) 0 := by
 unfold tailX
 rw [List.getD_eq_getElem?_getD, List.getD_eq_getElem?_getD, List.getElem?_append_right (by rw [List.length_take]; omega), List.length_take, Nat.min_eq_left (by omega), show q + k - q = k by omega, xorTo_get _ _ k k lr, List.getElem?_drop]
theorem tailX_set {F D : List Nat} {q k : Nat} (h : q + k < F.length) : (tailX F D q k).set (q + k) (F.getD (q + k) 0 ^^^ D.getD k 0) = tailX F D q (k + 1) := by
 unfold tailX
 have hl : (F.take q).length = q := by rw [List.length_take]; omega
 rw [List.set_append_right _ _ (by omega), hl, show q + k - q = k by omega]; have e : F.getD (q + k) 0 = (F.drop q).getD k 0 := by rw [List.getD_eq_getElem?_getD, List.getD_eq_getElem?_getD, List.getElem?_drop]
 rw [e]
 rfl
theorem tailX_0 (F D : List Nat) (q : Nat) : tailX F D q 0 = F := by unfold tailX; exact List.take_append_drop q F

theorem cmac_any (g kind : Nat) (key : List Nat) (hk : KeyOk kind key) (bk : Value) (t : List Nat) (L : Nat) (hl : t.length = L) (hL0 : 0 < L) (hL : L ≤ 900) (gt : Byt t) (m : Nat) (hm0 : 1 ≤ m) (hmn : m ≤ sizeN kind)
    (A : Option Addr) (ct : Nat) (w : World) (hC : CipherAt w g kind key bk) (hT : At w A t) :
    Calls Tryz.prog 35 #[.pointer (some ⟨g, 0, none⟩), .slice A L ct, .int .i64 m] w fun e w' =>
     (∃ v, e = .returned (.tuple #[v, .nilIface]) ∧ Own w' w.heap.size v ((cmacN kind key t).take m)) ∧ Below w.heap.size w w' := by
 have hpos := size_pos kind; have h16 := size_le kind; have hszk : sizeN kind = 8 ∨ sizeN kind = 16 := by unfold sizeN; split <;> omega
 have HSZ := Hh (fun W hC => size_any kind g (by rcases hk.kind with h | h <;> omega) key bk W hC); have HDO := Hh (fun A cx W hC hA => ciDo_any g kind key hk bk (List.replicate (sizeN kind) 0) (by rw [List.length_replicate]) (zero_byt _) false A cx W hC hA); have hZl : (cmacL kind key).length = sizeN kind := ciN_len _ _ _ _; have hZb : Byt (cmacL kind key) := ciN_lt hk.1 (by rw [List.length_replicate]) (zero_byt _) false; have hcl : ciN kind key (List.replicate (sizeN kind) 0) false = cmacL kind key := rfl; rw [hcl] at HDO; clear hcl; obtain ⟨hTm, hTn, hTb⟩ := cmacT_ok (kind := kind) hk.1 gt; have hTe : cmacT kind key t = tailX (if padB t (sizeN kind) then padN t (sizeN kind) else t) (if padB t (sizeN kind) then dblN (dblN (cmacL kind key)) else dblN (cmacL kind key)) ((if padB t (sizeN kind) then padN t (sizeN kind) else t).length - sizeN kind) (sizeN kind) := rfl; have hMe : cmacN kind key t = (chN kind key (List.replicate (sizeN kind) 0) (cmacT kind key t) false).drop ((chN kind key (List.replicate (sizeN kind) 0) (cmacT kind key t) false).length - sizeN kind) := rfl; have hMl := (cmacN_ok (kind := kind) hk.1 gt).1; have hch := (chN_ok hk.1 (start := List.replicate (sizeN kind) 0) (by rw [List.length_replicate]) (zero_byt _) hTb hTm false).1; rw [hch] at hMe; generalize cmacN kind key t = MC at *; generalize cmacT kind key t = TX at *; have hD1 := Hh (fun b o c W hA => doubled_any (cmacL kind key) (sizeN kind) hZl hszk hZb b o c W hA); have hDl : (dblN (cmacL kind key)).length = sizeN kind := by rw [dblN_len, hZl]
 have hDb := dblN_byt hZb; have hD2 := Hh (fun b o c W hA => doubled_any (dblN (cmacL kind key)) (sizeN kind) hDl hszk hDb b o c W hA); have hEl : (dblN (dblN (cmacL kind key))).length = sizeN kind := by rw [dblN_len, hDl]
 have hEb := dblN_byt hDb; generalize dblN (dblN (cmacL kind key)) = E at *; generalize dblN (cmacL kind key) = D at *; generalize cmacL kind key = Z at *; have hCL := Hh (fun W hA => clone_any t L hl hL0 (by omega) A ct W hA); have hPD := Hh (fun W hA => pad_any t L hl hL0 (by omega) (sizeN kind) hszk A ct W hA); have hpb : padB t (sizeN kind) = (L % sizeN kind != 0) := by unfold padB; rw [hl, show (L == 0) = false by rw [beq_eq_false_iff_ne]; omega, Bool.or_false]
 rw [hpb] at hTe; have hpl := padN_len hpos t
 have hpL : (padN t (sizeN kind)).length ≤ L + 16 := by
  unfold padN
  rw [List.length_append, List.length_cons, List.length_replicate, hl]
  rcases hszk with h | h <;> rw [h] <;> omega
 have hpb2 := padN_byt gt (sizeN kind); have HCN := Hh (fun (q : Nat) A ct hlen hl0 hmod hct W hC hT => chain_any g kind key hk bk TX (sizeN kind) q rfl hlen hl0 hmod hTb A ct hct W hC hT); have hchX : (chN kind key (List.replicate (sizeN kind) 0) TX false).length = TX.length := hch; generalize chN kind key (List.replicate (sizeN kind) 0) TX false = X at *; have HCW := Hh (fun W (hb : Below w.heap.size w W) => hC.below hb lr); have HTW := Hh (fun W (hb : Below w.heap.size w W) => hT.below hb lr); have HCK := Hh (fun (q W0 W1 : Nat) => (trivial : True)); have HC0 := Hh hC; generalize hn : sizeN kind = n at *; clear hn hC hT hch hk hpb HCK; have hZR : (List.replicate n 0).length = n := by rw [List.length_replicate]
 have hm1 : ¬ ((m : Int) < 1) := by omega
 have hm2 : ¬ ((n : Int) < (m : Int)) := by omega
 have hL00 : ((L : Int) == 0) = false := by rw [beq_eq_false_iff_ne]; omega
 have HTE := Hh hTe; clear hTe; have HME := Hh hMe; clear hMe; have HZL := Hh hZl; clear hZl; have HDL := Hh hDl; clear hDl; have HEL := Hh hEl; clear hEl; have HTL := Hh hl; clear hl; have HCX := Hh hchX; clear hchX; have HML := Hh hMl; clear hMl; have HTM := Hh hTm; clear hTm; have HPL := Hh hpl; clear hpl; clear hZR
 go_enter Tryz.func35, Tryz.ntmps35
 go_wp2_with fail
 refine (HSZ.out _ HC0.out).mono ?_; rintro e w1 ⟨rfl, rfl⟩; go_wp2_with (refine wpList_make_bytes rfl (.tmp 28) (.tmp 28) rfl .i64 .i64 n n n rfl rfl rfl rfl (by omega) ?_; intro w1 hb1 hB1 hs1)
 have HS1 := Hh hs1; clear hs1; have hB1' : Blk w1 w.heap.size 5 (byteCells (List.replicate n 0)) := hB1; refine (HDO.out _ _ _ (HCW.out _ hb1) (fun _ => ⟨_, _, rfl, Bs.ofBlk hB1'⟩)).mono ?_; rintro e w2 ⟨⟨gz, rfl, hgz, hBz⟩, hb2⟩; have hbel2 := hb1.trans (hb2.mono hb1.size); have HBZ := Hh hBz; clear hBz hB1 hB1'; have hs1 := hb1.size; clear hb1; go_wp2_with fail
 refine (hD1.out _ _ _ _ HBZ.out).mono ?_; rintro e w3 ⟨⟨gd, rfl, hgd, hBd⟩, hb3⟩; have hbel3 := hbel2.trans (hb3.mono hbel2.size); have HBD := Hh hBd; clear hBd HBZ; clear hb2 hb3 hbel2; go_wp2_with fail
 refine (hCL.out _ (HTW.out _ hbel3)).mono ?_; rintro e w4 ⟨⟨v, rfl, hv⟩, hb4⟩; have hbel4 := hbel3.trans (hb4.mono hbel3.size); have hv' : OwnN 5 .u8 w4 w3.heap.size v t := hv; have hBd4 := HBD.out.below hb4 HBD.out.lt; have hgdl := HBD.out.lt; have hs4 := hb4.size; have hs3 := hbel3.size; obtain ⟨gv, cv, rfl, hgv, hgvl, hBv⟩ := hv.addr (ne_nil HTL.out hL0); rw [HTL.out] at hv hv' ⊢; clear hb4 hBv hv'; have HV := Hh hv; clear hv; have HBD4 := Hh hBd4; clear hBd4 HBD
 have hLn : ((L : Int) % (n : Int) != 0) = (L % n != 0) := by
  rw [Bool.eq_iff_iff, bne_iff_ne, bne_iff_ne]; omega
 by_cases hp : L % n = 0
 rotate_left
 focus
  have hpB : ((L : Int) % (n : Int) != 0) = true := by rw [hLn, bne_iff_ne]; exact hp
  have hpN : (L % n != 0) = true := by rw [bne_iff_ne]; exact hp
  have hTE := HTE.out; rw [if_pos hpN, if_pos hpN] at hTE; clear hLn hpN; go_wp2_with fail
  refine (hD2.out _ _ _ _ (Bs.ofBlk HBD4.out)).mono ?_; rintro e w5 ⟨⟨gd2, rfl, hgd2, hBd2⟩, hb5⟩; have hbel5 := hbel4.trans (hb5.mono hbel4.size); have HBD5 := Hh hBd2; clear hBd2; have hs5 := hb5.size; clear hb5; go_wp2_with fail
  refine (hPD.out _ (HTW.out _ hbel5)).mono ?_; rintro e w6 ⟨⟨v, rfl, hv⟩, hb6⟩; have hbel6 := hbel5.trans (hb6.mono hbel5.size); have hgdl2 := HBD5.out.lt; have hBd6 := HBD5.out.below hb6 hgdl2; obtain ⟨F, hF⟩ : ∃ F, padN t n = F := ⟨_, rfl⟩; rw [hF] at hv hTE hpb2 hpL; have hpl := HPL.out; rw [hF] at hpl; obtain ⟨Fl, hFl⟩ : ∃ Fl, F.length = Fl := ⟨_, rfl⟩; obtain ⟨q, hq⟩ : ∃ q, Fl = q + n := ⟨Fl - n, by omega⟩; obtain ⟨gf, cf, rfl, hgf, hgfl, hBf⟩ := hv.addr (ne_nil hFl (by omega)); rw [hFl] at hv hTE hpL hpl ⊢; rw [show Fl - n = q by omega] at hTE; have hs6 := hb6.size; have hFm := hpl.1; have hFb := hpb2; have hDb2 := hEb; have HVF := Hh (hv.more (C := w5.heap.size) lr); clear hv; have HDD := Hh hBd6; clear hBd6; have HFL := Hh hFl; have HTX := Hh hTE; have HDL2 := HEL; have hlow : gd2 < gf := by omega
  have hB0 : w.heap.size ≤ w5.heap.size := by omega
  have hfz : gf < w6.heap.size := by omega
  have hFl1 : q + n ≤ Fl := by omega
  have hFl2 : Fl ≤ q + n := by omega
  have hF900 : Fl ≤ 1000 := by omega
  have HFQ := Hh hq; clear hpl hpb2 hpL hq hTE hBf hF hb6 HPL HV HBD4 HBD5 hpB hgv hgvl hgd2 hgdl hgd hs4 hs5 hgfl hEb hDb HEL HDL hD1 hD2 hbel4 hbel5 hFl hgf; obtain ⟨D1, hD1⟩ : ∃ D1, D1 = E := ⟨_, rfl⟩; rw [← hD1] at HTX HDD HDL2 hDb2; clear hD1; obtain ⟨wz, hwz⟩ : ∃ wz, wz = w6 := ⟨_, rfl⟩; rw [← hwz] at HVF HDD hbel6 hfz ⊢; clear hwz; generalize w5.heap.size = B0 at *
 rotate_left
 focus
  have hpB : ((L : Int) % (n : Int) != 0) = false := by rw [hLn, bne_eq_false_iff_eq]; exact hp
  have hpN : ¬ (L % n != 0) = true := by rw [bne_iff_ne]; simp [hp]
  have hTE := HTE.out; rw [if_neg hpN, if_neg hpN, HTL.out] at hTE; obtain ⟨q, hq⟩ : ∃ q, L = q + n := ⟨L - n, by have := Nat.le_of_dvd hL0 (Nat.dvd_of_mod_eq_zero hp); omega⟩; rw [show L - n = q by omega] at hTE; obtain ⟨F, hF⟩ : ∃ F, F = t := ⟨_, rfl⟩; obtain ⟨D1, hD1⟩ : ∃ D1, D1 = D := ⟨_, rfl⟩; have HVF := HV; have HDD := HBD4; have HFL := HTL; have HDL2 := HDL; have hFb := gt; have hDb2 := hDb; rw [← hF] at HVF HFL hTE hFb; rw [← hD1] at HDD HDL2 hTE hDb2; obtain ⟨gf, hgf2⟩ : ∃ gf, gf = gv := ⟨_, rfl⟩; obtain ⟨cf, hcf2⟩ : ∃ cf, cf = cv := ⟨_, rfl⟩; obtain ⟨gd2, hgd2⟩ : ∃ gd2, gd2 = gd := ⟨_, rfl⟩; rw [← hgf2, ← hcf2] at HVF ⊢; rw [← hgd2] at HDD ⊢; have hlow : gd2 < gf := by omega
  have hB0 : w.heap.size ≤ w3.heap.size := by omega
  have hfz : gf < w4.heap.size := by omega
  have hFm := hp; have hFl1 : q + n ≤ L := by omega
  have hFl2 : L ≤ q + n := by omega
  have hF900 : L ≤ 1000 := by omega
  have HFQ := Hh hq; have HTX := Hh hTE; have hbel6 := hbel4; obtain ⟨wz, hwz⟩ : ∃ wz, wz = w4 := ⟨_, rfl⟩; rw [← hwz] at HVF HDD hbel6 hfz ⊢; obtain ⟨Fl, hFlL⟩ : ∃ Fl, Fl = L := ⟨_, rfl⟩; rw [← hFlL] at HVF HFL hFm hFl1 hFl2 hF900 HFQ; clear hwz hgf2 hcf2 hgd2 hF hD1 hq hTE hpN hLn HPL HV HBD4 hgv hgvl hgdl hgd hs4 hEb hDb HEL HDL hD2 hbel4 hpb2; generalize w3.heap.size = B0 at *; subst hFlL
 all_goals
  have hX := tailX_len F D1 q; have hq0 := tailX_0 F D1 q; have hXb := tailX_byt hFb hDb2 q; have hXs := fun k h => tailX_set (F := F) (D := D1) (q := q) (k := k) h; have hXa := fun k h => tailX_at (F := F) (D := D1) (q := q) (k := k) h; rw [HFL.out] at hX hXs hXa; have HX := Hh hX; clear hX; have HXS := Hh hXs; clear hXs; have HXA := Hh hXa; clear hXa; have HXB := Hh hXb; clear hXb; have HQ0 := Hh hq0; clear hq0; have HFA := Hh (fun k => hFb.at_ k); have HDA := Hh (fun k => hDb2.at_ k); generalize hTT : tailX F D1 q = TT at *; have e1 : IntKind.i64.wrap ((Fl : Int) - (n : Int)) = (q : Int) := by rw [IntWalk.i64_in _ (by omega)]; omega
  have hnl : n ≤ Fl := by omega
  clear hTT; have HVF0 : Own wz B0 (.slice (some ⟨gf, 0, none⟩) Fl cf) (TT 0) := by rw [HQ0.out]; exact HVF.out
  clear HVF; have HFM := Hh hFm; clear hFm; go_wp2
  go_loopw [61] (fun i wr => ∃ k : Nat, k ≤ n ∧ i = .int .i64 k ∧ Own wr B0 (.slice (some ⟨gf, 0, none⟩) Fl cf) (TT k) ∧ Only gf wz wr) (fun i _ => n - (intOf i).toNat)
  case atStart => exact ⟨0, by omega, rfl, HVF0, Only.refl _ _⟩
  case round =>
   obtain ⟨k, hkn, rfl, hown, honly⟩ := hrel
   by_cases hlt : k < n
   ·
    obtain ⟨T, hT⟩ : ∃ T, q + k = T := ⟨_, rfl⟩; have hTl : T < Fl := by omega
    have hTI : (T : Int) < (Fl : Int) := by omega
    have hkI : (k : Int) < (n : Int) := by omega
    have e2 : IntKind.i64.wrap ((q : Int) + (k : Int)) = (T : Int) := by rw [IntWalk.i64_in _ (by omega)]; omega
    have hxa := HXA.out k (by omega); have hxs := HXS.out k (by omega); rw [hT] at hxa hxs; have hownd : Own wr.drew B0 (.slice (some ⟨gf, 0, none⟩) Fl cf) (TT k) := OwnN.below (e := 5) (kd := .u8) hown (below_drewN (Below.refl wr.heap.size wr) 1) lr
    have cA : wr.drew.cell? ⟨gf, T, none⟩ = some (.int .u8 (F.getD T 0 : Nat)) := by
     have h1 := hownd.cellAt T (by rw [HX.out]; exact hTl); rw [← getD_of (TT k) T (by rw [HX.out]; exact hTl), hxa] at h1; exact h1
    have fA : wr.drew.frozen? ⟨gf, T, none⟩ = false := hownd.frz (HX.out k) T
    have cB : wr.drew.cell? ⟨gd2, k, none⟩ = some (.int .u8 (D1.getD k 0 : Nat)) := by
     have h1 := (HDD.out.only honly (by omega)).cell k; rw [cellD _ k (by rw [HDL2.out]; exact hlt)] at h1; exact h1
    have hxx := u8_xor_nat (F.getD T 0) (D1.getD k 0) (HFA.out T) (HDA.out k); have hset := hownd.set T (F.getD T 0 ^^^ D1.getD k 0); rw [hxs, ← hxx] at hset; have honlyd : Only gf wz wr.drew := ⟨honly.os, honly.tape, honly.output, honly.size, honly.block⟩; have honly2 : Only gf wz (wr.drew.setCell ⟨gf, T, none⟩ (.int .u8 (bits .xor .u8 (F.getD T 0 : Nat) (D1.getD k 0 : Nat)))) := honlyd.trans (Only.setCell wr.drew gf T _); generalize F.getD T 0 = x1 at *; generalize D1.getD k 0 = y1 at *; have HSET := Hh hset; clear hset; have HON := Hh honly2; clear honly2; have hE2 := Hh e2; clear e2; clear hownd hown honly honlyd hxa hxs hxx HVF0; have HT := Hh hT; clear hT; go_wp2_with fail
    have e2 := hE2.out
    go_still_tail 12, (by kernel_rfl)
    change wpList _ _ _ _ _ wr.drew
    generalize wr.drew = w2 at *; go_wp2
    go_roundw
    case rel => exact ⟨k + 1, by omega, by go_num, HSET.out, HON.out⟩
    case measure => simp [intOf]; omega
   ·
    obtain rfl : n = k := by omega
    have hTX := HTX.out; rw [← hTX] at hown; have hXl := HX.out n; rw [← hTX] at hXl; have hgf1 := (World.ownsRow.lt hown gf rfl).1; have hbelr : Below w.heap.size w wr := honly.below hbel6 (by omega); obtain ⟨g', cap', e', _, hcap, _, hBT⟩ := hown.form (ne_nil hXl (by omega)); injection e' with e1' e2' e3'; injection e1' with e1'; injection e1' with e4'; subst e4'; subst e3'; have HCF := HCN.out q (some ⟨gf, 0, none⟩) cf (by rw [hXl]; exact HFQ.out) (by omega) (by rw [← HFQ.out]; exact HFM.out) (by omega) wr (HCW.out _ hbelr) (fun _ => ⟨_, _, rfl, hBT⟩); rw [← HFQ.out] at HCF; have HCF := Hh HCF; have hME := HME.out; rw [hXl, show Fl - n = q by omega] at hME; have HMF := Hh hME; clear hME hTX hXl e2' hcap hBT hown HVF0 honly; go_wp2_with fail
    refine (HCF.out).mono ?_; rintro e w7 ⟨⟨gx, cx, rfl, hcx, hgx, hBx⟩, hb7⟩; have hbel7 := hbelr.trans (hb7.mono hbelr.size); have hBm := hBx.sub 0 m; rw [Nat.add_zero, List.drop_zero, ← HMF.out] at hBm; have hml : (MC.take m).length = m := by rw [List.length_take, HML.out]; omega
    have HCM := Hh (clone_any (MC.take m) m hml (by omega) (by omega) (some ⟨gx, q, none⟩) cx w7 (fun _ => ⟨_, _, rfl, hBm⟩)); clear hBm hBx hml hb7 HCF; go_wp2_with fail
    refine (HCM.out).mono ?_; rintro e w8 ⟨⟨v, rfl, hv⟩, hb8⟩; have hv8 := hv.more (C := w.heap.size) hbel7.size; have hbel8 := hbel7.trans (hb8.mono hbel7.size); clear hv; go_wp2
    go_ret2
    exact ⟨⟨_, rfl, hv8⟩, hbel8⟩
end Go.Proofs.YtfkjkkjimdilcaaGreatDoor
