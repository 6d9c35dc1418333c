/- The contract of lockboxref06.Do, enciphering. The contract of lockboxref07.Cmac. The contracts of lockboxref11.Kind, Keys where there are keys. -/
import Derived.Test.YtfkjkkjimdilcaaGreatDoorQRX
import Derived.Test.YtfkjkkjimdilcaaGreatDoorQWrapAB
set_option maxHeartbeats 8000000
set_option maxRecDepth 100000
/- The contract of lockboxref06.Do, enciphering. -/
namespace Go.Proofs.YtfkjkkjimdilcaaGreatDoor
open Go Go.RowKit Pr

/-- what holds of lockboxref05.Do -/
def DoOk (key : List Nat) (kind kl ca : Nat) (A : Option Addr) (cs : Array Value) (back : Bool) : Prop := ∀ (x : List Nat), x.length = sizeN kind → Byt x → ∀ (B : Option Addr) (cb : Nat) (W : World), At W A key → At W B x →
    Calls Tryz.prog 76 #[.int .i64 kind, .slice A kl ca, .agg cs, .slice B (sizeN kind) cb, .bool back] W fun e w' => (∃ gv cv, e = .returned (.tuple #[.agg cs, .slice (some ⟨gv, 0, none⟩) (sizeN kind) cv, .bool true]) ∧ W.heap.size ≤ gv ∧ gv < w'.heap.size ∧ sizeN kind ≤ cv ∧ Bs w' gv 0 (ciN kind key x back)) ∧ Below W.heap.size W w'
theorem doOk_enc {kind : Nat} {key : List Nat} (hk : KeyOk kind key) (kl ca : Nat) (hkl : key.length = kl) (hca : kl ≤ ca) (A : Option Addr) (r0 r1 : Option Addr) (n0 n1 c0 c1 : Nat) : DoOk key kind kl ca A #[.slice r0 n0 c0, .slice r1 n1 c1] false := by
 intro x hx gx B cb W hA hB; obtain ⟨gk, ⟨rfl, h⟩ | ⟨rfl, h⟩⟩ := hk
 ·
  rw [size_2] at hx ⊢; rw [ciN_2]; exact refDo2_any key kl (by omega) hkl gk x hx gx false A B ca cb hca r0 r1 n0 n1 c0 c1 W hA hB
 ·
  rw [size_1] at hx ⊢; rw [ciN_1]
  have hK : ∃ nr, AesK kl nr := by
   rw [hkl] at h
   rcases h with h | h | h
   ·
    exact ⟨10, .inl ⟨h, rfl⟩⟩
   ·
    exact ⟨12, .inr (.inl ⟨h, rfl⟩)⟩
   ·
    exact ⟨14, .inr (.inr ⟨h, rfl⟩)⟩
  obtain ⟨nr, hK⟩ := hK; exact refDo1e_any key kl nr hK hkl gk x hx gx A B ca cb r0 r1 n0 n1 c0 c1 W hA hB

/-- bytes more, and what that leaves alone -/
theorem wpList_append_w {ops : Array Oper} {rest : List Oper} {Q : Exit → Act → World → Prop} {op : Oper} {a : Act} {w : World} (hgd : op.guard = none) (s x : Operand) (ho : op.op = .call { callee := .builtin .append, args := #[s, x], argTypes := #[22, 22] })
    (B : Nat) (w0 : World) (v : Value) (l : List Nat) (hs : a.eval s = v) (hown : OwnN 5 .u8 w B v l) (hbel : Below B w0 w) (hB : B ≤ w.heap.size)
    (b o m c : Nat) (l2 : List Nat) (hx : a.eval x = .slice (some ⟨b, o, none⟩) m c) (hm : l2.length = m) (hA : Bs w b o l2) (h63 : l.length + m ≤ 1000000000)
    (h : ∀ v' w', OwnN 5 .u8 w' B v' (l ++ l2) → Below B w0 w' → w.grownBy w' v.ownBlock → (v'.ownBlock = v.ownBlock ∨ v'.ownBlock = some w.heap.size) → wpList Tryz.prog ops Q rest (a.put op.dst v') w') : wpList Tryz.prog ops Q (op :: rest) a w :=
 wpList_plain hgd fun _ hK => op_append_numsW s x 22 ho .u8 5 1 Tryz.underlying22 info_byte B w0 v l hs hown hbel hB _ m c l2 hx hm ⟨_, _, rfl, hA⟩ h63 (by omega) fun v' w' h1 h2 h3 h4 => hK _ _ (h v' w' h1 h2 h3 h4)
theorem Bs.grown {w w' : World} {b o : Nat} {l : List Nat} {row : Option Nat} (h : Bs w b o l) (hg : w.grownBy w' row) (hb : b < w.heap.size) (hne : some b ≠ row) : Bs w' b o l := Ns.grownW h hg hb hne
theorem Blk.grown {w w' : World} {g : Nat} {t : TypeId} {cs : Array Value} {row : Option Nat} (h : Blk w g t cs) (hg : w.grownBy w' row) (hne : some g ≠ row) : Blk w' g t cs := (hg.block g h.lt hne).trans h

theorem Only.keep {g : Nat} {w w' : World} (h : Only g w w') : Keep g w w' := ⟨h.os, h.tape, h.output, by have := h.size; omega, fun i _ hi => h.block i hi⟩
/-- while blocks are chained -/
def ChSt (w : World) (cs : Array Value) (W : World) (last out : Value) (n : Nat) (L O : List Nat) : Prop :=
 (∃ gl ol cl, last = .slice (some ⟨gl, ol, none⟩) n cl ∧ Bs W gl ol L ∧ gl < W.heap.size ∧ out.ownBlock ≠ some gl) ∧ OwnN 5 .u8 W (w.heap.size + 2) out O ∧ Blk W w.heap.size 85 cs ∧ (∃ z : Array Value, z.size = 2 ∧ Blk W (w.heap.size + 1) 85 z) ∧ Below w.heap.size w W

theorem refChE_any (kind : Nat) (hk12 : kind = 1 ∨ kind = 2) (key : List Nat) (gk : Byt key) (kl ca : Nat) (A : Option Addr) (cs : Array Value) (hcs : ∃ r0 r1 n0 n1 c0 c1, cs = #[Value.slice r0 n0 c0, Value.slice r1 n1 c1]) (hdo : DoOk key kind kl ca A cs false)
    (start : List Nat) (hs : start.length = sizeN kind) (gs : Byt start) (t : List Nat) (TL : Nat) (ht : t.length = TL) (ht0 : 0 < TL) (htm : TL % sizeN kind = 0) (htl : TL ≤ 1000) (gt : Byt t)
    (S T : Option Addr) (cS cT : Nat) (hct : TL ≤ cT) (w : World) (hA : At w A key) (hS : At w S start) (hT : At w T t) :
    Calls Tryz.prog 48 #[.int .i64 kind, .slice A kl ca, .agg cs, .slice S (sizeN kind) cS, .slice T TL cT, .bool false] w fun e w' => (∃ v, e = .returned (.tuple #[.agg cs, v, .int .i64 (-1)]) ∧ Own w' w.heap.size v (chN kind key start t false)) ∧ Below w.heap.size w w' := by
 have hch : chN kind key start t false = (cbcE (fun x => ciN kind key x false) (sizeN kind) start t (t.length / sizeN kind)).1 := rfl; rw [hch, ht]; clear hch; have hmul := mul_div htm; have hn0 := size_pos kind; have hn16 := size_le kind; have hok := fun m h => cbcE_ok (ci_blocks (kind := kind) gk false) hs gs gt m h; have hst : ∀ m, cbcE (fun x => ciN kind key x false) (sizeN kind) start t (m + 1) = ((cbcE (fun x => ciN kind key x false) (sizeN kind) start t m).1 ++ ciN kind key (xorTo (blkAt (sizeN kind) m t) (cbcE (fun x => ciN kind key x false) (sizeN kind) start t m).2 (sizeN kind)) false, ciN kind key (xorTo (blkAt (sizeN kind) m t) (cbcE (fun x => ciN kind key x false) (sizeN kind) start t m).2 (sizeN kind)) false) := fun _ => rfl; have h0 : cbcE (fun x => ciN kind key x false) (sizeN kind) start t 0 = ([], start) := rfl; generalize cbcE (fun x => ciN kind key x false) (sizeN kind) start t = CB at *; have HSZ := Hh (fun W => refSize_any kind hk12 W); have HCL := Hh (fun x => ciN_len kind key x false)
 unfold DoOk at hdo
 generalize sizeN kind = n at *; generalize TL / n = M at *; obtain ⟨tb, tq, rfl, hTB⟩ := hT (ne_nil ht ht0); have htbl := hTB.lt (ne_nil ht ht0); obtain ⟨sb, so, rfl, hSB⟩ := hS (ne_nil hs hn0); have hsbl := hSB.lt (ne_nil hs hn0); have hcz : cs.size = 2 := by obtain ⟨r0, r1, n0, n1, c0, c1, rfl⟩ := hcs; rfl
 have hco : cs.all (·.oneCell') = true := by obtain ⟨r0, r1, n0, n1, c0, c1, rfl⟩ := hcs; simp [Value.oneCell']
 have HCZ := Hh hcz; clear hcz; have HCO := Hh hco; clear hco hcs; have HA := Hh (fun W (hb : Below w.heap.size w W) => hA.below hb lr); have HT := Hh (fun W (hb : Below w.heap.size w W) => hTB.below hb htbl); have HSB := Hh (fun W (hb : Below w.heap.size w W) => hSB.below hb hsbl); have HTL := Hh ht; clear ht; have HSL := Hh hs; clear hs; have HMUL := Hh hmul; have HOK := Hh hok; clear hok; have HST := Hh hst; clear hst; have H0 := Hh h0; clear h0
 have HDO := Hh hdo; clear hdo
 have hTM := Hh htm; clear htm; have hmul1 : n * M ≤ TL := by omega
 have hmul2 : TL ≤ n * M := by omega
 clear hmul hA hS hT hTB hSB gk; have hS0 : Blk ((w.alloc (.cells cs 85)).alloc (.cells #[.slice none 0 0, .slice none 0 0] 85)) w.heap.size 85 cs := (Blk.new w _ _).alloc _; have hR0 : Blk ((w.alloc (.cells cs 85)).alloc (.cells #[.slice none 0 0, .slice none 0 0] 85)) (w.heap.size + 1) 85 #[.slice none 0 0, .slice none 0 0] := Blk.new2 w _ _ _; have hb0 : Below w.heap.size w ((w.alloc (.cells cs 85)).alloc (.cells #[.slice none 0 0, .slice none 0 0] 85)) := ((Below.refl _ _).alloc lr _).alloc (by simp) _; have hz0 : ((w.alloc (.cells cs 85)).alloc (.cells #[.slice none 0 0, .slice none 0 0] 85)).heap.size = w.heap.size + 2 := by simp
 have hst0 : ChSt w cs ((w.alloc (.cells cs 85)).alloc (.cells #[.slice none 0 0, .slice none 0 0] 85)) (.slice (some ⟨sb, so, none⟩) n cS) (.slice none 0 0) n (CB 0).2 (CB 0).1 := by
  rw [H0.out]; exact ⟨⟨sb, so, cS, rfl, HSB.out _ hb0, by omega, by simp [Value.ownBlock]⟩, OwnN.nil _ _ _ _, hS0, ⟨_, rfl, hR0⟩, hb0⟩
 have HST0 := Hh hst0; clear hst0 hS0 hR0 hb0 hz0
 go_enter Tryz.func48, Tryz.ntmps48
 go_wp2_with fail
 refine (HSZ.out _).mono ?_; rintro e w1 ⟨rfl, rfl⟩; go_wp2
 go_loopw [16, 17, 18] (fun l o i wr => ∃ m I : Nat, m ≤ M ∧ n * m = I ∧ i = .int .i64 I ∧ ChSt w cs wr l o n (CB m).2 (CB m).1) (fun _ _ i _ => TL - (intOf i).toNat)
 case atStart => exact ⟨0, 0, by omega, by omega, rfl, HST0.out⟩
 case round =>
  obtain ⟨m, I, hm, hI, rfl, ⟨gl, ol, cl, rfl, hBl, hgl, hne⟩, hown, hBk, ⟨z, hz, hZ⟩, hbel⟩ := hrel; clear HST0
  by_cases hlt : m < M
  ·
   have hnm : n * (m + 1) ≤ n * M := Nat.mul_le_mul_left n (by omega); rw [Nat.mul_succ, hI] at hnm; have hIn : I + n ≤ TL := by omega
   obtain ⟨k1, k2, k3, k4⟩ := HOK.out m (by rw [HTL.out]; omega); have hst := HST.out m; have hbk := blkAt_len (n := n) (m := m) (t := t) (by rw [HTL.out, hI]; exact hIn); have hbb := blkAt_byt (n := n) (m := m) gt; have hxl : (xorTo (blkAt n m t) (CB m).2 n).length = n := by rw [xorTo_len, hbk]
   have hxb := xor_byt hbb k4 n
   have hBx : ∀ W, Below w.heap.size w W → Bs W tb (tq + I) (blkAt n m t) := fun W hW => by
    have := (HT.out W hW).sub (n * m) n; rw [hI] at this
    unfold blkAt
    rw [hI]; exact this
   obtain ⟨O2, hO2⟩ : ∃ O2, CB (m + 1) = O2 := ⟨_, rfl⟩; rw [hO2] at hst; have HO2 := Hh hO2; clear hO2; generalize (CB m).1 = O at *; generalize (CB m).2 = L at *; generalize blkAt n m t = X at *; have HXR := Hh (fun W a b => refXor_any X L n hbk k3 hn0 (by omega) hbb k4 (some ⟨tb, tq + I, none⟩) (some ⟨gl, ol, none⟩) (cT - I) cl W a b); generalize xorTo X L n = Y at *; have HDY := Hh (fun B cb W a b => HDO.out Y hxl hxb B cb W a b); have hcl := HCL.out Y; generalize ciN kind key Y false = C at *; have HC2 := Hh hst; clear hst; have HYL := Hh hxl; clear hxl; have HCLL := Hh hcl; clear hcl; have HBX := Hh hBx; clear hBx; have HOL := Hh k1; clear k1; have hOl : O.length ≤ 1000 := by rw [HOL.out, hI]; omega
   have HLL := Hh k3; clear k3; have HI := Hh hI; clear hI; clear hnm hbk hbb hxb k2 k4; have hi1 : (I : Int) + (n : Int) ≤ (TL : Int) := by omega
   have hi2 : (I : Int) + (n : Int) ≤ (cT : Int) := by omega
   have hi3 : (0 : Int) < (n : Int) := by omega
   go_wp2_with fail
   refine (HXR.out _ (fun _ => ⟨_, _, rfl, HBX.out _ hbel⟩) (fun _ => ⟨_, _, rfl, hBl⟩)).mono ?_; rintro e w2 ⟨⟨v, rfl, hv⟩, hb2⟩; obtain ⟨gy, cy, rfl, hgy, hcy, hgyl, hBy⟩ := hv.form (ne_nil HYL.out hn0); rw [HYL.out] at hcy ⊢; have hown2 := OwnN.below hown hb2 lr; have hBk2 := hBk.below hb2 hBk.lt; have hZ2 := hZ.below hb2 hZ.lt; have hbel2 := hbel.trans (hb2.mono hbel.size); clear hv hown hBk hZ hbel hb2 hBl hgl hne hgy hcy HXR HBX; go_wp2_with (refine wpList_load_row rfl 85 (.tmp 8) rfl w.heap.size rfl 85 _ (0,0) _ hBk2 Tryz.underlying85 rfl (by rw [info_book, HCZ.out]) ?_)
   refine (HDY.out _ _ _ (HA.out _ hbel2) (fun _ => ⟨_, _, rfl, hBy⟩)).mono ?_; rintro e w3 ⟨⟨gv, cv, rfl, hgv, hgvl, hcv, hBv⟩, hb3⟩; have hown3 := OwnN.below hown2 hb3 lr; have hne3 : u17.ownBlock ≠ some gv := fun e => by have := (World.ownsRow.lt hown2 _ e).2; omega
   have hBk3 := hBk2.below hb3 hBk2.lt; have hZ3 := hZ2.below hb3 hZ2.lt; have hbel3 := hbel2.trans (hb3.mono hbel2.size); have hs3 := hbel3.size; have hzl := hZ3.lt; have hz2l := hZ2.lt; clear hown2 hBk2 hZ2 hbel2 hb3 hBy HDY hgyl
   go_wp2_with (first
    | (refine wpList_store_all rfl 85 (.tmp 20) (.tmp 58) rfl w3.heap.size cs rfl rfl 85 #[.slice none 0 0, .slice none 0 0] (Blk.new w3 _ _) (by rw [info_book, HCZ.out]) (by rw [HCZ.out]; rfl) HCO.out ?_; intro w4 hB4 hO4; have hb4 := hO4.below ((Below.refl w3.heap.size w3).alloc lr (.cells #[.slice none 0 0, .slice none 0 0] 85)) lr; have hBk4 := hBk3.below hb4 hBk3.lt; have hZ4 := hZ3.below hb4 hZ3.lt; have hown4 := OwnN.below hown3 hb4 lr; have hBv4 := hBv.below hb4 hgvl; have hbel4 := hbel3.trans (hb4.mono hs3); have hs4 := hb4.size)
    | (refine wpList_load_row rfl 85 (.tmp 20) rfl w3.heap.size rfl 85 _ (0,0) _ hB4 Tryz.underlying85 rfl (by rw [info_book, HCZ.out]) ?_)
    | (refine wpList_store_all rfl 85 (.tmp 8) (.tmp 61) rfl w.heap.size cs rfl rfl 85 cs hBk4 (by rw [info_book, HCZ.out]) rfl HCO.out ?_; intro w5 hBk5 hO5; have hZ5 := hZ4.only hO5 (by omega); have hown5 := OwnN.keepW hown4 hO5.keep (fun e => by have := (World.ownsRow.lt hown4 _ e).1; omega); have hBv5 := hBv4.only hO5 (by omega); have hbel5 := hO5.below hbel4 lr; have hs5 := hO5.size)
    | (at_builtin; refine wpList_append_w rfl (.tmp 84) (.tmp 85) rfl (w.heap.size + 2) w5 _ O rfl hown5 (Below.refl _ _) (by omega) gv 0 n cv C rfl HCLL.out hBv5 (by omega) ?_; intro v6 w6 hown6 hbel6 hgr6 hat6))
   have hst : ChSt w cs w6 (.slice (some ⟨gv, 0, none⟩) n cv) v6 n (CB (m + 1)).2 (CB (m + 1)).1 := by
    rw [HO2.out, HC2.out]; refine ⟨⟨gv, 0, cv, rfl, hBv5.grown hgr6 (by omega) (fun e => hne3 e.symm), ?_, ?_⟩, hown6, hBk5.below hbel6 (by omega), ⟨z, hz, hZ5.below hbel6 (by omega)⟩, hbel5.trans (hbel6.mono (by omega))⟩
    ·
     have := hbel6.size; omega
    ·
     intro e
     rcases hat6 with h | h
     ·
      rw [e] at h; exact hne3 h.symm
     ·
      rw [e] at h; injection h with h; omega
   have HSTN := Hh hst; clear hst; have hI2 : n * (m + 1) = I + n := by rw [Nat.mul_succ, HI.out]
   have HI2 := Hh hI2; clear hI2; clear hown6 hbel6 hgr6 hat6 hB4 hO4 hb4 hBk4 hZ4 hown4 hBv4 hbel4 hBk5 hO5 hZ5 hown5 hBv5 hbel5 hBk3 hZ3 hown3 hBv hbel3; go_wp2
   go_roundw
   case rel => exact ⟨m + 1, I + n, by omega, HI2.out, by go_num, HSTN.out⟩
   case measure => simp only [intOf]; omega
  ·
   obtain rfl : m = M := by omega
   obtain rfl : I = TL := by have := HMUL.out; omega
   have hi1 : ¬ (I : Int) + (n : Int) ≤ (I : Int) := by omega
   have hs9 := hbel.size; have HI := Hh hI; clear hI; have HOWN := Hh hown; clear hown hBl
   go_wp2_with (first
    | (refine wpList_load_row rfl 85 (.tmp 8) rfl w.heap.size rfl 85 _ (0,0) _ hBk Tryz.underlying85 rfl (by rw [info_book, HCZ.out]) ?_)
    | (refine wpList_store_all rfl 85 (.tmp 12) (.tmp 87) rfl (w.heap.size + 1) cs rfl rfl 85 z hZ (by rw [info_book, HCZ.out]) (by rw [HCZ.out, hz]) HCO.out ?_; intro w5 hB5 hO5))
   refine bodyPost_ret (results_cell3 rfl _ _ (w.heap.size + 1) 85 _ _ rfl hB5 Tryz.underlying85 rfl (by rw [info_book, HCZ.out])) rfl ?_; refine ⟨⟨u17, rfl, ?_⟩, hO5.below hbel (by omega)⟩; exact OwnN.more (C := w.heap.size) (OwnN.keepW HOWN.out hO5.keep (fun e => by have := (World.ownsRow.lt HOWN.out _ e).1; omega)) (by omega)

theorem refCmac_any (kind : Nat) (key : List Nat) (hk : KeyOk kind key) (kl ca : Nat) (hkl : key.length = kl) (hca : kl ≤ ca) (A : Option Addr) (r0 r1 : Option Addr) (n0 n1 c0 c1 : Nat)
    (t : List Nat) (L : Nat) (hl : t.length = L) (hL0 : 0 < L) (hL : L ≤ 900) (gt : Byt t) (T : Option Addr) (ct : Nat) (w : World) (hA : At w A key) (hT : At w T t) :
    Calls Tryz.prog 45 #[.int .i64 kind, .slice A kl ca, .agg #[.slice r0 n0 c0, .slice r1 n1 c1], .slice T L ct] w fun e w' => (∃ gv ov cv, e = .returned (.tuple #[.agg #[.slice r0 n0 c0, .slice r1 n1 c1], .slice (some ⟨gv, ov, none⟩) (sizeN kind) cv, .bool true]) ∧ w.heap.size ≤ gv ∧ Bs w' gv ov (cmacN kind key t)) ∧ Below w.heap.size w w' := by
 have hk12 := hk.kind; have hdo := doOk_enc hk kl ca hkl hca A r0 r1 n0 n1 c0 c1; have hcs : ∃ a0 a1 b0 b1 d0 d1, #[Value.slice r0 n0 c0, Value.slice r1 n1 c1] = #[Value.slice a0 b0 d0, Value.slice a1 b1 d1] := ⟨_, _, _, _, _, _, rfl⟩; generalize #[Value.slice r0 n0 c0, Value.slice r1 n1 c1] = cs at *; have hcz : cs.size = 2 := by obtain ⟨a0, a1, b0, b1, d0, d1, rfl⟩ := hcs; rfl
 have hco : cs.all (·.oneCell') = true := by obtain ⟨a0, a1, b0, b1, d0, d1, rfl⟩ := hcs; simp [Value.oneCell']
 have hpos := size_pos kind; have h16 := size_le kind; have hszk : sizeN kind = 8 ∨ sizeN kind = 16 := by unfold sizeN; split <;> omega
 have HSZ := Hh (fun W => refSize_any kind hk12 W); have hd0 := hdo (List.replicate (sizeN kind) 0) (by rw [List.length_replicate]) (zero_byt _); have hZl : (cmacL kind key).length = sizeN kind := ciN_len _ _ _ _; have hZb : Byt (cmacL kind key) := ciN_lt hk.1 (by rw [List.length_replicate]) (zero_byt _) false; have hcl : ciN kind key (List.replicate (sizeN kind) 0) false = cmacL kind key := rfl; rw [hcl] at hd0; clear hcl; have HDO := Hh hd0; clear hd0; obtain ⟨hTm, hTn, hTb⟩ := cmacT_ok (kind := kind) hk.1 gt; have hTe : cmacT kind key t = (if padB t (sizeN kind) then padN t (sizeN kind) else t).take ((if padB t (sizeN kind) then padN t (sizeN kind) else t).length - sizeN kind) ++ xorTo ((if padB t (sizeN kind) then padN t (sizeN kind) else t).drop ((if padB t (sizeN kind) then padN t (sizeN kind) else t).length - sizeN kind)) (if padB t (sizeN kind) then dblN (dblN (cmacL kind key)) else dblN (cmacL kind key)) (sizeN kind) := rfl; have hMe : cmacN kind key t = (chN kind key (List.replicate (sizeN kind) 0) (cmacT kind key t) false).drop ((chN kind key (List.replicate (sizeN kind) 0) (cmacT kind key t) false).length - sizeN kind) := rfl; have hch := (chN_ok hk.1 (start := List.replicate (sizeN kind) 0) (by rw [List.length_replicate]) (zero_byt _) hTb hTm false).1; rw [hch] at hMe; have HCH := Hh (fun TX TL a b c d e S T' cS cT h W p q r => refChE_any kind hk12 key hk.1 kl ca A cs hcs hdo (List.replicate (sizeN kind) 0) (by rw [List.length_replicate]) (zero_byt _) TX TL a b c d e S T' cS cT h W p q r); generalize cmacN kind key t = MC at *; have hD1 := Hh (fun A cp W hA => refDbl_any (cmacL kind key) (sizeN kind) hszk hZl hZb A cp W hA); have hDl : (dblN (cmacL kind key)).length = sizeN kind := by rw [dblN_len, hZl]
 have hDb := dblN_byt hZb; have hD2 := Hh (fun A cp W hA => refDbl_any (dblN (cmacL kind key)) (sizeN kind) hszk hDl hDb A cp W hA); have hEl : (dblN (dblN (cmacL kind key))).length = sizeN kind := by rw [dblN_len, hDl]
 have hEb := dblN_byt hDb; generalize dblN (dblN (cmacL kind key)) = E at *; generalize dblN (cmacL kind key) = DD at *; generalize cmacL kind key = Z at *; have hPD := Hh (fun W hA => refPad_any t L hl hL0 hL (sizeN kind) hszk T ct W hA); have hpb : padB t (sizeN kind) = (L % sizeN kind != 0) := by unfold padB; rw [hl, show (L == 0) = false by rw [beq_eq_false_iff_ne]; omega, Bool.or_false]
 rw [hpb] at hTe; have hpl := padN_len hpos t
 have hpL : (padN t (sizeN kind)).length ≤ L + 16 := by
  unfold padN
  rw [List.length_append, List.length_cons, List.length_replicate, hl]
  rcases hszk with h | h <;> rw [h] <;> omega
 have hpb2 := padN_byt gt (sizeN kind); generalize hTX : cmacT kind key t = TX at *; generalize hXX : chN kind key (List.replicate (sizeN kind) 0) TX false = XX at *; have HXX := Hh hXX; clear hXX hTX; have HAW := Hh (fun W (hb : Below w.heap.size w W) => hA.below hb lr); have HTW := Hh (fun W (hb : Below w.heap.size w W) => hT.below hb lr); have HXR := Hh (fun (x y : List Nat) hx hy gx gy A B ca cb W a b => refXor_any x y (sizeN kind) hx hy hpos (by omega) gx gy A B ca cb W a b); generalize hn : sizeN kind = n at *; clear hn hA hT hk hpb hdo hcs hszk; have hL00 : ((L : Int) == 0) = false := by rw [beq_eq_false_iff_ne]; omega
 have HTE := Hh hTe; clear hTe; have HME := Hh hMe; clear hMe; have HZL := Hh hZl; clear hZl; have HDL := Hh hDl; clear hDl; have HEL := Hh hEl; clear hEl; have HL := Hh hl; clear hl; have HCX := Hh hch; clear hch; have HTM := Hh hTm; clear hTm; have HTB := Hh hTb; clear hTb; have HPL := Hh hpl; clear hpl; have HCZ := Hh hcz; clear hcz; have HCO := Hh hco; clear hco; have hS0 : Blk ((w.alloc (.cells cs 85)).alloc (.cells #[.slice none 0 0, .slice none 0 0] 85)) w.heap.size 85 cs := (Blk.new w _ _).alloc _; have hR0 : Blk ((w.alloc (.cells cs 85)).alloc (.cells #[.slice none 0 0, .slice none 0 0] 85)) (w.heap.size + 1) 85 #[.slice none 0 0, .slice none 0 0] := Blk.new2 w _ _ _; have hb0 : Below w.heap.size w ((w.alloc (.cells cs 85)).alloc (.cells #[.slice none 0 0, .slice none 0 0] 85)) := ((Below.refl _ _).alloc lr _).alloc (by simp) _; obtain ⟨wa, hwa⟩ : ∃ wa, (w.alloc (.cells cs 85)).alloc (.cells #[.slice none 0 0, .slice none 0 0] 85) = wa := ⟨_, rfl⟩; rw [hwa] at hS0 hR0 hb0; have HWA := Hh hwa; clear hwa; have HS0 := Hh hS0; clear hS0; have HR0 := Hh hR0; clear hR0; have HB0 := Hh hb0; clear hb0
 go_enter Tryz.func45, Tryz.ntmps45
 go_wp2_with fail
 rw [HWA.out]; clear HWA; refine (HSZ.out _).mono ?_; rintro e w1 ⟨rfl, rfl⟩; go_wp2_with fail
 refine wp_region_tree (.q 0 (.q 1 (.q 2 (.q 3 (.e [4] fun _ => .e [5] fun _ => .q 6 (.q 7 (.q 8 (.q 9 (.e [10] fun _ => .q 11 (.q 12 (.done))))))))))) (fun W => Blk W w.heap.size 85 cs) rfl (by kernel_rfl) (fun _ _ d _ _ h => by cases d <;> exact h) ?_; have hS := HS0.out.drewN 1; have hR := HR0.out.drewN 1; have hb := below_drewN HB0.out 1
 change wpT _ _ _ _ _ _ (World.drewN wa 1)
 clear HS0 HR0 HB0; generalize (World.drewN wa 1) = w1 at *
 iterate 2 (refine t_q rfl rfl hS _ (fun W hW => by (go_simp; rfl)) ?_; go_simp)
 refine t_load_row rfl rfl 85 (.tmp 6) rfl w.heap.size rfl 85 cs hS (fun W hW => hW) _ Tryz.underlying85 rfl (by rw [info_book, HCZ.out]) ?_; go_simp
 refine t_q rfl rfl hS _ (fun W hW => by (go_simp; rfl)) ?_; go_simp
 refine t_e rfl rfl fun K hK => ?_; refine op_make_bytes _ _ rfl .i64 .i64 n n n rfl rfl rfl rfl (by omega) fun w2 hb2 hB2 hs2 => ?_; have hZ2 : At w2 (some ⟨w1.heap.size, 0, none⟩) (List.replicate n 0) := fun _ => ⟨_, _, rfl, Bs.ofBlk hB2⟩; have hS2 := hS.below hb2 hS.lt; have hR2 := hR.below hb2 hR.lt; have hbel2 := hb.trans (hb2.mono hb.size); refine hK _ _ hS2 ?_; clear hK K hB2 hs2 hS hR; refine t_e rfl rfl fun K hK => ?_; go_simp
 refine (HDO.out _ _ w2 (HAW.out _ hbel2) hZ2).mono ?_; rintro e w3 ⟨⟨gz, cz, rfl, hgz, hgzl, hcz, hBz⟩, hb3⟩; have hS3 := hS2.below hb3 hS2.lt; have hR3 := hR2.below hb3 hR2.lt; have hbel3 := hbel2.trans (hb3.mono hbel2.size); have hgz2 := hR2.lt; refine hK _ _ hS3 ?_; clear hK K hZ2 hS2 hR2 hb hb2 hb3; go_simp
 iterate 4 (refine t_q rfl rfl hS3 _ (fun W hW => by (go_simp; rfl)) ?_; go_simp)
 refine t_e rfl rfl fun K hK => ?_; refine op_store_row 85 (.tmp 6) (.tmp 28) rfl w.heap.size cs rfl rfl 85 cs hS3 (by rw [info_book, HCZ.out]) rfl HCO.out fun w4 hB4 hO4 => ?_; have hR4 := hR3.only hO4 (by omega); have hbel4 := hO4.below hbel3 lr; have hBz4 := hBz.only hO4 (by omega); have hgz4 : gz < w4.heap.size := by rw [hO4.size]; exact hgzl
 refine hK _ _ hB4 ?_; clear hK K hS3 hR3 hbel3 hBz hO4 hgz hgzl hbel2 hgz2; go_simp
 iterate 2 (refine t_q rfl rfl hB4 _ (fun W hW => by (go_simp; rfl)) ?_; go_simp)
 refine t_done ?_; go_wp2_with fail
 refine (hD1.out _ _ _ (fun _ => ⟨_, _, rfl, hBz4⟩)).mono ?_; rintro e w5 ⟨⟨v, rfl, hv⟩, hb5⟩; obtain ⟨gd, cd, rfl, hgd, hcd, hgdl, hBd⟩ := hv.form (ne_nil HDL.out hpos); rw [HDL.out] at hcd ⊢; have hS5 := hB4.below hb5 hB4.lt; have hR5 := hR4.below hb5 hR4.lt; have hbel5 := hbel4.trans (hb5.mono hbel4.size); clear hv hB4 hR4 hbel4 hb5 hBz4 hgz4 hcz; have hs5 := hbel5.size; have HB6 := Hh (hbel5.alloc hs5 (.cells #[] 5)); have HO6 := Hh (OwnN.start 5 .u8 w5 w5.heap.size lr); have HB6b := Hh ((Below.refl w5.heap.size w5).alloc lr (.cells #[] 5))
 by_cases hp : L % n = 0
 ·
  have hpN : ¬ (L % n != 0) = true := by rw [bne_iff_ne]; simp [hp]
  have hTE := HTE.out; rw [if_neg hpN, if_neg hpN, HL.out] at hTE; obtain ⟨q, hq⟩ : ∃ q, L = q + n := ⟨L - n, by have := Nat.le_of_dvd hL0 (Nat.dvd_of_mod_eq_zero hp); omega⟩; rw [show L - n = q by omega] at hTE; have hp0 : (L : Int) % (n : Int) ≤ 0 := by omega
  have HTXE := Hh hTE; clear hTE; have HFM := Hh hp; have HFQ := Hh hq; have hq1 : q + n ≤ L := by omega
  have hq2 : L ≤ q + n := by omega
  have hFl9 : L ≤ 1000 := by omega
  clear hpN hp hq; go_wp2_with (at_builtin; refine wpList_append_at rfl (.tmp 36) (.tmp 37) rfl w5.heap.size w5 _ [] rfl HO6.out HB6b.out (by simp) T L ct t rfl HL.out (HTW.out _ HB6.out) (by omega) (by simp; omega) ?_; intro v7 w7 hown7 hb7 hsz7; rw [List.nil_append] at hown7; obtain ⟨gt7, ct7, rfl, hgt7, hct7, hgtl, hBt⟩ := (OwnN.bytes hown7).form (ne_nil HL.out hL0); rw [HL.out] at hct7 ⊢)
  have hS7 := hS5.below hb7 hS5.lt; have hR7 := hR5.below hb7 hR5.lt; have hBd7 := hBd.below hb7 hgdl; have hbel7 := hbel5.trans (hb7.mono hs5); have hgd7 : gd < w7.heap.size := by have := hb7.size; omega
  have hs7 := hbel7.size; clear hown7 hsz7 hS5 hR5 hBd hgdl HB6 HO6 HB6b hbel5 hgt7 hb7; have hcq : ¬ ct7 = q := by omega
  have hFdl : (t.drop q).length = n := by rw [List.length_drop, HL.out]; omega
  have hFdb : Byt (t.drop q) := fun c hc => gt c (List.mem_of_mem_drop hc); have hFtl : (t.take q).length = q := by rw [List.length_take, HL.out]; omega
  have hBfd : Bs w7 gt7 q (t.drop q) := by
   have := hBt.sub q n; rw [Nat.zero_add, List.take_of_length_le (by rw [hFdl]; exact Nat.le_refl _)] at this; exact this
  have hBft : Bs w7 gt7 0 (t.take q) := by
   have := hBt.sub 0 q; rw [Nat.zero_add, List.drop_zero] at this; exact this
  have HXC := Hh (fun A B ca cb W a b => HXR.out (t.drop q) DD hFdl HDL.out hFdb hDb A B ca cb W a b); have hLXl : (xorTo (t.drop q) DD n).length = n := by rw [xorTo_len, hFdl]
  have e1 : IntKind.i64.wrap ((L : Int) - (n : Int)) = (q : Int) := by rw [IntWalk.i64_in _ (by omega)]; omega
  have hqFl : (q : Int) ≤ (L : Int) := by omega
  generalize xorTo (t.drop q) DD n = LX at *; generalize t.drop q = FD at *; generalize t.take q = FT at *; have HLXL := Hh hLXl; clear hLXl; have HFTL := Hh hFtl; clear hFtl; clear hFdl hFdb; have hcxl : TX.length = L := by rw [HTXE.out, List.length_append, HFTL.out, HLXL.out]; omega
  have HCXL := Hh hcxl; clear hcxl; have HE1 := Hh e1; have hsub1 : ((L : Int) - (n : Int)).toNat = q := by omega
  have hsub2 : (n : Int) ≤ (L : Int) := by omega
  clear e1; go_wp2_with fail
  try rw [show L - n = q by omega]
  rw [show L - q = n by omega]; refine (HXC.out _ _ _ _ _ (fun _ => ⟨_, _, rfl, hBfd⟩) (fun _ => ⟨_, _, rfl, hBd7⟩)).mono ?_; rintro e wx ⟨⟨v, rfl, hv⟩, hbx⟩; obtain ⟨gx, cx, rfl, hgx, hcx, hgxl, hBx⟩ := hv.form (ne_nil HLXL.out hpos); rw [HLXL.out] at hcx ⊢; have hSx := hS7.below hbx hS7.lt; have hRx := hR7.below hbx hR7.lt; have hbelx := hbel7.trans (hbx.mono hs7); have hFx := hBft.below hbx hgtl; have hgfx : gt7 < wx.heap.size := by have := hbx.size; omega
  have hsx := hbelx.size; clear hv hS7 hR7 hbx hbel7 hBft hBfd hBd7 HXC; have HB6 := Hh ((Below.refl wx.heap.size wx).alloc lr (.cells #[] 5)); have HO6 := Hh (OwnN.start 5 .u8 wx wx.heap.size lr); have HFX := Hh (hFx.below HB6.out hgfx); have hcf2 : q ≤ ct7 := by omega
  go_wp2_with (first
   | (at_builtin; refine wpList_append_w rfl (.tmp 62) (.tmp 68) rfl wx.heap.size wx _ [] rfl HO6.out HB6.out (by simp) gt7 0 q ct7 FT rfl HFTL.out HFX.out (by simp; omega) ?_; intro v8 w8 hown8 hb8 hgr8 hat8; rw [List.nil_append] at hown8; have hBx8 := hBx.below hb8 hgxl; have hs8 := hb8.size)
   | (at_builtin; refine wpList_append_w rfl (.tmp 69) (.tmp 70) rfl wx.heap.size wx v8 FT rfl hown8 hb8 (by omega) gx 0 n cx LX rfl HLXL.out hBx8 (by rw [HFTL.out]; omega) ?_; intro v9 w9' hown9 hb9 hgr9 hat9; rw [← HTXE.out] at hown9; obtain ⟨gX, cX, rfl, hgX, hcX, hgXl, hBX⟩ := (OwnN.bytes hown9).form (ne_nil HCXL.out (by omega)); rw [HCXL.out] at hcX ⊢))
  have hS9 := hSx.below hb9 hSx.lt; have hR9 := hRx.below hb9 hRx.lt; have hbel9 := hbelx.trans (hb9.mono hsx); clear hown8 hown9 hb8 hgr8 hat8 hgr9 hat9 hBx8 hs8 hSx hRx hb9 hFx hBx HB6 HO6 HFX hbelx; refine wp_region_tree (.q 0 (.q 1 (.q 2 (.q 3 (.q 5 (.e [4] fun _ => .e [6] fun _ => .q 7 (.q 8 (.q 9 (.q 10 (.e [11] fun _ => .q 12 (.q 13 (.done)))))))))))) (fun W => Blk W w.heap.size 85 cs) rfl (by kernel_rfl) (fun _ _ d _ _ h => by cases d <;> exact h) ?_; have hS := hS9.drewN 1; have hR := hR9.drewN 1; have hb := below_drewN hbel9 1; have hBXd := hBX.drewN 1; have hgXd : gX < (World.drewN w9' 1).heap.size := hgXl
  change wpT _ _ _ _ _ _ (World.drewN w9' 1)
  clear hS9 hR9 hbel9 hBX hgXl; generalize (World.drewN w9' 1) = wy at *
  iterate 2 (refine t_q rfl rfl hS _ (fun W hW => by (go_simp; rfl)) ?_; go_simp)
  refine t_load_row rfl rfl 85 (.tmp 6) rfl w.heap.size rfl 85 cs hS (fun W hW => hW) _ Tryz.underlying85 rfl (by rw [info_book, HCZ.out]) ?_; go_simp
  iterate 2 (refine t_q rfl rfl hS _ (fun W hW => by (go_simp; rfl)) ?_; go_simp)
  refine t_e rfl rfl fun K hK => ?_; refine op_make_bytes _ _ rfl .i64 .i64 n n n rfl rfl rfl rfl (by omega) fun wz2 hbz hBzz hsz => ?_; have hZ2 : At wz2 (some ⟨wy.heap.size, 0, none⟩) (List.replicate n 0) := fun _ => ⟨_, _, rfl, Bs.ofBlk hBzz⟩; have hS2 := hS.below hbz hS.lt; have hR2 := hR.below hbz hR.lt; have hbel2 := hb.trans (hbz.mono hb.size); have hBX2 := hBXd.below hbz hgXd; refine hK _ _ hS2 ?_; clear hK K hBzz hsz hS hR hBXd; refine t_e rfl rfl fun K hK => ?_; go_simp
  refine (HCH.out TX L HCXL.out (by omega) HFM.out (by omega) HTB.out _ _ _ _ hcX wz2 (HAW.out _ hbel2) hZ2 (fun _ => ⟨_, _, rfl, hBX2⟩)).mono ?_; rintro e wz3 ⟨⟨v, rfl, hv⟩, hbz3⟩; rw [HXX.out] at hv; have hxl := HCX.out; rw [HCXL.out] at hxl; obtain ⟨gO, cO, rfl, hgO, hcO, hgOl, hBO⟩ := hv.form (ne_nil hxl (by omega)); rw [hxl] at hcO ⊢; have hMC := HME.out; rw [HCXL.out, show L - n = q by omega] at hMC; have hmcl : MC.length = n := by rw [hMC, List.length_drop, hxl]; omega
  have hBM : Bs wz3 gO q MC := by
   have := hBO.sub q n; rw [Nat.zero_add, ← hMC, List.take_of_length_le (by rw [hmcl]; exact Nat.le_refl _)] at this; exact this
  have hS3 := hS2.below hbz3 hS2.lt; have hR3 := hR2.below hbz3 hR2.lt; have hbel3 := hbel2.trans (hbz3.mono hbel2.size); have hr2 := hR2.lt; refine hK _ _ hS3 ?_; have HXL3 := Hh hxl; clear hK K hv hxl hBO hMC hmcl hZ2 hS2 hR2 hbel2 hBX2 hb hbz hbz3; go_simp
  iterate 4 (refine t_q rfl rfl hS3 _ (fun W hW => by (go_simp; rfl)) ?_; go_simp)
  refine t_e rfl rfl fun K hK => ?_; refine op_store_row 85 (.tmp 6) (.tmp 80) rfl w.heap.size cs rfl rfl 85 cs hS3 (by rw [info_book, HCZ.out]) rfl HCO.out fun wz4 hB4 hO4 => ?_; have hR4 := hR3.only hO4 (by omega); have hbel4 := hO4.below hbel3 lr; have hBM4 := hBM.only hO4 (by omega); refine hK _ _ hB4 ?_; clear hK K hS3 hR3 hbel3 hBM hO4; go_simp
  iterate 2 (refine t_q rfl rfl hB4 _ (fun W hW => by (go_simp; rfl)) ?_; go_simp)
  refine t_done ?_; have hcOq : ¬ cO = q := by omega
  go_wp2_with fail
  refine wp_region_tree (.q 0 (.q 1 (.q 2 (.q 3 (.q 4 (.q 5 (.q 6 (.e [7] fun _ => .q 8 (.q 9 (.done)))))))))) (fun W => Blk W w.heap.size 85 cs) rfl (by kernel_rfl) (fun _ _ d _ _ h => by cases d <;> exact h) ?_; have hS := hB4.drewN 1; have hR := hR4.drewN 1; have hb := below_drewN hbel4 1; have hBMd := hBM4.drewN 1
  change wpT _ _ _ _ _ _ (World.drewN wz4 1)
  clear hB4 hR4 hbel4 hBM4; generalize (World.drewN wz4 1) = wz5 at *; refine t_load_row rfl rfl 85 (.tmp 6) rfl w.heap.size rfl 85 cs hS (fun W hW => hW) _ Tryz.underlying85 rfl (by rw [info_book, HCZ.out]) ?_; go_simp
  iterate 4 (refine t_q rfl rfl hS _ (fun W hW => by (go_simp; rfl)) ?_; go_simp)
  refine t_q rfl rfl hS (.int .i64 (q : Nat)) (fun W hW => by (go_simp; exact HE1.out)) ?_; go_simp
  refine t_q rfl rfl hS (.slice (some ⟨gO, q, none⟩) n (cO - q)) (fun W hW => by (go_simp; try omega)) ?_; go_simp
  refine t_e rfl rfl fun K hK => ?_; refine op_store_row 85 (.tmp 8) (.tmp 86) rfl (w.heap.size + 1) cs rfl rfl 85 _ hR (by rw [info_book, HCZ.out]) (by rw [HCZ.out]; rfl) HCO.out fun wz6 hB6 hO6 => ?_; have hS6 := hS.only hO6 (by omega); have hbel6 := hO6.below hb (by omega); have hBM6 := hBMd.only hO6 (by omega); refine hK _ _ hS6 ?_; clear hK K hO6; go_simp
  iterate 2 (refine t_q rfl rfl hS6 _ (fun W hW => by (go_simp; rfl)) ?_; go_simp)
  refine t_done ?_; go_wp2
  refine bodyPost_ret (results_cell3 rfl _ _ (w.heap.size + 1) 85 _ _ rfl hB6 Tryz.underlying85 rfl (by rw [info_book, HCZ.out])) rfl ?_; exact ⟨⟨gO, q, cO - q, rfl, by omega, hBM6⟩, hbel6⟩
 ·
  have hpN : (L % n != 0) = true := by rw [bne_iff_ne]; exact hp
  have hTE := HTE.out; rw [if_pos hpN, if_pos hpN] at hTE; have hp0 : (0 : Int) < (L : Int) % (n : Int) := by omega
  clear hpN hp; go_wp2_with (at_builtin; refine wpList_append_at rfl (.tmp 36) (.tmp 37) rfl w5.heap.size w5 _ [] rfl HO6.out HB6b.out (by simp) T L ct t rfl HL.out (HTW.out _ HB6.out) (by omega) (by simp; omega) ?_; intro v7 w7 hown7 hb7 hsz7; rw [List.nil_append] at hown7; obtain ⟨gt7, ct7, rfl, hgt7, hct7, hgtl, hBt⟩ := (OwnN.bytes hown7).form (ne_nil HL.out hL0); rw [HL.out] at hct7 ⊢)
  have hS7 := hS5.below hb7 hS5.lt; have hR7 := hR5.below hb7 hR5.lt; have hBd7 := hBd.below hb7 hgdl; have hbel7 := hbel5.trans (hb7.mono hs5); have hgd7 : gd < w7.heap.size := by have := hb7.size; omega
  have hs7 := hbel7.size; clear hown7 hsz7 hS5 hR5 hBd hgdl HB6 HO6 HB6b hbel5 hgt7 hb7; go_wp2_with fail
  refine (hD2.out _ _ _ (fun _ => ⟨_, _, rfl, hBd7⟩)).mono ?_; rintro e w8 ⟨⟨v, rfl, hv⟩, hb8⟩; obtain ⟨ge, ce, rfl, hge, hce, hgel, hBe⟩ := hv.form (ne_nil HEL.out hpos); rw [HEL.out] at hce ⊢; have hS8 := hS7.below hb8 hS7.lt; have hR8 := hR7.below hb8 hR7.lt; have hbel8 := hbel7.trans (hb8.mono hs7); clear hv hS7 hR7 hb8 hBd7 hBt; go_wp2_with fail
  refine (hPD.out _ (HTW.out _ hbel8)).mono ?_; rintro e w9 ⟨⟨v, rfl, hv⟩, hb9⟩; have hpl := HPL.out; obtain ⟨F, hF⟩ : ∃ F, padN t n = F := ⟨_, rfl⟩; rw [hF] at hv hTE hpb2 hpL hpl; obtain ⟨Fl, hFl⟩ : ∃ Fl, F.length = Fl := ⟨_, rfl⟩; rw [hFl] at hpl hpL hTE; obtain ⟨q, hq⟩ : ∃ q, Fl = q + n := ⟨Fl - n, by omega⟩; rw [show Fl - n = q by omega] at hTE; obtain ⟨gf, cf, rfl, hgf, hcf, hgfl, hBf⟩ := hv.form (ne_nil hFl (by omega)); rw [hFl] at hcf ⊢; have hS9 := hS8.below hb9 hS8.lt; have hR9 := hR8.below hb9 hR8.lt; have hBe9 := hBe.below hb9 hgel; have hbel9 := hbel8.trans (hb9.mono hbel8.size); have hge9 : ge < w9.heap.size := by have := hb9.size; omega
  have hs9 := hbel9.size; have HFL := Hh hFl; have HTXE := Hh hTE; clear hTE; have HFM := Hh hpl.1; have HFQ := Hh hq; have hq1 : q + n ≤ Fl := by omega
  have hq2 : Fl ≤ q + n := by omega
  have hFl9 : Fl ≤ 1000 := by omega
  clear hv hS8 hR8 hb9 hbel8 hBe hgel hF hFl hq hpl hpL hgf; have hcq : ¬ cf = q := by omega
  have hFdl : (F.drop q).length = n := by rw [List.length_drop, HFL.out]; omega
  have hFdb : Byt (F.drop q) := fun c hc => hpb2 c (List.mem_of_mem_drop hc); have hFtl : (F.take q).length = q := by rw [List.length_take, HFL.out]; omega
  have hBfd : Bs w9 gf q (F.drop q) := by
   have := hBf.sub q n; rw [Nat.zero_add, List.take_of_length_le (by rw [hFdl]; exact Nat.le_refl _)] at this; exact this
  have hBft : Bs w9 gf 0 (F.take q) := by
   have := hBf.sub 0 q; rw [Nat.zero_add, List.drop_zero] at this; exact this
  have HXC := Hh (fun A B ca cb W a b => HXR.out (F.drop q) E hFdl HEL.out hFdb hEb A B ca cb W a b); have hLXl : (xorTo (F.drop q) E n).length = n := by rw [xorTo_len, hFdl]
  have e1 : IntKind.i64.wrap ((Fl : Int) - (n : Int)) = (q : Int) := by rw [IntWalk.i64_in _ (by omega)]; omega
  have hqFl : (q : Int) ≤ (Fl : Int) := by omega
  generalize xorTo (F.drop q) E n = LX at *; generalize F.drop q = FD at *; generalize F.take q = FT at *; have HLXL := Hh hLXl; clear hLXl; have HFTL := Hh hFtl; clear hFtl; clear hFdl hFdb; have hcxl : TX.length = Fl := by rw [HTXE.out, List.length_append, HFTL.out, HLXL.out]; omega
  have HCXL := Hh hcxl; clear hcxl; have HE1 := Hh e1; have hsub1 : ((Fl : Int) - (n : Int)).toNat = q := by omega
  have hsub2 : (n : Int) ≤ (Fl : Int) := by omega
  clear e1; go_wp2_with fail
  try rw [show Fl - n = q by omega]
  rw [show Fl - q = n by omega]; refine (HXC.out _ _ _ _ _ (fun _ => ⟨_, _, rfl, hBfd⟩) (fun _ => ⟨_, _, rfl, hBe9⟩)).mono ?_; rintro e wx ⟨⟨v, rfl, hv⟩, hbx⟩; obtain ⟨gx, cx, rfl, hgx, hcx, hgxl, hBx⟩ := hv.form (ne_nil HLXL.out hpos); rw [HLXL.out] at hcx ⊢; have hSx := hS9.below hbx hS9.lt; have hRx := hR9.below hbx hR9.lt; have hbelx := hbel9.trans (hbx.mono hs9); have hFx := hBft.below hbx hgfl; have hgfx : gf < wx.heap.size := by have := hbx.size; omega
  have hsx := hbelx.size; clear hv hS9 hR9 hbx hbel9 hBft hBfd hBe9 HXC; have HB6 := Hh ((Below.refl wx.heap.size wx).alloc lr (.cells #[] 5)); have HO6 := Hh (OwnN.start 5 .u8 wx wx.heap.size lr); have HFX := Hh (hFx.below HB6.out hgfx); have hcf2 : q ≤ cf := by omega
  go_wp2_with (first
   | (at_builtin; refine wpList_append_w rfl (.tmp 62) (.tmp 68) rfl wx.heap.size wx _ [] rfl HO6.out HB6.out (by simp) gf 0 q cf FT rfl HFTL.out HFX.out (by simp; omega) ?_; intro v8 w8 hown8 hb8 hgr8 hat8; rw [List.nil_append] at hown8; have hBx8 := hBx.below hb8 hgxl; have hs8 := hb8.size)
   | (at_builtin; refine wpList_append_w rfl (.tmp 69) (.tmp 70) rfl wx.heap.size wx v8 FT rfl hown8 hb8 (by omega) gx 0 n cx LX rfl HLXL.out hBx8 (by rw [HFTL.out]; omega) ?_; intro v9 w9' hown9 hb9 hgr9 hat9; rw [← HTXE.out] at hown9; obtain ⟨gX, cX, rfl, hgX, hcX, hgXl, hBX⟩ := (OwnN.bytes hown9).form (ne_nil HCXL.out (by omega)); rw [HCXL.out] at hcX ⊢))
  have hS9 := hSx.below hb9 hSx.lt; have hR9 := hRx.below hb9 hRx.lt; have hbel9 := hbelx.trans (hb9.mono hsx); clear hown8 hown9 hb8 hgr8 hat8 hgr9 hat9 hBx8 hs8 hSx hRx hb9 hFx hBx HB6 HO6 HFX hbelx; refine wp_region_tree (.q 0 (.q 1 (.q 2 (.q 3 (.q 5 (.e [4] fun _ => .e [6] fun _ => .q 7 (.q 8 (.q 9 (.q 10 (.e [11] fun _ => .q 12 (.q 13 (.done)))))))))))) (fun W => Blk W w.heap.size 85 cs) rfl (by kernel_rfl) (fun _ _ d _ _ h => by cases d <;> exact h) ?_; have hS := hS9.drewN 1; have hR := hR9.drewN 1; have hb := below_drewN hbel9 1; have hBXd := hBX.drewN 1; have hgXd : gX < (World.drewN w9' 1).heap.size := hgXl
  change wpT _ _ _ _ _ _ (World.drewN w9' 1)
  clear hS9 hR9 hbel9 hBX hgXl; generalize (World.drewN w9' 1) = wy at *
  iterate 2 (refine t_q rfl rfl hS _ (fun W hW => by (go_simp; rfl)) ?_; go_simp)
  refine t_load_row rfl rfl 85 (.tmp 6) rfl w.heap.size rfl 85 cs hS (fun W hW => hW) _ Tryz.underlying85 rfl (by rw [info_book, HCZ.out]) ?_; go_simp
  iterate 2 (refine t_q rfl rfl hS _ (fun W hW => by (go_simp; rfl)) ?_; go_simp)
  refine t_e rfl rfl fun K hK => ?_; refine op_make_bytes _ _ rfl .i64 .i64 n n n rfl rfl rfl rfl (by omega) fun wz2 hbz hBzz hsz => ?_; have hZ2 : At wz2 (some ⟨wy.heap.size, 0, none⟩) (List.replicate n 0) := fun _ => ⟨_, _, rfl, Bs.ofBlk hBzz⟩; have hS2 := hS.below hbz hS.lt; have hR2 := hR.below hbz hR.lt; have hbel2 := hb.trans (hbz.mono hb.size); have hBX2 := hBXd.below hbz hgXd; refine hK _ _ hS2 ?_; clear hK K hBzz hsz hS hR hBXd; refine t_e rfl rfl fun K hK => ?_; go_simp
  refine (HCH.out TX Fl HCXL.out (by omega) HFM.out (by omega) HTB.out _ _ _ _ hcX wz2 (HAW.out _ hbel2) hZ2 (fun _ => ⟨_, _, rfl, hBX2⟩)).mono ?_; rintro e wz3 ⟨⟨v, rfl, hv⟩, hbz3⟩; rw [HXX.out] at hv; have hxl := HCX.out; rw [HCXL.out] at hxl; obtain ⟨gO, cO, rfl, hgO, hcO, hgOl, hBO⟩ := hv.form (ne_nil hxl (by omega)); rw [hxl] at hcO ⊢; have hMC := HME.out; rw [HCXL.out, show Fl - n = q by omega] at hMC; have hmcl : MC.length = n := by rw [hMC, List.length_drop, hxl]; omega
  have hBM : Bs wz3 gO q MC := by
   have := hBO.sub q n; rw [Nat.zero_add, ← hMC, List.take_of_length_le (by rw [hmcl]; exact Nat.le_refl _)] at this; exact this
  have hS3 := hS2.below hbz3 hS2.lt; have hR3 := hR2.below hbz3 hR2.lt; have hbel3 := hbel2.trans (hbz3.mono hbel2.size); have hr2 := hR2.lt; refine hK _ _ hS3 ?_; have HXL3 := Hh hxl; clear hK K hv hxl hBO hMC hmcl hZ2 hS2 hR2 hbel2 hBX2 hb hbz hbz3; go_simp
  iterate 4 (refine t_q rfl rfl hS3 _ (fun W hW => by (go_simp; rfl)) ?_; go_simp)
  refine t_e rfl rfl fun K hK => ?_; refine op_store_row 85 (.tmp 6) (.tmp 80) rfl w.heap.size cs rfl rfl 85 cs hS3 (by rw [info_book, HCZ.out]) rfl HCO.out fun wz4 hB4 hO4 => ?_; have hR4 := hR3.only hO4 (by omega); have hbel4 := hO4.below hbel3 lr; have hBM4 := hBM.only hO4 (by omega); refine hK _ _ hB4 ?_; clear hK K hS3 hR3 hbel3 hBM hO4; go_simp
  iterate 2 (refine t_q rfl rfl hB4 _ (fun W hW => by (go_simp; rfl)) ?_; go_simp)
  refine t_done ?_; have hcOq : ¬ cO = q := by omega
  go_wp2_with fail
  refine wp_region_tree (.q 0 (.q 1 (.q 2 (.q 3 (.q 4 (.q 5 (.q 6 (.e [7] fun _ => .q 8 (.q 9 (.done)))))))))) (fun W => Blk W w.heap.size 85 cs) rfl (by kernel_rfl) (fun _ _ d _ _ h => by cases d <;> exact h) ?_; have hS := hB4.drewN 1; have hR := hR4.drewN 1; have hb := below_drewN hbel4 1; have hBMd := hBM4.drewN 1
  change wpT _ _ _ _ _ _ (World.drewN wz4 1)
  clear hB4 hR4 hbel4 hBM4; generalize (World.drewN wz4 1) = wz5 at *; refine t_load_row rfl rfl 85 (.tmp 6) rfl w.heap.size rfl 85 cs hS (fun W hW => hW) _ Tryz.underlying85 rfl (by rw [info_book, HCZ.out]) ?_; go_simp
  iterate 4 (refine t_q rfl rfl hS _ (fun W hW => by (go_simp; rfl)) ?_; go_simp)
  refine t_q rfl rfl hS (.int .i64 (q : Nat)) (fun W hW => by (go_simp; exact HE1.out)) ?_; go_simp
  refine t_q rfl rfl hS (.slice (some ⟨gO, q, none⟩) n (cO - q)) (fun W hW => by (go_simp; try omega)) ?_; go_simp
  refine t_e rfl rfl fun K hK => ?_; refine op_store_row 85 (.tmp 8) (.tmp 86) rfl (w.heap.size + 1) cs rfl rfl 85 _ hR (by rw [info_book, HCZ.out]) (by rw [HCZ.out]; rfl) HCO.out fun wz6 hB6 hO6 => ?_; have hS6 := hS.only hO6 (by omega); have hbel6 := hO6.below hb (by omega); have hBM6 := hBMd.only hO6 (by omega); refine hK _ _ hS6 ?_; clear hK K hO6; go_simp
  iterate 2 (refine t_q rfl rfl hS6 _ (fun W hW => by (go_simp; rfl)) ?_; go_simp)
  refine t_done ?_; go_wp2
  refine bodyPost_ret (results_cell3 rfl _ _ (w.heap.size + 1) 85 _ _ rfl hB6 Tryz.underlying85 rfl (by rw [info_book, HCZ.out])) rfl ?_; exact ⟨⟨gO, q, cO - q, rfl, by omega, hBM6⟩, hbel6⟩

theorem refKind_any (v : Nat) (w : World) : Calls Tryz.prog 44 #[.int .u8 v] w fun e w' => e = .returned (.int .i64 (kindV v : Nat)) ∧ w = w' := by
 unfold kindV
 by_cases h1 : v = 66
 ·
  subst h1
  go_enter Tryz.func44, Tryz.ntmps44
  go_wp2
  go_ret
  exact ⟨rfl, rfl⟩
 ·
  have t1 : ((v : Int) == 66) = false := by rw [beq_eq_false_iff_ne]; omega
  rw [if_neg h1]
  by_cases h2 : v = 68
  ·
   subst h2; clear h1 t1
   go_enter Tryz.func44, Tryz.ntmps44
   go_wp2
   go_ret
   exact ⟨rfl, rfl⟩
  ·
   have t2 : ((v : Int) == 68) = false := by rw [beq_eq_false_iff_ne]; omega
   rw [if_neg h2]; clear h1 h2
   go_enter Tryz.func44, Tryz.ntmps44
   go_wp2
   go_ret
   exact ⟨rfl, rfl⟩
theorem OwnN.below2 {e : TypeId} {kd : IntKind} {w w' : World} {B C : Nat} {v : Value} {l : List Nat} (h : OwnN e kd w B v l) (hb : Below C w w') (hlt : ∀ g, v.ownBlock = some g → g < C) : OwnN e kd w' B v l := by
 rcases h with ⟨h1, h2⟩
 refine ⟨h1, ?_⟩
 rcases h2 with h2 | ⟨g, cap, cur, rfl, hg, hgb, r⟩
 ·
  exact .inl h2
 ·
  exact .inr ⟨g, cap, cur, rfl, hg, (hb.block g (hlt g rfl)).trans hgb, r⟩
theorem Blk.setc {w : World} {g : Nat} {t : TypeId} {a b : Value} (h : Blk w g t #[a, b]) (c : Value) : Blk (w.setCell ⟨g, 0, none⟩ c) g t #[c, b] ∧ Blk (w.setCell ⟨g, 1, none⟩ c) g t #[a, c] := ⟨h.set_ 0 c, h.set_ 1 c⟩

theorem refKeys_gen (v kind n s J z hi lo n8 : Nat) (hv : kindV v = kind) (key : List Nat) (hk : KeyOk kind key) (hn : key.length = n) (hsn : sortN kind n = s) (hmJ : madeM kind n = J) (hz : sizeN kind = z) (hJ : ∀ j, j < J → z * j < n) (hJN : n ≤ z * J) (hJ3 : J ≤ 3)
    (hs8 : s ≤ 8) (hz16 : z ≤ 16) (hz0 : 0 < z) (hn16 : 16 ≤ n) (hn32 : n ≤ 32) (hhi : 8 * n / 256 = hi) (hlo : 8 * n % 256 = lo) (h8 : n / 8 = n8)
    (hc : (((n : Int) != 16) = false ∧ ((kind : Int) == 2) = true ∧ n8 = s + 2) ∨ (((n : Int) != 16) = true ∧ ((n : Int) != 24) = false ∧ ((kind : Int) == 2) = true ∧ n8 = s + 2) ∨ (((n : Int) != 16) = false ∧ ((kind : Int) == 2) = false ∧ n8 = s) ∨ (((n : Int) != 16) = true ∧ ((n : Int) != 24) = false ∧ ((kind : Int) == 2) = false ∧ n8 = s) ∨ (((n : Int) != 16) = true ∧ ((n : Int) != 24) = true ∧ ((n : Int) != 32) = false ∧ ((kind : Int) == 2) = false ∧ n8 = s))
    (A : Option Addr) (ca : Nat) (hca : n ≤ ca) (w : World) (hA : At w A key) :
    Calls Tryz.prog 20 #[.int .u8 v, .slice A n ca] w fun e w' =>
     (∃ va vb, e = .returned (.tuple #[va, vb, .int .i64 0]) ∧ Own w' w.heap.size va (madeN kind key 0) ∧ Own w' w.heap.size vb (madeN kind key 1)) ∧ Below w.heap.size w w' := by
 have hk0 : ((kind : Int) == 0) = false := by
  have := hk.kind; rw [beq_eq_false_iff_ne]; omega
 have HKI := Hh (fun W => refKind_any v W); rw [hv] at HKI; clear hv; have HZ := Hh hz; clear hz; have HJ := Hh hJ; clear hJ; have HJN := Hh hJN; clear hJN; have HHI := Hh hhi; have HLO := Hh hlo; have hs0 : ∀ j, madeTo kind key s n 0 (j + 1) = madeTo kind key s n 0 j ++ cmacN kind key (blkI (j + 1) 0 s n) := fun _ => rfl; have h00 : madeTo kind key s n 0 0 = [] := rfl; have hto0 := fun j hj => madeTo_ok (kind := kind) hk.1 (s := s) (n := n) (p := 0) (by omega) (by omega) (by omega) j hj; rw [HZ.out] at hto0; have hf0 : madeN kind key 0 = (madeTo kind key s n 0 J).take n := by unfold madeN; rw [hn, hsn, hmJ]
 generalize madeN kind key 0 = R0 at *; generalize madeTo kind key s n 0 = TO0 at *; have HS0 := Hh hs0; clear hs0; have H00 := Hh h00; clear h00; have HTO0 := Hh hto0; clear hto0; have HF0 := Hh hf0; clear hf0; have hs1 : ∀ j, madeTo kind key s n 1 (j + 1) = madeTo kind key s n 1 j ++ cmacN kind key (blkI (j + 1) 1 s n) := fun _ => rfl; have h01 : madeTo kind key s n 1 0 = [] := rfl; have hto1 := fun j hj => madeTo_ok (kind := kind) hk.1 (s := s) (n := n) (p := 1) (by omega) (by omega) (by omega) j hj; rw [HZ.out] at hto1; have hf1 : madeN kind key 1 = (madeTo kind key s n 1 J).take n := by unfold madeN; rw [hn, hsn, hmJ]
 generalize madeN kind key 1 = R1 at *; generalize madeTo kind key s n 1 = TO1 at *; have HS1 := Hh hs1; clear hs1; have H01 := Hh h01; clear h01; have HTO1 := Hh hto1; clear hto1; have HF1 := Hh hf1; clear hf1; have HKN := Hh hn; clear hn hsn hmJ; have HAW := Hh (fun W (hb : Below w.heap.size w W) => hA.below hb lr); clear hA; have hB0 : Blk (w.alloc (.cells #[.slice none 0 0, .slice none 0 0] 82)) w.heap.size 82 #[.slice none 0 0, .slice none 0 0] := Blk.new w _ _; have hb0 : Below w.heap.size w (w.alloc (.cells #[.slice none 0 0, .slice none 0 0] 82)) := (Below.refl _ _).alloc lr _; have HB0 := Hh hB0; clear hB0; have HBE0 := Hh hb0; clear hb0; obtain ⟨NB, hNB⟩ : ∃ NB, 8 * n = NB := ⟨_, rfl⟩; have f1 : IntKind.i64.wrap (8 * (n : Int)) = (NB : Int) := by rw [IntWalk.i64_in _ (by omega)]; omega
 have f2 : (NB : Int) / 256 = (hi : Int) := by omega
 have f3 : (NB : Int) % 256 = (lo : Int) := by omega
 have f4 : IntKind.u8.wrap (hi : Int) = (hi : Int) := IntWalk.u8_in _ (by omega); have f5 : IntKind.u8.wrap (lo : Int) = (lo : Int) := IntWalk.u8_in _ (by omega); have f6 : IntKind.u8.wrap (s : Int) = (s : Int) := IntWalk.u8_in _ (by omega); have f7 : (n : Int) / 8 = (n8 : Int) := by omega
 have hhi9 : hi ≤ 1 := by omega
 have hlo9 : lo ≤ 255 := by omega
 clear hhi hlo h8 hNB
 rcases hc with ⟨c1, c4, c5⟩ | ⟨c1, c2, c4, c5⟩ | ⟨c1, c4, c5⟩ | ⟨c1, c2, c4, c5⟩ | ⟨c1, c2, c3, c4, c5⟩
 all_goals first | (have f8 : IntKind.i64.wrap ((n8 : Int) - 2) = (s : Int) := by (rw [IntWalk.i64_in _ (by omega)]; omega)) | (have c6 := c5.symm; clear c5; subst c6)
 all_goals (
  go_enter Tryz.func20, Tryz.ntmps20
  go_wp2_with fail
  refine (HKI.out _).mono ?_; rintro e w1 ⟨rfl, rfl⟩; go_wp2
  go_loopw [11] (fun i wr => ∃ p : Nat, i = .int .i64 p ∧ Below w.heap.size w wr ∧ ((p = 0 ∧ Blk wr w.heap.size 82 #[.slice none 0 0, .slice none 0 0]) ∨ (p = 1 ∧ ∃ va, Blk wr w.heap.size 82 #[va, .slice none 0 0] ∧ OwnN 5 .u8 wr (w.heap.size + 1) va R0) ∨ (p = 2 ∧ ∃ va vb, Blk wr w.heap.size 82 #[va, vb] ∧ OwnN 5 .u8 wr (w.heap.size + 1) va R0 ∧ OwnN 5 .u8 wr (w.heap.size + 1) vb R1))) (fun i _ => 2 - (intOf i).toNat)
  case atStart => exact ⟨0, rfl, HBE0.out, .inl ⟨rfl, HB0.out⟩⟩
  case round =>
   obtain ⟨p, rfl, hbel, ⟨rfl, hB⟩ | ⟨rfl, va, hB, hVA⟩ | ⟨rfl, va, vb, hB, hVA, hVB⟩⟩ := hrel
   ·
    rw [show ((0 : Nat) : Int) = 0 from rfl]; obtain ⟨wm, rfl⟩ : ∃ wm, wm = wr := ⟨_, rfl⟩; clear HB0 HBE0; have hwm := hbel.size; have hgm := hB.lt; obtain ⟨wm2, hwm2⟩ : ∃ wm2, wm2 = wm.heap.size := ⟨_, rfl⟩; rw [← hwm2] at hgm hwm; have HWM := Hh hwm2; clear hwm2
    have hst0 : ∃ j i1 : Nat, ∃ v : Value, j ≤ J ∧ (.int .i64 1 : Value) = .int .i64 i1 ∧ Hid (i1 = j + 1) ∧ i1 ≤ 4 ∧ Blk wm w.heap.size 82 #[v, .slice none 0 0] ∧ OwnN 5 .u8 wm wm2 v (TO0 j) ∧ Below w.heap.size w wm ∧ wm2 ≤ wm.heap.size :=
     ⟨0, 1, .slice none 0 0, by omega, rfl, rfl, by omega, hB, by rw [H00.out]; exact OwnN.nil _ _ _ _, hbel, by rw [HWM.out]; exact Nat.le_refl _⟩
    have HST0 := Hh hst0; clear hst0 hB hbel; go_wp2
    go_loopw [12] (fun i wv => ∃ j i1 : Nat, ∃ v : Value, j ≤ J ∧ i = .int .i64 i1 ∧ Hid (i1 = j + 1) ∧ i1 ≤ 4 ∧ Blk wv w.heap.size 82 #[v, .slice none 0 0] ∧ OwnN 5 .u8 wv wm2 v (TO0 j) ∧ Below w.heap.size w wv ∧ wm2 ≤ wv.heap.size) (fun i _ => 10 - (intOf i).toNat)
    case atStart => exact HST0.out
    case round =>
     obtain ⟨j, i1, v, hj, rfl, hi1, hi4, hB, hown, hbel, hsz⟩ := hrel; have htl := (HTO0.out j (by omega)).1; obtain ⟨A1, cap, rfl, hcap, hAt⟩ := OwnN.form hown; rw [htl] at hown hcap hB; have hcl0 : wr.cell? ⟨w.heap.size, 0, none⟩ = some (.slice A1 (z * j) cap) := hB.cell 0
     by_cases hlt : j < J
     ·
      have hqn0 := HJ.out j hlt; have hqn : ((z * j : Nat) : Int) < (n : Int) := by omega
      clear hqn0; obtain ⟨Q, hQ⟩ : ∃ Q, z * j = Q := ⟨_, rfl⟩; rw [hQ] at hqn hown hcap hB hcl0 htl; have hQ64 : Q ≤ 64 := by omega
      have hst := HS0.out j; rw [← hi1.out] at hst; have hi1b : i1 < 256 := by omega
      have hbb : Byt (blkI i1 0 s n) := blkI_byt hi1b (by omega) (by omega) (by omega); have hCM := Hh (fun A' ct W hA hT => refCmac_any kind key hk n ca HKN.out hca A none none 0 0 0 0 (blkI i1 0 s n) 8 rfl (by omega) (by omega) hbb A' ct W hA hT); have hcl := (cmacN_ok (kind := kind) hk.1 hbb).1; rw [HZ.out] at hcl hCM; have hB5 := Blk.new wr 5 (byteCells (blkI i1 0 s n)); have hbk : byteCells (blkI i1 0 s n) = #[.int .u8 (i1 : Int), .int .u8 0, .int .u8 0, .int .u8 0, .int .u8 0, .int .u8 (s : Int), .int .u8 (hi : Int), .int .u8 (lo : Int)] := by unfold blkI; rw [HHI.out, HLO.out]; rfl
      rw [hbk] at hB5; have hb5 := (Below.refl wr.heap.size wr).alloc lr (.cells #[.int .u8 (i1 : Int), .int .u8 0, .int .u8 0, .int .u8 0, .int .u8 0, .int .u8 (s : Int), .int .u8 (hi : Int), .int .u8 (lo : Int)] 5); have hA5 : At (wr.alloc (.cells #[.int .u8 (i1 : Int), .int .u8 0, .int .u8 0, .int .u8 0, .int .u8 0, .int .u8 (s : Int), .int .u8 (hi : Int), .int .u8 (lo : Int)] 5)) (some ⟨wr.heap.size, 0, none⟩) (blkI i1 0 s n) := fun _ => ⟨_, _, rfl, Bs.ofBlk (by rw [hbk]; exact hB5)⟩; have hx5 := hbel.trans (hb5.mono hbel.size); have hs5 : wr.heap.size < (wr.alloc (.cells #[.int .u8 (i1 : Int), .int .u8 0, .int .u8 0, .int .u8 0, .int .u8 0, .int .u8 (s : Int), .int .u8 (hi : Int), .int .u8 (lo : Int)] 5)).heap.size := by rw [World.size_alloc]; omega
      have HA5 := Hh hA5; have HB5 := Hh hb5; have HX5 := Hh hx5; clear hB5 hbk hA5 hb5 hx5 hbb hAt; generalize cmacN kind key (blkI i1 0 s n) = X at *; have HST := Hh hst; clear hst; have HXL := Hh hcl; clear hcl; have HQ := Hh hQ; clear hQ; have HTLL := Hh htl; clear htl; go_wp2_with fail
      generalize wr.alloc (.cells #[.int .u8 (i1 : Int), .int .u8 0, .int .u8 0, .int .u8 0, .int .u8 0, .int .u8 (s : Int), .int .u8 (hi : Int), .int .u8 (lo : Int)] 5) = w5 at *; refine (hCM.out _ _ _ (HAW.out _ HX5.out) HA5.out).mono ?_; rintro e w6 ⟨⟨gv, ov, cv, rfl, hgv, hBv⟩, hb6⟩; have hb56 := HB5.out.trans (hb6.mono (by omega)); have hB6 := hB.below hb56 hB.lt; have hown6 := OwnN.below hown hb56 lr
      skip
      have hbel6 := hbel.trans (hb56.mono hbel.size); have hs6 := hb56.size; have hgvl := hBv.lt (ne_nil HXL.out (by omega)); have hne6 : (Value.slice A1 Q cap).ownBlock ≠ some gv := fun e => by have := (World.ownsRow.lt hown _ e).2; omega
      clear hB hown hbel hb6 hb56 HA5 HB5 HX5 hcl0
      go_wp2_with (first
       | (refine wpList_store_all rfl 85 (.tmp 13) (.tmp 75) rfl w6.heap.size #[.slice none 0 0, .slice none 0 0] rfl rfl 85 #[.slice none 0 0, .slice none 0 0] (Blk.new w6 _ _) (by rw [info_book]; rfl) rfl (by simp [Value.oneCell']) ?_; intro w8 hB8 hO8; have hbx := hO8.below ((Below.refl w6.heap.size w6).alloc lr (.cells #[.slice none 0 0, .slice none 0 0] 85)) lr; have hBo := hB6.below hbx hB6.lt; have hown8 := OwnN.below hown6 hbx lr; have hbel8 := hbel6.trans (hbx.mono hbel6.size); have hBv8 := hBv.below hbx hgvl; have hs8 := hbx.size; have hc8 : w8.cell? ⟨w.heap.size, 0, none⟩ = some (.slice A1 Q cap) := hBo.cell 0; clear hB6 hown6 hbel6 hBv hbx hB8 hO8)
       | (at_builtin; refine wpList_append_w rfl (.tmp 81) (.tmp 82) rfl wm2 w8 _ (TO0 j) rfl (by have h := hown8; rw [← HTLL.out] at h; rw [← HTLL.out]; exact h) (Below.refl _ _) (by omega) gv ov z cv X rfl HXL.out hBv8 (by rw [HTLL.out]; omega) ?_; intro v7 w9 hown9 hb9 hgr9 hat9; (have hl7 : (TO0 j ++ X).length = Q + z := by rw [List.length_append, HTLL.out, HXL.out]); obtain ⟨g7, c7, rfl, -, -, -⟩ := Own.at_ (OwnN.bytes hown9) hl7 (by omega); clear hl7 hat9; have hB9 := hBo.below hb9 hgm; have hc9 : w9.cell? ⟨w.heap.size, 0, none⟩ = some (.slice A1 Q cap) := hB9.cell 0; have hf9 : w9.frozen? ⟨w.heap.size, 0, none⟩ = false := hB9.frozen 0))
      have hk9 : Keep w.heap.size w9 (w9.setCell ⟨w.heap.size, 0, none⟩ (.slice (some ⟨g7, 0, none⟩) (Q + z) c7)) := (Keep.refl _ _).setCell 0 (.slice (some ⟨g7, 0, none⟩) (Q + z) c7); have hB10 := (hB9.setc (.slice (some ⟨g7, 0, none⟩) (Q + z) c7)).1; rw [← HST.out] at hown9; have hown10 := OwnN.keepW hown9 hk9 (fun e => by have := (World.ownsRow.lt hown9 _ e).1; omega)
      skip
      have hbel10 := hk9.below (hbel8.trans (hb9.mono (by omega))) (by have := hb9.size; omega) lr; have hs10 : wm2 ≤ (w9.setCell ⟨w.heap.size, 0, none⟩ (.slice (some ⟨g7, 0, none⟩) (Q + z) c7)).heap.size := by have := hk9.size; have := hb9.size; omega
      have hi2 : i1 + 1 = j + 1 + 1 := by rw [hi1.out]
      have HI2 := Hh hi2; clear hi2; rw [hi1.out] at hown10; have HB10 := Hh hB10; have HO10 := Hh hown10; have HBEL10 := Hh hbel10
      skip
      have hi4' : i1 + 1 ≤ 4 := by have := hi1.out; omega
      clear hB10 hown10 hbel10 hown9 hb9 hgr9 hB9 hc9 hf9 hBo hown8 hbel8 hBv8 hk9
      go_roundw
      case rel => exact ⟨j + 1, i1 + 1, (.slice (some ⟨g7, 0, none⟩) (Q + z) c7), by omega, by go_num, HI2.out, hi4', HB10.out, HO10.out, HBEL10.out, hs10⟩
      case measure => have := hi1.out; simp [intOf]; omega
     ·
      have hjJ : j = J := by omega
      obtain ⟨Q, hQ⟩ : ∃ Q, z * J = Q := ⟨_, rfl⟩; have hnQ := HJN.out; rw [hQ] at hnQ; rw [hjJ, hQ] at hown hcap hB hcl0 htl; have hl2 : (TO0 J).length = Q := htl; have hqn : (n : Int) ≤ (Q : Int) := by omega
      obtain ⟨gx, cx, e', hgx, hgxl, hBx⟩ := Own.addr (OwnN.bytes hown) (ne_nil hl2 (by omega)); injection e' with e1' e2' e3'; subst e1'; have hown' : Own wr wm2 (.slice (some ⟨gx, 0, none⟩) Q cap) (TO0 J) := hown; have hpre := Own.pre hown' n (by rw [hl2]; exact hnQ); rw [← HF0.out] at hpre; have hfr : wr.frozen? ⟨w.heap.size, 0, none⟩ = false := hB.frozen 0; have hk9 : Keep w.heap.size wr (wr.setCell ⟨w.heap.size, 0, none⟩ (.slice (some ⟨gx, 0, none⟩) n cap)) := (Keep.refl _ _).setCell 0 _; have hpre2 : OwnN 5 .u8 wr wm2 (.slice (some ⟨gx, 0, none⟩) n cap) R0 := hpre; have hpre3 := OwnN.more (C := w.heap.size + 1) (OwnN.keepW hpre2 hk9 (fun e => by have := (World.ownsRow.lt hpre2 _ e).1; omega)) (by omega)
      skip
      have hB3 := (hB.setc (.slice (some ⟨gx, 0, none⟩) n cap)).1; have hbel3 := hk9.below hbel hbel.size lr; have hnc : (n : Int) ≤ (cap : Int) := by omega
      have HP3 := Hh hpre3; have HB3 := Hh hB3; have HBEL3 := Hh hbel3
      skip
      clear e2' e3' hBx hown hown' hpre hpre2 hpre3 hB3 hbel3 hk9 hB hbel hAt htl hl2; go_wp2
      go_roundw
      case rel => exact ⟨1, by go_num, HBEL3.out, .inr (.inl ⟨rfl, _, HB3.out, HP3.out⟩)⟩
      case measure => simp [intOf]
   ·
    rw [show ((1 : Nat) : Int) = 1 from rfl]; obtain ⟨wm, rfl⟩ : ∃ wm, wm = wr := ⟨_, rfl⟩; clear HB0 HBE0; have hwm := hbel.size; have hgm := hB.lt; have hvalt : ∀ g, va.ownBlock = some g → g < wm.heap.size := fun g h => (World.ownsRow.lt hVA g h).2; obtain ⟨wm2, hwm2⟩ : ∃ wm2, wm2 = wm.heap.size := ⟨_, rfl⟩; rw [← hwm2] at hgm hwm hvalt; have HWM := Hh hwm2; clear hwm2
    have hst0 : ∃ j i1 : Nat, ∃ v : Value, j ≤ J ∧ (.int .i64 1 : Value) = .int .i64 i1 ∧ Hid (i1 = j + 1) ∧ i1 ≤ 4 ∧ Blk wm w.heap.size 82 #[va, v] ∧ OwnN 5 .u8 wm wm2 v (TO1 j) ∧ OwnN 5 .u8 wm (w.heap.size + 1) va R0 ∧ Below w.heap.size w wm ∧ wm2 ≤ wm.heap.size :=
     ⟨0, 1, .slice none 0 0, by omega, rfl, rfl, by omega, hB, by rw [H01.out]; exact OwnN.nil _ _ _ _, hVA, hbel, by rw [HWM.out]; exact Nat.le_refl _⟩
    have HST0 := Hh hst0; clear hst0 hB hbel hVA; go_wp2
    go_loopw [12] (fun i wv => ∃ j i1 : Nat, ∃ v : Value, j ≤ J ∧ i = .int .i64 i1 ∧ Hid (i1 = j + 1) ∧ i1 ≤ 4 ∧ Blk wv w.heap.size 82 #[va, v] ∧ OwnN 5 .u8 wv wm2 v (TO1 j) ∧ OwnN 5 .u8 wv (w.heap.size + 1) va R0 ∧ Below w.heap.size w wv ∧ wm2 ≤ wv.heap.size) (fun i _ => 10 - (intOf i).toNat)
    case atStart => exact HST0.out
    case round =>
     obtain ⟨j, i1, v, hj, rfl, hi1, hi4, hB, hown, hVA, hbel, hsz⟩ := hrel; have htl := (HTO1.out j (by omega)).1; obtain ⟨A1, cap, rfl, hcap, hAt⟩ := OwnN.form hown; rw [htl] at hown hcap hB; have hcl0 : wr.cell? ⟨w.heap.size, 1, none⟩ = some (.slice A1 (z * j) cap) := hB.cell 1
     by_cases hlt : j < J
     ·
      have hqn0 := HJ.out j hlt; have hqn : ((z * j : Nat) : Int) < (n : Int) := by omega
      clear hqn0; obtain ⟨Q, hQ⟩ : ∃ Q, z * j = Q := ⟨_, rfl⟩; rw [hQ] at hqn hown hcap hB hcl0 htl; have hQ64 : Q ≤ 64 := by omega
      have hst := HS1.out j; rw [← hi1.out] at hst; have hi1b : i1 < 256 := by omega
      have hbb : Byt (blkI i1 1 s n) := blkI_byt hi1b (by omega) (by omega) (by omega); have hCM := Hh (fun A' ct W hA hT => refCmac_any kind key hk n ca HKN.out hca A none none 0 0 0 0 (blkI i1 1 s n) 8 rfl (by omega) (by omega) hbb A' ct W hA hT); have hcl := (cmacN_ok (kind := kind) hk.1 hbb).1; rw [HZ.out] at hcl hCM; have hB5 := Blk.new wr 5 (byteCells (blkI i1 1 s n)); have hbk : byteCells (blkI i1 1 s n) = #[.int .u8 (i1 : Int), .int .u8 0, .int .u8 1, .int .u8 0, .int .u8 0, .int .u8 (s : Int), .int .u8 (hi : Int), .int .u8 (lo : Int)] := by unfold blkI; rw [HHI.out, HLO.out]; rfl
      rw [hbk] at hB5; have hb5 := (Below.refl wr.heap.size wr).alloc lr (.cells #[.int .u8 (i1 : Int), .int .u8 0, .int .u8 1, .int .u8 0, .int .u8 0, .int .u8 (s : Int), .int .u8 (hi : Int), .int .u8 (lo : Int)] 5); have hA5 : At (wr.alloc (.cells #[.int .u8 (i1 : Int), .int .u8 0, .int .u8 1, .int .u8 0, .int .u8 0, .int .u8 (s : Int), .int .u8 (hi : Int), .int .u8 (lo : Int)] 5)) (some ⟨wr.heap.size, 0, none⟩) (blkI i1 1 s n) := fun _ => ⟨_, _, rfl, Bs.ofBlk (by rw [hbk]; exact hB5)⟩; have hx5 := hbel.trans (hb5.mono hbel.size); have hs5 : wr.heap.size < (wr.alloc (.cells #[.int .u8 (i1 : Int), .int .u8 0, .int .u8 1, .int .u8 0, .int .u8 0, .int .u8 (s : Int), .int .u8 (hi : Int), .int .u8 (lo : Int)] 5)).heap.size := by rw [World.size_alloc]; omega
      have HA5 := Hh hA5; have HB5 := Hh hb5; have HX5 := Hh hx5; clear hB5 hbk hA5 hb5 hx5 hbb hAt; generalize cmacN kind key (blkI i1 1 s n) = X at *; have HST := Hh hst; clear hst; have HXL := Hh hcl; clear hcl; have HQ := Hh hQ; clear hQ; have HTLL := Hh htl; clear htl; go_wp2_with fail
      generalize wr.alloc (.cells #[.int .u8 (i1 : Int), .int .u8 0, .int .u8 1, .int .u8 0, .int .u8 0, .int .u8 (s : Int), .int .u8 (hi : Int), .int .u8 (lo : Int)] 5) = w5 at *; refine (hCM.out _ _ _ (HAW.out _ HX5.out) HA5.out).mono ?_; rintro e w6 ⟨⟨gv, ov, cv, rfl, hgv, hBv⟩, hb6⟩; have hb56 := HB5.out.trans (hb6.mono (by omega)); have hB6 := hB.below hb56 hB.lt; have hown6 := OwnN.below hown hb56 lr; have hVA6 := OwnN.below hVA hb56 lr; have hbel6 := hbel.trans (hb56.mono hbel.size); have hs6 := hb56.size; have hgvl := hBv.lt (ne_nil HXL.out (by omega)); have hne6 : (Value.slice A1 Q cap).ownBlock ≠ some gv := fun e => by have := (World.ownsRow.lt hown _ e).2; omega
      clear hB hown hbel hb6 hb56 HA5 HB5 HX5 hcl0 hVA
      go_wp2_with (first
       | (refine wpList_store_all rfl 85 (.tmp 13) (.tmp 75) rfl w6.heap.size #[.slice none 0 0, .slice none 0 0] rfl rfl 85 #[.slice none 0 0, .slice none 0 0] (Blk.new w6 _ _) (by rw [info_book]; rfl) rfl (by simp [Value.oneCell']) ?_; intro w8 hB8 hO8; have hbx := hO8.below ((Below.refl w6.heap.size w6).alloc lr (.cells #[.slice none 0 0, .slice none 0 0] 85)) lr; have hBo := hB6.below hbx hB6.lt; have hown8 := OwnN.below hown6 hbx lr; have hVA8 := OwnN.below hVA6 hbx lr; have hbel8 := hbel6.trans (hbx.mono hbel6.size); have hBv8 := hBv.below hbx hgvl; have hs8 := hbx.size; have hc8 : w8.cell? ⟨w.heap.size, 1, none⟩ = some (.slice A1 Q cap) := hBo.cell 1; clear hB6 hown6 hbel6 hBv hbx hB8 hO8 hVA6)
       | (at_builtin; refine wpList_append_w rfl (.tmp 81) (.tmp 82) rfl wm2 w8 _ (TO1 j) rfl (by have h := hown8; rw [← HTLL.out] at h; rw [← HTLL.out]; exact h) (Below.refl _ _) (by omega) gv ov z cv X rfl HXL.out hBv8 (by rw [HTLL.out]; omega) ?_; intro v7 w9 hown9 hb9 hgr9 hat9; (have hl7 : (TO1 j ++ X).length = Q + z := by rw [List.length_append, HTLL.out, HXL.out]); obtain ⟨g7, c7, rfl, -, -, -⟩ := Own.at_ (OwnN.bytes hown9) hl7 (by omega); clear hl7 hat9; have hB9 := hBo.below hb9 hgm; have hc9 : w9.cell? ⟨w.heap.size, 1, none⟩ = some (.slice A1 Q cap) := hB9.cell 1; have hf9 : w9.frozen? ⟨w.heap.size, 1, none⟩ = false := hB9.frozen 1))
      have hk9 : Keep w.heap.size w9 (w9.setCell ⟨w.heap.size, 1, none⟩ (.slice (some ⟨g7, 0, none⟩) (Q + z) c7)) := (Keep.refl _ _).setCell 1 (.slice (some ⟨g7, 0, none⟩) (Q + z) c7); have hB10 := (hB9.setc (.slice (some ⟨g7, 0, none⟩) (Q + z) c7)).2; rw [← HST.out] at hown9; have hown10 := OwnN.keepW hown9 hk9 (fun e => by have := (World.ownsRow.lt hown9 _ e).1; omega); have hVA10 := OwnN.keepW (OwnN.below2 hVA8 hb9 hvalt) hk9 (fun e => by have := (World.ownsRow.lt hVA8 _ e).1; omega); have hbel10 := hk9.below (hbel8.trans (hb9.mono (by omega))) (by have := hb9.size; omega) lr; have hs10 : wm2 ≤ (w9.setCell ⟨w.heap.size, 1, none⟩ (.slice (some ⟨g7, 0, none⟩) (Q + z) c7)).heap.size := by have := hk9.size; have := hb9.size; omega
      have hi2 : i1 + 1 = j + 1 + 1 := by rw [hi1.out]
      have HI2 := Hh hi2; clear hi2; rw [hi1.out] at hown10; have HB10 := Hh hB10; have HO10 := Hh hown10; have HBEL10 := Hh hbel10; have HVA10 := Hh hVA10; have hi4' : i1 + 1 ≤ 4 := by have := hi1.out; omega
      clear hB10 hown10 hbel10 hown9 hb9 hgr9 hB9 hc9 hf9 hBo hown8 hbel8 hBv8 hk9 hVA10 hVA8
      go_roundw
      case rel => exact ⟨j + 1, i1 + 1, (.slice (some ⟨g7, 0, none⟩) (Q + z) c7), by omega, by go_num, HI2.out, hi4', HB10.out, HO10.out, HVA10.out, HBEL10.out, hs10⟩
      case measure => have := hi1.out; simp [intOf]; omega
     ·
      have hjJ : j = J := by omega
      obtain ⟨Q, hQ⟩ : ∃ Q, z * J = Q := ⟨_, rfl⟩; have hnQ := HJN.out; rw [hQ] at hnQ; rw [hjJ, hQ] at hown hcap hB hcl0 htl; have hl2 : (TO1 J).length = Q := htl; have hqn : (n : Int) ≤ (Q : Int) := by omega
      obtain ⟨gx, cx, e', hgx, hgxl, hBx⟩ := Own.addr (OwnN.bytes hown) (ne_nil hl2 (by omega)); injection e' with e1' e2' e3'; subst e1'; have hown' : Own wr wm2 (.slice (some ⟨gx, 0, none⟩) Q cap) (TO1 J) := hown; have hpre := Own.pre hown' n (by rw [hl2]; exact hnQ); rw [← HF1.out] at hpre; have hfr : wr.frozen? ⟨w.heap.size, 1, none⟩ = false := hB.frozen 1; have hk9 : Keep w.heap.size wr (wr.setCell ⟨w.heap.size, 1, none⟩ (.slice (some ⟨gx, 0, none⟩) n cap)) := (Keep.refl _ _).setCell 1 _; have hpre2 : OwnN 5 .u8 wr wm2 (.slice (some ⟨gx, 0, none⟩) n cap) R1 := hpre; have hpre3 := OwnN.more (C := w.heap.size + 1) (OwnN.keepW hpre2 hk9 (fun e => by have := (World.ownsRow.lt hpre2 _ e).1; omega)) (by omega); have hVA3 := OwnN.keepW hVA hk9 (fun e => by have := (World.ownsRow.lt hVA _ e).1; omega); have hB3 := (hB.setc (.slice (some ⟨gx, 0, none⟩) n cap)).2; have hbel3 := hk9.below hbel hbel.size lr; have hnc : (n : Int) ≤ (cap : Int) := by omega
      have HP3 := Hh hpre3; have HB3 := Hh hB3; have HBEL3 := Hh hbel3; have HVA3 := Hh hVA3; clear e2' e3' hBx hown hown' hpre hpre2 hpre3 hB3 hbel3 hk9 hB hbel hAt htl hl2 hVA hVA3; go_wp2
      go_roundw
      case rel => exact ⟨2, by go_num, HBEL3.out, .inr (.inr ⟨rfl, _, _, HB3.out, HVA3.out, HP3.out⟩)⟩
      case measure => simp [intOf]
   ·
    rw [show ((2 : Nat) : Int) = 2 from rfl]; have hd0 : wr.drew.cell? ⟨w.heap.size, 0, none⟩ = some va := hB.cell 0; have hd1 : wr.drew.cell? ⟨w.heap.size, 1, none⟩ = some vb := hB.cell 1; have hc0 : ∀ m, (wr.drewN m).cell? ⟨w.heap.size, 0, none⟩ = some va := fun m => hB.cell 0; have hc1 : ∀ m, (wr.drewN m).cell? ⟨w.heap.size, 1, none⟩ = some vb := fun m => hB.cell 1; clear HB0 HBE0; go_wp2_with fail
    go_quiet (fail)
    have hfa : Own (wr.drewN nq) w.heap.size va R0 := OwnN.more (C := w.heap.size) (OwnN.below hVA (below_drewN (Below.refl wr.heap.size wr) nq) lr) (by omega); have hfb : Own (wr.drewN nq) w.heap.size vb R1 := OwnN.more (C := w.heap.size) (OwnN.below hVB (below_drewN (Below.refl wr.heap.size wr) nq) lr) (by omega); have hbf := below_drewN hbel nq; clear hd0 hd1 hc0 hc1 hB hVA hVB hbel; go_wp2
    go_ret3
    exact ⟨⟨va, vb, rfl, hfa, hfb⟩, hbf⟩)

theorem refKeys_ok (v kind : Nat) (hv : kindV v = kind) (key : List Nat) (hk : KeyOk kind key) (n : Nat) (hn : key.length = n) (A : Option Addr) (ca : Nat) (hca : n ≤ ca) (w : World) (hA : At w A key) :
    Calls Tryz.prog 20 #[.int .u8 v, .slice A n ca] w fun e w' =>
     (∃ va vb, e = .returned (.tuple #[va, vb, .int .i64 0]) ∧ Own w' w.heap.size va (madeN kind key 0) ∧ Own w' w.heap.size vb (madeN kind key 1)) ∧ Below w.heap.size w w' := by
 have h2 := hk.2; rw [hn] at h2
 rcases h2 with ⟨rfl, rfl | rfl⟩ | ⟨rfl, rfl | rfl | rfl⟩
 ·
  exact refKeys_gen v 2 16 0 2 8 0 128 2 hv key hk hn rfl rfl size_2 (by omega) (by omega) (by omega) (by omega) (by omega) (by omega) (by omega) (by omega) rfl rfl rfl (by decide) A ca hca w hA
 ·
  exact refKeys_gen v 2 24 1 3 8 0 192 3 hv key hk hn rfl rfl size_2 (by omega) (by omega) (by omega) (by omega) (by omega) (by omega) (by omega) (by omega) rfl rfl rfl (by decide) A ca hca w hA
 ·
  exact refKeys_gen v 1 16 2 1 16 0 128 2 hv key hk hn rfl rfl size_1 (by omega) (by omega) (by omega) (by omega) (by omega) (by omega) (by omega) (by omega) rfl rfl rfl (by decide) A ca hca w hA
 ·
  exact refKeys_gen v 1 24 3 2 16 0 192 3 hv key hk hn rfl rfl size_1 (by omega) (by omega) (by omega) (by omega) (by omega) (by omega) (by omega) (by omega) rfl rfl rfl (by decide) A ca hca w hA
 ·
  exact refKeys_gen v 1 32 4 2 16 1 0 4 hv key hk hn rfl rfl size_1 (by omega) (by omega) (by omega) (by omega) (by omega) (by omega) (by omega) (by omega) rfl rfl rfl (by decide) A ca hca w hA
/-- the reference's keys, where there are none -/
theorem refKeys_bad (v n : Nat) (hn : n ≤ 1000) (er : Er) (he : keysEr v n = er) (hne : er ≠ .ok) (A : Option Addr) (c : Nat) (w : World) :
    Calls Tryz.prog 20 #[.int .u8 v, .slice A n c] w fun e w' => e = .returned (.tuple #[.slice none 0 0, .slice none 0 0, .int .i64 (erCode er)]) ∧ w = w' := by
 have HK := Hh (fun W => refKind_any v W); have hc := kindV_cases v
 unfold keysEr at he
 generalize kindV v = k at *
 by_cases h0 : k = 0
 ·
  rw [if_pos h0] at he; subst h0; subst he; clear hc hne
  go_enter Tryz.func20, Tryz.ntmps20
  go_wp2_with fail
  refine (HK.out _).mono ?_; rintro e w1 ⟨rfl, rfl⟩; go_wp2
  go_ret3
  exact ⟨rfl, rfl⟩
 ·
  rw [if_neg h0] at he
  by_cases h1 : sortZ k n < 0
  ·
   rw [if_pos h1] at he; subst he; clear hne
   unfold sortZ at h1
   by_cases h2 : n = 16 ∨ n = 24
   ·
    rw [if_pos h2] at h1
    split at h1 <;> omega
   ·
    rw [if_neg h2] at h1
    by_cases h3 : n = 32 ∧ k = 1
    ·
     rw [if_pos h3] at h1; omega
    ·
     have t1 : ((n : Int) != 16) = true := by rw [bne_iff_ne]; omega
     have t2 : ((n : Int) != 24) = true := by rw [bne_iff_ne]; omega
     have t0 : ((k : Int) == 0) = false := by rw [beq_eq_false_iff_ne]; omega
     by_cases h4 : n = 32
     ·
      have h5 : k = 2 := by omega
      subst h5; have t3 : ((n : Int) != 32) = false := by rw [bne_eq_false_iff_eq]; omega
      clear h1 h2 h3 h4 h0 hc t0
      go_enter Tryz.func20, Tryz.ntmps20
      go_wp2_with fail
      refine (HK.out _).mono ?_; rintro e w1 ⟨rfl, rfl⟩; go_wp2
      go_ret3
      exact ⟨rfl, rfl⟩
     ·
      have t3 : ((n : Int) != 32) = true := by rw [bne_iff_ne]; omega
      clear h1 h2 h3 h4 h0 hc
      go_enter Tryz.func20, Tryz.ntmps20
      go_wp2_with fail
      refine (HK.out _).mono ?_; rintro e w1 ⟨rfl, rfl⟩; go_wp2
      go_ret3
      exact ⟨rfl, rfl⟩
  ·
   rw [if_neg h1] at he; exact absurd he.symm hne
end Go.Proofs.YtfkjkkjimdilcaaGreatDoor
