/- The contract of lockboxref06.Do, enciphering. -/
import Derived.Test.YtfkjkkjimdilcaaGreatDoorKRX
namespace Go.Proofs.YtfkjkkjimdilcaaGreatDoor
open Go Go.RowKit Pr

/-- what holds of lockboxref05.Do -/
def DoOk (key : List Nat) (kind kl ca : Nat) (A : Option Addr) (cs : Array Value) (back : Bool) : Prop := ∀ (x : List Nat), x.length = sizeN kind → Byt x → ∀ (B : Option Addr) (cb : Nat) (W : World), At W A key → At W B x →
    Calls Tryz.prog 76 #[.int .i64 kind, .slice A kl ca, .agg cs, .slice B (sizeN kind) cb, .bool back] W fun e w' => (∃ gv cv, e = .returned (.tuple #[.agg cs, .slice (some ⟨gv, 0, none⟩) (sizeN kind) cv, .bool true]) ∧ W.heap.size ≤ gv ∧ gv < w'.heap.size ∧ sizeN kind ≤ cv ∧ Bs w' gv 0 (ciN kind key x back)) ∧ Below W.heap.size W w'
theorem doOk_enc {kind : Nat} {key : List Nat} (hk : KeyOk kind key) (kl ca : Nat) (hkl : key.length = kl) (hca : kl ≤ ca) (A : Option Addr) (r0 r1 : Option Addr) (n0 n1 c0 c1 : Nat) : DoOk key kind kl ca A #[.slice r0 n0 c0, .slice r1 n1 c1] false := by
  intro x hx gx B cb W hA hB
  obtain ⟨gk, ⟨rfl, h⟩ | ⟨rfl, h⟩⟩ := hk
  · rw [size_2] at hx ⊢
    rw [ciN_2]
    exact refDo2_any key kl (by omega) hkl gk x hx gx false A B ca cb hca r0 r1 n0 n1 c0 c1 W hA hB
  · rw [size_1] at hx ⊢
    rw [ciN_1]
    have hK : ∃ nr, AesK kl nr := by
      rw [hkl] at h
      rcases h with h | h | h
      · exact ⟨10, .inl ⟨h, rfl⟩⟩
      · exact ⟨12, .inr (.inl ⟨h, rfl⟩)⟩
      · exact ⟨14, .inr (.inr ⟨h, rfl⟩)⟩
    obtain ⟨nr, hK⟩ := hK
    exact refDo1e_any key kl nr hK hkl gk x hx gx A B ca cb r0 r1 n0 n1 c0 c1 W hA hB

/-- bytes more, and what that leaves alone -/
theorem wpList_append_w {ops : Array Oper} {rest : List Oper} {Q : Exit → Act → World → Prop} {op : Oper} {a : Act} {w : World} (hgd : op.guard = none) (s x : Operand) (ho : op.op = .call { callee := .builtin .append, args := #[s, x], argTypes := #[22, 22] })
    (B : Nat) (w0 : World) (v : Value) (l : List Nat) (hs : a.eval s = v) (hown : OwnN 5 .u8 w B v l) (hbel : Below B w0 w) (hB : B ≤ w.heap.size)
    (b o m c : Nat) (l2 : List Nat) (hx : a.eval x = .slice (some ⟨b, o, none⟩) m c) (hm : l2.length = m) (hA : Bs w b o l2) (h63 : l.length + m ≤ 1000000000)
    (h : ∀ v' w', OwnN 5 .u8 w' B v' (l ++ l2) → Below B w0 w' → w.grownBy w' v.ownBlock → (v'.ownBlock = v.ownBlock ∨ v'.ownBlock = some w.heap.size) → wpList Tryz.prog ops Q rest (a.put op.dst v') w') : wpList Tryz.prog ops Q (op :: rest) a w :=
  wpList_plain hgd fun _ hK => op_append_numsW s x 22 ho .u8 5 1 Tryz.underlying22 info_byte B w0 v l hs hown hbel hB _ m c l2 hx hm ⟨_, _, rfl, hA⟩ h63 (by omega) fun v' w' h1 h2 h3 h4 => hK _ _ (h v' w' h1 h2 h3 h4)
theorem Bs.grown {w w' : World} {b o : Nat} {l : List Nat} {row : Option Nat} (h : Bs w b o l) (hg : w.grownBy w' row) (hb : b < w.heap.size) (hne : some b ≠ row) : Bs w' b o l := Ns.grownW h hg hb hne
theorem Blk.grown {w w' : World} {g : Nat} {t : TypeId} {cs : Array Value} {row : Option Nat} (h : Blk w g t cs) (hg : w.grownBy w' row) (hne : some g ≠ row) : Blk w' g t cs := (hg.block g h.lt hne).trans h

theorem Only.keep {g : Nat} {w w' : World} (h : Only g w w') : Keep g w w' := ⟨h.os, h.tape, h.output, by have := h.size; omega, fun i _ hi => h.block i hi⟩
/-- while blocks are chained -/
def ChSt (w : World) (cs : Array Value) (W : World) (last out : Value) (n : Nat) (L O : List Nat) : Prop :=
  (∃ gl ol cl, last = .slice (some ⟨gl, ol, none⟩) n cl ∧ Bs W gl ol L ∧ gl < W.heap.size ∧ out.ownBlock ≠ some gl) ∧ OwnN 5 .u8 W (w.heap.size + 2) out O ∧ Blk W w.heap.size 85 cs ∧ (∃ z : Array Value, z.size = 2 ∧ Blk W (w.heap.size + 1) 85 z) ∧ Below w.heap.size w W

set_option maxHeartbeats 8000000 in
set_option maxRecDepth 100000 in
theorem refChE_any (kind : Nat) (hk12 : kind = 1 ∨ kind = 2) (key : List Nat) (gk : Byt key) (kl ca : Nat) (A : Option Addr) (cs : Array Value) (hcs : ∃ r0 r1 n0 n1 c0 c1, cs = #[Value.slice r0 n0 c0, Value.slice r1 n1 c1]) (hdo : DoOk key kind kl ca A cs false)
    (start : List Nat) (hs : start.length = sizeN kind) (gs : Byt start) (t : List Nat) (TL : Nat) (ht : t.length = TL) (ht0 : 0 < TL) (htm : TL % sizeN kind = 0) (htl : TL ≤ 1000) (gt : Byt t)
    (S T : Option Addr) (cS cT : Nat) (hct : TL ≤ cT) (w : World) (hA : At w A key) (hS : At w S start) (hT : At w T t) :
    Calls Tryz.prog 48 #[.int .i64 kind, .slice A kl ca, .agg cs, .slice S (sizeN kind) cS, .slice T TL cT, .bool false] w fun e w' => (∃ v, e = .returned (.tuple #[.agg cs, v, .int .i64 (-1)]) ∧ Own w' w.heap.size v (chN kind key start t false)) ∧ Below w.heap.size w w' := by
  have hch : chN kind key start t false = (cbcE (fun x => ciN kind key x false) (sizeN kind) start t (t.length / sizeN kind)).1 := rfl
  rw [hch, ht]
  clear hch
  have hmul := mul_div htm
  have hn0 := size_pos kind
  have hn16 := size_le kind
  have hok := fun m h => cbcE_ok (ci_blocks (kind := kind) gk false) hs gs gt m h
  have hst : ∀ m, cbcE (fun x => ciN kind key x false) (sizeN kind) start t (m + 1) = ((cbcE (fun x => ciN kind key x false) (sizeN kind) start t m).1 ++ ciN kind key (xorTo (blkAt (sizeN kind) m t) (cbcE (fun x => ciN kind key x false) (sizeN kind) start t m).2 (sizeN kind)) false, ciN kind key (xorTo (blkAt (sizeN kind) m t) (cbcE (fun x => ciN kind key x false) (sizeN kind) start t m).2 (sizeN kind)) false) := fun _ => rfl
  have h0 : cbcE (fun x => ciN kind key x false) (sizeN kind) start t 0 = ([], start) := rfl
  generalize cbcE (fun x => ciN kind key x false) (sizeN kind) start t = CB at *
  have HSZ := Lib.hid (fun W => refSize_any kind hk12 W)
  have HCL := Lib.hid (fun x => ciN_len kind key x false)
  unfold DoOk at hdo
  generalize sizeN kind = n at *
  generalize TL / n = M at *
  obtain ⟨tb, tq, rfl, hTB⟩ := hT (ne_nil ht ht0)
  have htbl := hTB.lt (ne_nil ht ht0)
  obtain ⟨sb, so, rfl, hSB⟩ := hS (ne_nil hs hn0)
  have hsbl := hSB.lt (ne_nil hs hn0)
  have hcz : cs.size = 2 := by obtain ⟨r0, r1, n0, n1, c0, c1, rfl⟩ := hcs; rfl
  have hco : cs.all (·.oneCell') = true := by obtain ⟨r0, r1, n0, n1, c0, c1, rfl⟩ := hcs; simp [Value.oneCell']
  have HCZ := Lib.hid hcz; clear hcz
  have HCO := Lib.hid hco; clear hco hcs
  have HA := Lib.hid (fun W (hb : Below w.heap.size w W) => hA.below hb (Nat.le_refl _))
  have HT := Lib.hid (fun W (hb : Below w.heap.size w W) => hTB.below hb htbl)
  have HSB := Lib.hid (fun W (hb : Below w.heap.size w W) => hSB.below hb hsbl)
  have HTL := Lib.hid ht; clear ht
  have HSL := Lib.hid hs; clear hs
  have HMUL := Lib.hid hmul
  have HOK := Lib.hid hok; clear hok
  have HST := Lib.hid hst; clear hst
  have H0 := Lib.hid h0; clear h0
  have HDO := Lib.hid hdo; clear hdo
  have hTM := Lib.hid htm; clear htm
  have hmul1 : n * M ≤ TL := by omega
  have hmul2 : TL ≤ n * M := by omega
  clear hmul hA hS hT hTB hSB gk
  have hS0 : Blk ((w.alloc (.cells cs 85)).alloc (.cells #[.slice none 0 0, .slice none 0 0] 85)) w.heap.size 85 cs := (Blk.new w _ _).alloc _
  have hR0 : Blk ((w.alloc (.cells cs 85)).alloc (.cells #[.slice none 0 0, .slice none 0 0] 85)) (w.heap.size + 1) 85 #[.slice none 0 0, .slice none 0 0] := Blk.new2 w _ _ _
  have hb0 : Below w.heap.size w ((w.alloc (.cells cs 85)).alloc (.cells #[.slice none 0 0, .slice none 0 0] 85)) := ((Below.refl _ _).alloc (Nat.le_refl _) _).alloc (by simp) _
  have hz0 : ((w.alloc (.cells cs 85)).alloc (.cells #[.slice none 0 0, .slice none 0 0] 85)).heap.size = w.heap.size + 2 := by simp
  have hst0 : ChSt w cs ((w.alloc (.cells cs 85)).alloc (.cells #[.slice none 0 0, .slice none 0 0] 85)) (.slice (some ⟨sb, so, none⟩) n cS) (.slice none 0 0) n (CB 0).2 (CB 0).1 := by
    rw [H0.out]
    exact ⟨⟨sb, so, cS, rfl, HSB.out _ hb0, by omega, by simp [Value.ownBlock]⟩, OwnN.nil _ _ _ _, hS0, ⟨_, rfl, hR0⟩, hb0⟩
  have HST0 := Lib.hid hst0; clear hst0 hS0 hR0 hb0 hz0
  go_enter Tryz.func48, Tryz.ntmps48
  go_wp2_with fail
  refine (HSZ.out _).mono ?_
  rintro e w1 ⟨rfl, rfl⟩
  go_wp2
  go_loopw [16, 17, 18] (fun l o i wr => ∃ m I : Nat, m ≤ M ∧ n * m = I ∧ i = .int .i64 I ∧ ChSt w cs wr l o n (CB m).2 (CB m).1) (fun _ _ i _ => TL - (intOf i).toNat)
  case atStart => exact ⟨0, 0, by omega, by omega, rfl, HST0.out⟩
  case round =>
    obtain ⟨m, I, hm, hI, rfl, ⟨gl, ol, cl, rfl, hBl, hgl, hne⟩, hown, hBk, ⟨z, hz, hZ⟩, hbel⟩ := hrel
    clear HST0
    by_cases hlt : m < M
    · have hnm : n * (m + 1) ≤ n * M := Nat.mul_le_mul_left n (by omega)
      rw [Nat.mul_succ, hI] at hnm
      have hIn : I + n ≤ TL := by omega
      obtain ⟨k1, k2, k3, k4⟩ := HOK.out m (by rw [HTL.out]; omega)
      have hst := HST.out m
      have hbk := blkAt_len (n := n) (m := m) (t := t) (by rw [HTL.out, hI]; exact hIn)
      have hbb := blkAt_byt (n := n) (m := m) gt
      have hxl : (xorTo (blkAt n m t) (CB m).2 n).length = n := by rw [xorTo_len, hbk]
      have hxb := xor_byt hbb k4 n
      have hBx : ∀ W, Below w.heap.size w W → Bs W tb (tq + I) (blkAt n m t) := fun W hW => by
        have := (HT.out W hW).sub (n * m) n
        rw [hI] at this
        unfold blkAt
        rw [hI]
        exact this
      obtain ⟨O2, hO2⟩ : ∃ O2, CB (m + 1) = O2 := ⟨_, rfl⟩
      rw [hO2] at hst
      have HO2 := Lib.hid hO2; clear hO2
      generalize (CB m).1 = O at *
      generalize (CB m).2 = L at *
      generalize blkAt n m t = X at *
      have HXR := Lib.hid (fun W a b => refXor_any X L n hbk k3 hn0 (by omega) hbb k4 (some ⟨tb, tq + I, none⟩) (some ⟨gl, ol, none⟩) (cT - I) cl W a b)
      generalize xorTo X L n = Y at *
      have HDY := Lib.hid (fun B cb W a b => HDO.out Y hxl hxb B cb W a b)
      have hcl := HCL.out Y
      generalize ciN kind key Y false = C at *
      have HC2 := Lib.hid hst; clear hst
      have HYL := Lib.hid hxl; clear hxl
      have HCLL := Lib.hid hcl; clear hcl
      have HBX := Lib.hid hBx; clear hBx
      have HOL := Lib.hid k1; clear k1
      have hOl : O.length ≤ 1000 := by rw [HOL.out, hI]; omega
      have HLL := Lib.hid k3; clear k3
      have HI := Lib.hid hI; clear hI
      clear hnm hbk hbb hxb k2 k4
      have hi1 : (I : Int) + (n : Int) ≤ (TL : Int) := by omega
      have hi2 : (I : Int) + (n : Int) ≤ (cT : Int) := by omega
      have hi3 : (0 : Int) < (n : Int) := by omega
      go_wp2_with fail
      refine (HXR.out _ (fun _ => ⟨_, _, rfl, HBX.out _ hbel⟩) (fun _ => ⟨_, _, rfl, hBl⟩)).mono ?_
      rintro e w2 ⟨⟨v, rfl, hv⟩, hb2⟩
      obtain ⟨gy, cy, rfl, hgy, hcy, hgyl, hBy⟩ := hv.form (ne_nil HYL.out hn0)
      rw [HYL.out] at hcy ⊢
      have hown2 := OwnN.below hown hb2 (Nat.le_refl _)
      have hBk2 := hBk.below hb2 hBk.lt
      have hZ2 := hZ.below hb2 hZ.lt
      have hbel2 := hbel.trans (hb2.mono hbel.size)
      clear hv hown hBk hZ hbel hb2 hBl hgl hne hgy hcy HXR HBX
      go_wp2_with (refine wpList_load_row rfl 85 (.tmp 8) rfl w.heap.size rfl 85 _ (0,0) _ hBk2 Tryz.underlying85 rfl (by rw [info_book, HCZ.out]) ?_)
      refine (HDY.out _ _ _ (HA.out _ hbel2) (fun _ => ⟨_, _, rfl, hBy⟩)).mono ?_
      rintro e w3 ⟨⟨gv, cv, rfl, hgv, hgvl, hcv, hBv⟩, hb3⟩
      have hown3 := OwnN.below hown2 hb3 (Nat.le_refl _)
      have hne3 : u17.ownBlock ≠ some gv := fun e => by have := (World.ownsRow.lt hown2 _ e).2; omega
      have hBk3 := hBk2.below hb3 hBk2.lt
      have hZ3 := hZ2.below hb3 hZ2.lt
      have hbel3 := hbel2.trans (hb3.mono hbel2.size)
      have hs3 := hbel3.size
      have hzl := hZ3.lt
      have hz2l := hZ2.lt
      clear hown2 hBk2 hZ2 hbel2 hb3 hBy HDY hgyl
      go_wp2_with (first
        | (refine wpList_store_all rfl 85 (.tmp 20) (.tmp 58) rfl w3.heap.size cs rfl rfl 85 #[.slice none 0 0, .slice none 0 0] (Blk.new w3 _ _) (by rw [info_book, HCZ.out]) (by rw [HCZ.out]; rfl) HCO.out ?_; intro w4 hB4 hO4; have hb4 := hO4.below ((Below.refl w3.heap.size w3).alloc (Nat.le_refl _) (.cells #[.slice none 0 0, .slice none 0 0] 85)) (Nat.le_refl _); have hBk4 := hBk3.below hb4 hBk3.lt; have hZ4 := hZ3.below hb4 hZ3.lt; have hown4 := OwnN.below hown3 hb4 (Nat.le_refl _); have hBv4 := hBv.below hb4 hgvl; have hbel4 := hbel3.trans (hb4.mono hs3); have hs4 := hb4.size)
        | (refine wpList_load_row rfl 85 (.tmp 20) rfl w3.heap.size rfl 85 _ (0,0) _ hB4 Tryz.underlying85 rfl (by rw [info_book, HCZ.out]) ?_)
        | (refine wpList_store_all rfl 85 (.tmp 8) (.tmp 61) rfl w.heap.size cs rfl rfl 85 cs hBk4 (by rw [info_book, HCZ.out]) rfl HCO.out ?_; intro w5 hBk5 hO5; have hZ5 := hZ4.only hO5 (by omega); have hown5 := OwnN.keepW hown4 hO5.keep (fun e => by have := (World.ownsRow.lt hown4 _ e).1; omega); have hBv5 := hBv4.only hO5 (by omega); have hbel5 := hO5.below hbel4 (Nat.le_refl _); have hs5 := hO5.size)
        | (at_builtin; refine wpList_append_w rfl (.tmp 84) (.tmp 85) rfl (w.heap.size + 2) w5 _ O rfl hown5 (Below.refl _ _) (by omega) gv 0 n cv C rfl HCLL.out hBv5 (by omega) ?_; intro v6 w6 hown6 hbel6 hgr6 hat6))
      have hst : ChSt w cs w6 (.slice (some ⟨gv, 0, none⟩) n cv) v6 n (CB (m + 1)).2 (CB (m + 1)).1 := by
        rw [HO2.out, HC2.out]
        refine ⟨⟨gv, 0, cv, rfl, hBv5.grown hgr6 (by omega) (fun e => hne3 e.symm), ?_, ?_⟩, hown6, hBk5.below hbel6 (by omega), ⟨z, hz, hZ5.below hbel6 (by omega)⟩, hbel5.trans (hbel6.mono (by omega))⟩
        · have := hbel6.size; omega
        · intro e
          rcases hat6 with h | h
          · rw [e] at h
            exact hne3 h.symm
          · rw [e] at h
            injection h with h
            omega
      have HSTN := Lib.hid hst; clear hst
      have hI2 : n * (m + 1) = I + n := by rw [Nat.mul_succ, HI.out]
      have HI2 := Lib.hid hI2; clear hI2
      clear hown6 hbel6 hgr6 hat6 hB4 hO4 hb4 hBk4 hZ4 hown4 hBv4 hbel4 hBk5 hO5 hZ5 hown5 hBv5 hbel5 hBk3 hZ3 hown3 hBv hbel3
      go_wp2
      go_roundw
      case rel => exact ⟨m + 1, I + n, by omega, HI2.out, by go_num, HSTN.out⟩
      case measure => simp only [intOf]; omega
    · obtain rfl : m = M := by omega
      obtain rfl : I = TL := by have := HMUL.out; omega
      have hi1 : ¬ (I : Int) + (n : Int) ≤ (I : Int) := by omega
      have hs9 := hbel.size
      have HI := Lib.hid hI; clear hI
      have HOWN := Lib.hid hown
      clear hown hBl
      go_wp2_with (first
        | (refine wpList_load_row rfl 85 (.tmp 8) rfl w.heap.size rfl 85 _ (0,0) _ hBk Tryz.underlying85 rfl (by rw [info_book, HCZ.out]) ?_)
        | (refine wpList_store_all rfl 85 (.tmp 12) (.tmp 87) rfl (w.heap.size + 1) cs rfl rfl 85 z hZ (by rw [info_book, HCZ.out]) (by rw [HCZ.out, hz]) HCO.out ?_; intro w5 hB5 hO5))
      refine bodyPost_ret (results_cell3 rfl _ _ (w.heap.size + 1) 85 _ _ rfl hB5 Tryz.underlying85 rfl (by rw [info_book, HCZ.out])) rfl ?_
      refine ⟨⟨u17, rfl, ?_⟩, hO5.below hbel (by omega)⟩
      exact OwnN.more (C := w.heap.size) (OwnN.keepW HOWN.out hO5.keep (fun e => by have := (World.ownsRow.lt HOWN.out _ e).1; omega)) (by omega)
end Go.Proofs.YtfkjkkjimdilcaaGreatDoor
