/- The contract of pin.Four. -/
import Derived.Test.YtnkgglmfoimbhaaGreatDoorPin4
namespace Go.Proofs.YtnkgglmfoimbhaaGreatDoor
open Go Go.RowKit Pr

/-- the digits of a PIN in a block of format 4 -/
def fourS (p : List UInt8) (fill : List Nat) : List UInt8 := textS 4 p ++ List.replicate (14 - p.length) 65 ++ hexL fill
def fourX (p : List UInt8) (fill : List Nat) : List Nat := unhexL (fourS p fill)
def fourA (a : List UInt8) : List Nat := unhexL (acctS a)
def fourN (key : List Nat) (p a : List UInt8) (fill : List Nat) : List Nat := aesN key (xorTo (fourA a) (aesN key (fourX p fill) false) 16) false
theorem fourS_len (p : List UInt8) (fill : List Nat) (hp : p.length ≤ 12) (hf : fill.length = 8) : (fourS p fill).length = 32 := by
  simp [fourS, textS, hexL_len, hf]; omega
theorem fourS_hex (p : List UInt8) (fill : List Nat) (hp : p.length ≤ 12) (hpd : ∀ c ∈ p, isDec c = true) (hfb : ∀ c ∈ fill, c < 256) : ∀ c ∈ fourS p fill, isHex c = true := by
  intro c hc
  unfold fourS at hc
  rcases List.mem_append.1 hc with hc | hc
  · rcases List.mem_append.1 hc with hc | hc
    · exact textS_hex 4 p (by omega) (by omega) hpd c hc
    · rw [(List.mem_replicate.1 hc).2]
      decide
  · exact hexL_hex _ hfb c hc
theorem fourX_len (p : List UInt8) (fill : List Nat) (hp : p.length ≤ 12) (hf : fill.length = 8) : (fourX p fill).length = 16 := by rw [fourX, unhexL_len, fourS_len _ _ hp hf]
theorem fourA_len (a : List UInt8) (h : a.length ≤ 31) : (fourA a).length = 16 := by rw [fourA, unhexL_len, acctS_len _ h]

theorem aesN_byt {key x : List Nat} (hk : Byt key) (hl : x.length = 16) (hx : Byt x) (back : Bool) : Byt (aesN key x back) := by
  unfold aesN
  split
  · exact withG_byt (decTo_ok hl hx (wordsG_byt hk) 10 10).2 (wordsG_byt hk) 0
  · exact encG_byt hx (wordsG_byt hk) 10
theorem xorTo_byt {a b : List Nat} (ha : Byt a) (hb : Byt b) : ∀ n, Byt (xorTo a b n)
  | 0 => ha
  | n + 1 => fun c hc => by
    unfold xorTo at hc
    rcases List.mem_or_eq_of_mem_set hc with h | rfl
    · exact xorTo_byt ha hb n c h
    · exact xor_lt8 (ha.at_ _) (hb.at_ _)

set_option maxHeartbeats 4000000 in
set_option maxRecDepth 100000 in
theorem four_any (g : Nat) (key : List Nat) (hkl : key.length = 16) (hkb : Byt key) (bk : Value) (p a : ByteArray) (hp4 : 4 ≤ p.size) (hp12 : p.size ≤ 12) (hpd : ∀ c ∈ p.data.toList, isDec c = true) (h13 : 13 ≤ a.size) (h19 : a.size ≤ 19) (had : ∀ c ∈ a.data.toList, isDec c = true)
    (hok : bothEr p.data.toList a.data.toList = .ok) (fill : List Nat) (hfl : fill.length = 8) (hfb : ∀ c ∈ fill, c < 256) (w : World) (hC : CipherAt w g 1 key bk) :
    Calls Tryz.prog 23 #[.pointer (some ⟨g, 0, none⟩), .string p, .string a, .agg (byteCells fill)] w fun e w' =>
      (∃ gv, e = .returned (.tuple #[.slice (some ⟨gv, 0, none⟩) 16 16, .nilIface]) ∧ w.heap.size ≤ gv ∧ Blk w' gv 39 (byteCells (fourN key p.data.toList a.data.toList fill))) ∧ Below w.heap.size w w' := by
  have HSZ := Lib.hid (fun W hC => size_any 1 g (by omega) key bk W hC)
  have HB := Lib.hid (fun W => both_any p a (by omega) (by omega) W)
  rw [hok] at HB
  have HT := Lib.hid (fun W => text_any 4 (by omega) p (by omega) W)
  have HCW : ∀ W, Below w.heap.size w W → CipherAt W g 1 key bk := fun W hW => hC.below hW (Nat.le_refl _)
  have HCC := Lib.hid HCW; clear HCW
  have hpl : p.data.toList.length = p.size := by simp
  have hts : (str (textS 4 p.data.toList)).size = 2 + p.size := by rw [str_size]; simp [textS]; omega
  have HR := Lib.hid (fun i hi W => repeat_at ⟨#[65]⟩ (str (List.replicate (14 - p.size) 65)) (14 - p.size) (by
    have : ∀ n ≤ 14, (⟨(Lib.repeatL (⟨#[65]⟩ : ByteArray).data.toList n).toArray⟩ : ByteArray) = str (List.replicate n 65) := by decide +kernel
    exact this _ (by omega)) i hi (by omega) (by decide) W)
  go_enter Tryz.func23, Tryz.ntmps23
  go_wp2_with fail
  refine (HSZ.out _ (HCC.out _ ((Below.refl _ _).alloc (Nat.le_refl _) _))).mono ?_
  rintro e w1 ⟨rfl, rfl⟩
  have f16 : sizeN 1 = 16 := rfl
  rw [f16]
  go_wp2_with fail
  refine (HB.out _).mono ?_
  rintro e w2 ⟨⟨v, rfl, hv⟩, hb2⟩
  obtain rfl : v = _ := hv
  have hF2 : Bs w2 w.heap.size 0 fill := (Bs.of_blk (l := fill) (Blk.new w _ _) (fun j c hj => by rw [Nat.zero_add]; exact hj)).below hb2 (by simp)
  have hbel2 := ((Below.refl w.heap.size w).alloc (Nat.le_refl _) (.cells (byteCells fill) 38)).trans (hb2.mono (by simp))
  have hw2 : w.heap.size < w2.heap.size := by have := hb2.size; simp at this; omega
  clear hb2
  go_wp2_with fail
  refine (HT.out _).mono ?_
  rintro e w3 ⟨rfl, hb3⟩
  have hF3 := hF2.below hb3 hw2
  have hbel3 := hbel2.trans (hb3.mono hbel2.size)
  have hw3 : w.heap.size < w3.heap.size := Nat.lt_of_lt_of_le hw2 hb3.size
  clear hF2 hbel2 hw2 hb3
  have hfin : (str (textS 4 p.data.toList) ++ str (List.replicate (14 - p.size) 65)) ++ str (hexL fill) = str (fourS p.data.toList fill) := by
    rw [str_add, str_add]
    unfold fourS
    rw [hpl]
  have hU : ∀ W, Calls Tryz.prog 40 #[.string (str (fourS p.data.toList fill))] W fun e w' => (∃ v, e = .returned (.tuple #[v, .nilIface]) ∧ Own w' W.heap.size v (fourX p.data.toList fill)) ∧ Below W.heap.size W w' := fun W => by
    have := unhex_ok (str (fourS p.data.toList fill)) (by rw [str_size, fourS_len _ _ (by omega) hfl]; omega) (by rw [str_list]; exact badAt_none (fourS_hex _ _ (by omega) hpd hfb)) (by rw [str_size, fourS_len _ _ (by omega) hfl]) W
    rwa [str_list] at this
  have HU := Lib.hid hU; clear hU
  have HH := Lib.hid (fun W hA => hex_any fill hfb (by omega) (some ⟨w.heap.size, 0, none⟩) 8 W hA)
  rw [hfl] at HH
  have hrs : (str (List.replicate (14 - p.size) 65)).size = 14 - p.size := by rw [str_size, List.length_replicate]
  have hhs : (str (hexL fill)).size = 16 := by rw [str_size, hexL_len, hfl]
  have e1 : IntKind.i64.wrap (16 - (2 + (p.size : Int))) = ((14 - p.size : Nat) : Int) := by rw [IntWalk.i64_in _ (by omega)]; omega
  have hs1 : (str (textS 4 p.data.toList) ++ str (List.replicate (14 - p.size) 65)).size = 16 := by rw [ByteArray.size_append, hts, hrs]; omega
  have b1 : ¬ 9223372036854775807 < (str (textS 4 p.data.toList)).size + (str (List.replicate (14 - p.size) 65)).size := by omega
  have b2 : ¬ 9223372036854775807 < (str (textS 4 p.data.toList) ++ str (List.replicate (14 - p.size) 65)).size + (str (hexL fill)).size := by omega
  have b3 : ¬ 9223372036854775807 < 2 + p.size + (14 - p.size) := by omega
  rw [show (⟨(hexL fill).toArray⟩ : ByteArray) = str (hexL fill) from rfl] at HH
  generalize str (textS 4 p.data.toList) = TX at *
  generalize str (List.replicate (14 - p.size) 65) = RA at *
  generalize str (hexL fill) = HX at *
  have HFIN := Lib.hid hfin; clear hfin
  go_wp2_with fail
  refine wp_region_tree (.q 0 (.q 1 (.q 2 (.q 3 (.q 6 (.e [4] fun _ => .q 5 (.e [7] fun _ => .q 8 (.e [9] fun _ => .q 10 (.q 11 (.q 12 (.q 13 (.q 14 (.done)))))))))))))
    (fun W => Below w.heap.size w W) rfl (by kernel_rfl) (fun _ _ d _ _ h => by cases d <;> exact h) ?_
  change wpT _ _ _ _ _ _ w3.drew
  have hS : Below w.heap.size w w3.drew := below_drewN hbel3 1
  have hF : Bs w3.drew w.heap.size 0 fill := hF3
  have hwS : w.heap.size < w3.drew.heap.size := hw3
  clear hF3 hbel3 hw3
  generalize w3.drew = w4 at *
  iterate 5 (refine t_q rfl rfl hS _ (fun W hW => by (go_simp; rfl)) ?_; go_simp)
  refine t_e rfl rfl fun K hK => ?_
  go_simp
  refine (HR.out _ rfl _).mono ?_
  rintro e w5 ⟨rfl, hb5⟩
  have hS5 := hS.trans (hb5.mono hS.size)
  have hF5 := hF.below hb5 hwS
  have hw5 : w.heap.size < w5.heap.size := Nat.lt_of_lt_of_le hwS hb5.size
  refine hK _ _ hS5 ?_
  clear hK K hb5 hS hF hwS
  go_simp
  refine t_q rfl rfl hS5 _ (fun W hW => by (go_simp; rfl)) ?_
  go_simp
  refine t_e rfl rfl fun K hK => ?_
  go_simp
  refine (HH.out _ (fun _ => ⟨_, _, rfl, hF5⟩)).mono ?_
  rintro e w6 ⟨rfl, hb6⟩
  have hS6 := hS5.trans (hb6.mono hS5.size)
  refine hK _ _ hS6 ?_
  clear hK K hb6 hS5 hF5 hw5
  go_simp
  refine t_q rfl rfl hS6 _ (fun W hW => by (go_simp; rfl)) ?_
  go_simp
  refine t_e rfl rfl fun K hK => ?_
  go_simp
  rw [HFIN.out]
  refine (HU.out _).mono ?_
  rintro e w7 ⟨⟨v7, rfl, hv7⟩, hb7⟩
  have hS7 := hS6.trans (hb7.mono hS6.size)
  have hv7' := hv7.more hS6.size
  have hxl := fourX_len p.data.toList fill (by omega) hfl
  obtain ⟨gx, cx, rfl, hgx, hcx, hgxl, hBx⟩ := hv7'.form (by intro h; rw [h] at hxl; cases hxl)
  rw [hxl] at hcx ⊢
  refine hK _ _ hS7 ?_
  clear hK K hb7 hS6 hv7 hv7'
  go_simp
  iterate 5 (refine t_q rfl rfl hS7 _ (fun W hW => by (go_simp; rfl)) ?_; go_simp)
  refine t_done ?_
  go_wp2_with fail
  have hxb : Byt (fourX p.data.toList fill) := unhexL_lt (fourS_hex _ _ (by omega) hpd hfb)
  refine (doA_any g key hkl hkb bk _ hxl hxb false (some ⟨gx, 0, none⟩) cx w7 (HCC.out _ hS7) (fun _ => ⟨_, _, rfl, hBx⟩)).mono ?_
  rintro e w8 ⟨⟨gv, rfl, hgv, hBv⟩, hb8⟩
  have hS8 := hS7.trans (hb8.mono hS7.size)
  have hV1 : Bs w8 gv 0 (aesN key (fourX p.data.toList fill) false) := Bs.of_blk hBv (fun j c hj => by rw [Nat.zero_add]; exact hj)
  have hVl := aesN_len key (fourX p.data.toList fill) false
  have hVb := aesN_byt hkb hxl hxb (x := fourX p.data.toList fill) false
  have hgvl := hBv.lt
  clear hBv hb8 hS7 hBx
  go_wp2_with fail
  refine (account4_any a h13 h19 had w8).mono ?_
  rintro e w9 ⟨⟨va, rfl, hva⟩, hb9⟩
  have hS9 := hS8.trans (hb9.mono hS8.size)
  have hV2 := hV1.below hb9 hgvl
  have hal := fourA_len a.data.toList (by simp; omega)
  have hab : Byt (fourA a.data.toList) := unhexL_lt (acctS_hex _ (by simp; omega) had)
  obtain ⟨ga, ca, rfl, hga, hca, hgal, hBa⟩ := Own.form (l := fourA a.data.toList) hva (by intro h; rw [h] at hal; cases hal)
  rw [hal] at hca ⊢
  clear hva hb9 hV1 hS8
  go_wp2_with fail
  refine (modeXor_any (fourA a.data.toList) (aesN key (fourX p.data.toList fill) false) 16 hal hVl (by omega) hab hVb _ _ _ _ w9 (fun _ => ⟨_, _, rfl, hBa⟩) (fun _ => ⟨_, _, rfl, hV2⟩)).mono ?_
  rintro e w10 ⟨⟨vy, rfl, hvy⟩, hb10⟩
  have hS10 := hS9.trans (hb10.mono hS9.size)
  have hyl : (xorTo (fourA a.data.toList) (aesN key (fourX p.data.toList fill) false) 16).length = 16 := by rw [xorTo_len, hal]
  obtain ⟨gy, cy, rfl, hgy, hcy, hgyl, hBy⟩ := hvy.form (by intro h; rw [h] at hyl; cases hyl)
  rw [hyl] at hcy ⊢
  clear hvy hb10 hS9
  go_wp2_with fail
  refine (doA_any g key hkl hkb bk _ hyl (xorTo_byt hab hVb 16) false (some ⟨gy, 0, none⟩) cy w10 (HCC.out _ hS10) (fun _ => ⟨_, _, rfl, hBy⟩)).mono ?_
  rintro e w11 ⟨⟨gr, rfl, hgr, hBr⟩, hb11⟩
  go_wp2
  go_ret2
  exact ⟨⟨_, rfl, Nat.le_trans hS10.size hgr, hBr⟩, hS10.trans (hb11.mono hS10.size)⟩
end Go.Proofs.YtnkgglmfoimbhaaGreatDoor
