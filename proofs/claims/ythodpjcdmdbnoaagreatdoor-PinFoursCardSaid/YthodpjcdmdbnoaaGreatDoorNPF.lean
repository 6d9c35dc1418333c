/- The contract of pin.account. The contract of pin.Four, over whatever cipher of blocks of 16 bytes. lockboxref14.account, and the digits of a block of format 4. -/
import Derived.Test.YthodpjcdmdbnoaaGreatDoorNPB
import Derived.Test.YthodpjcdmdbnoaaGreatDoorNAesXY
import Derived.Test.YthodpjcdmdbnoaaGreatDoorNPE
/- The contract of pin.account. -/
namespace Go.Proofs.YthodpjcdmdbnoaaGreatDoor
open Go Go.RowKit Pr

/-- the account of a block of format 4, in digits -/
def acctS (a : List UInt8) : List UInt8 := hexd (a.length - 12) :: a ++ List.replicate (31 - a.length) 48
theorem acctS_len (a : List UInt8) (h : a.length ≤ 31) : (acctS a).length = 32 := by simp [acctS]; omega
theorem acctS_hex (a : List UInt8) (h : a.length ≤ 19) (ha : ∀ c ∈ a, isDec c = true) : ∀ c ∈ acctS a, isHex c = true := by
 intro c hc
 unfold acctS at hc
 rcases List.mem_append.1 hc with hc | hc
 ·
  rcases List.mem_cons.1 hc with rfl | hc
  ·
   have : ∀ n < 8, isHex (hexd n) = true := by decide
   exact this _ (by omega)
  ·
   exact isHex_of_dec (ha c hc)
 ·
  rw [(List.mem_replicate.1 hc).2]
  decide

set_option maxHeartbeats 1000000 in
theorem account4_any (a : ByteArray) (h13 : 13 ≤ a.size) (h19 : a.size ≤ 19) (ha : ∀ c ∈ a.data.toList, isDec c = true) (w : World) :
    Calls Tryz.prog 31 #[.string a] w fun e w' => (∃ v, e = .returned (.tuple #[v, .nilIface]) ∧ Own w' w.heap.size v (unhexL (acctS a.data.toList))) ∧ Below w.heap.size w w' := by
 have hal : a.data.toList.length = a.size := by simp
 have HI := Lib.hid (fun W => itoa_one (a.size - 12) (by omega) W)
 have HR := Lib.hid (fun i hi W => repeat_at ⟨#[48]⟩ (str (List.replicate (31 - a.size) 48)) (31 - a.size) (by
  have : ∀ n ≤ 31, (⟨(Lib.repeatL (⟨#[48]⟩ : ByteArray).data.toList n).toArray⟩ : ByteArray) = str (List.replicate n 48) := by decide +kernel
  exact this _ (by omega)) i hi (by omega) (by decide) W)
 have hU : ∀ W, Calls Tryz.prog 27 #[.string (str (acctS a.data.toList))] W fun e w' => (∃ v, e = .returned (.tuple #[v, .nilIface]) ∧ Own w' W.heap.size v (unhexL (acctS a.data.toList))) ∧ Below W.heap.size W w' := fun W => by
  have := unhex_ok (str (acctS a.data.toList)) (by rw [str_size, acctS_len _ (by omega)]; omega) (by rw [str_list]; exact badAt_none (acctS_hex _ (by omega) ha)) (by rw [str_size, acctS_len _ (by omega)]) W
  rwa [str_list] at this
 have HU := Lib.hid hU; clear hU
 have hfin : (str [hexd (a.size - 12)] ++ a) ++ str (List.replicate (31 - a.size) 48) = str (acctS a.data.toList) := by
  conv => lhs; rw [← str_of a]
  rw [str_add, str_add]
  unfold acctS
  rw [hal, str_of]
  rfl
 have HFIN := Lib.hid hfin; clear hfin
 have hs1 : (str [hexd (a.size - 12)]).size = 1 := rfl
 have HS1 := Lib.hid hs1
 have e1 : IntKind.i64.wrap ((a.size : Int) - 12) = ((a.size - 12 : Nat) : Int) := by rw [IntWalk.i64_in _ (by omega)]; omega
 generalize str [hexd (a.size - 12)] = X at *
 go_enter Tryz.func31, Tryz.ntmps31
 go_wp2_with fail
 refine (HI.out _).mono ?_
 rintro e w1 ⟨rfl, rfl⟩
 have hxs : (X ++ a).size = 1 + a.size := by rw [ByteArray.size_append, hs1]
 have e2 : IntKind.i64.wrap (32 - (1 + (a.size : Int))) = ((31 - a.size : Nat) : Int) := by rw [IntWalk.i64_in _ (by omega)]; omega
 go_wp2_with fail
 refine (HR.out _ rfl _).mono ?_
 rintro e w2 ⟨rfl, hb2⟩
 have hrs : (str (List.replicate (31 - a.size) 48)).size = 31 - a.size := by rw [str_size, List.length_replicate]
 have hFIN := HFIN.out
 have hxx : ((X ++ a) ++ str (List.replicate (31 - a.size) 48)).size = 1 + a.size + (31 - a.size) := by rw [ByteArray.size_append, hxs, hrs]
 generalize str (List.replicate (31 - a.size) 48) = R at *
 have HF2 := Lib.hid hFIN; clear hFIN HFIN
 have b1 : ¬ 9223372036854775807 < (X ++ a).size + R.size := by omega
 go_wp2_with fail
 rw [HF2.out]
 refine (HU.out _).mono ?_
 rintro e w3 ⟨⟨v, rfl, hv⟩, hb3⟩
 go_wp2
 go_ret2
 exact ⟨⟨_, rfl, hv.more hb2.size⟩, hb2.trans (hb3.mono hb2.size)⟩
end Go.Proofs.YthodpjcdmdbnoaaGreatDoor

/- The contract of pin.Four, over whatever cipher of blocks of 16 bytes. -/
namespace Go.Proofs.YthodpjcdmdbnoaaGreatDoor
open Go Go.RowKit Pr

/-- the digits of a PIN in a block of format 4 -/
def fourS (p : List UInt8) (fill : List Nat) : List UInt8 := textS 4 p ++ List.replicate (14 - p.length) 65 ++ hexL fill
def fourX (p : List UInt8) (fill : List Nat) : List Nat := unhexL (fourS p fill)
def fourA (a : List UInt8) : List Nat := unhexL (acctS a)
theorem fourS_len (p : List UInt8) (fill : List Nat) (hp : p.length ≤ 12) (hf : fill.length = 8) : (fourS p fill).length = 32 := by
 simp [fourS, textS, hexL_len, hf]; omega
theorem fourS_hex (p : List UInt8) (fill : List Nat) (hp : p.length ≤ 12) (hpd : ∀ c ∈ p, isDec c = true) (hfb : ∀ c ∈ fill, c < 256) : ∀ c ∈ fourS p fill, isHex c = true := by
 intro c hc
 unfold fourS at hc
 rcases List.mem_append.1 hc with hc | hc
 ·
  rcases List.mem_append.1 hc with hc | hc
  ·
   exact textS_hex 4 p (by omega) (by omega) hpd c hc
  ·
   rw [(List.mem_replicate.1 hc).2]
   decide
 ·
  exact hexL_hex _ hfb c hc
theorem fourX_len (p : List UInt8) (fill : List Nat) (hp : p.length ≤ 12) (hf : fill.length = 8) : (fourX p fill).length = 16 := by rw [fourX, unhexL_len, fourS_len _ _ hp hf]
theorem fourA_len (a : List UInt8) (h : a.length ≤ 31) : (fourA a).length = 16 := by rw [fourA, unhexL_len, acctS_len _ h]

theorem aesN_byt {key x : List Nat} (hk : Byt key) (hl : x.length = 16) (hx : Byt x) (back : Bool) : Byt (aesN key x back) := by
 unfold aesN
 split
 ·
  exact withG_byt (decTo_ok hl hx (wordsG_byt hk) _ _).2 (wordsG_byt hk) 0
 ·
  exact encG_byt hx (wordsG_byt hk) _
theorem xorTo_byt {a b : List Nat} (ha : Byt a) (hb : Byt b) : ∀ n, Byt (xorTo a b n)
 | 0 => ha
 | n + 1 => fun c hc => by
  unfold xorTo at hc
  rcases List.mem_or_eq_of_mem_set hc with h | rfl
  ·
   exact xorTo_byt ha hb n c h
  ·
   exact xor_lt8 (ha.at_ _) (hb.at_ _)

/-- one block by a cipher: from the state S, what F answers; S' holds then, or T where there is no answer -/
def DoStep (g : Nat) (back : Bool) (S : World → Prop) (F : List Nat → Option (List Nat)) (S' : List Nat → World → Prop) (T : World → Prop) : Prop := ∀ (W : World) (A : Option Addr) (c : Nat) (x : List Nat), x.length = 16 → Byt x → S W → At W A x →
 Calls Tryz.prog 30 #[.pointer (some ⟨g, 0, none⟩), .slice A 16 c, .bool back] W fun e w' =>
  match F x with
  | some y => (∃ gv, e = .returned (.tuple #[.slice (some ⟨gv, 0, none⟩) 16 16, .nilIface]) ∧ W.heap.size ≤ gv ∧ Blk w' gv 113 (byteCells y)) ∧ S' x w'
  | none => (∃ v k, e = .returned (.tuple #[.slice none 0 0, v]) ∧ ErIs w' W.heap.size v (.fa k 13)) ∧ T w'
/-- a state of a cipher: what is new beside it leaves it, and no memory goes -/
structure StOk (w : World) (S : World → Prop) : Prop where
 more : ∀ A B : World, S A → Below A.heap.size A B → S B
 size : ∀ A, S A → w.heap.size ≤ A.heap.size
def Good16 (F : List Nat → Option (List Nat)) : Prop := ∀ x y, x.length = 16 → Byt x → F x = some y → y.length = 16 ∧ Byt y
/-- a block of format 4, of whatever cipher -/
def fourR (F0 : List Nat → Option (List Nat)) (F1 : List Nat → List Nat → Option (List Nat)) (p a : List UInt8) (fill : List Nat) : Option (List Nat) :=
 (F0 (fourX p fill)).bind fun y => F1 (fourX p fill) (xorTo (fourA a) y 16)

set_option maxHeartbeats 4000000 in
set_option maxRecDepth 100000 in
theorem fourG_any (g : Nat) (S0 : World → Prop) (S1 : List Nat → World → Prop) (T : World → Prop) (F0 : List Nat → Option (List Nat)) (F1 : List Nat → List Nat → Option (List Nat)) (p a : ByteArray) (hp4 : 4 ≤ p.size) (hp12 : p.size ≤ 12) (hpd : ∀ c ∈ p.data.toList, isDec c = true) (h13 : 13 ≤ a.size) (h19 : a.size ≤ 19) (had : ∀ c ∈ a.data.toList, isDec c = true)
    (hok : bothEr p.data.toList a.data.toList = .ok) (fill : List Nat) (hfl : fill.length = 8) (hfb : ∀ c ∈ fill, c < 256) (w : World) (hS0 : S0 w) (k0 : StOk w S0) (k1 : ∀ x, StOk w (S1 x)) (kT : StOk w T) (g0 : Good16 F0) (g1 : ∀ x, x.length = 16 → Byt x → Good16 (F1 x))
    (hsz : ∀ W, S0 W → Calls Tryz.prog 24 #[.pointer (some ⟨g, 0, none⟩)] W fun e w' => e = .returned (.int .i64 16) ∧ W = w')
    (d0 : DoStep g false S0 F0 S1 T) (d1 : ∀ x, DoStep g false (S1 x) (F1 x) (fun _ => T) T) :
    Calls Tryz.prog 9 #[.pointer (some ⟨g, 0, none⟩), .string p, .string a, .agg (byteCells fill)] w fun e w' =>
     (match fourR F0 F1 p.data.toList a.data.toList fill with
     | some z => ∃ gv, e = .returned (.tuple #[.slice (some ⟨gv, 0, none⟩) 16 16, .nilIface]) ∧ w.heap.size ≤ gv ∧ Blk w' gv 113 (byteCells z)
     | none => ∃ v k, e = .returned (.tuple #[.slice none 0 0, v]) ∧ ErIs w' w.heap.size v (.fa k 13)) ∧ T w' := by
 have HSZ := Lib.hid hsz; clear hsz
 have HB := Lib.hid (fun W => both_any p a (by omega) (by omega) W)
 rw [hok] at HB
 have HT := Lib.hid (fun W => text_any 4 (by omega) p (by omega) W)
 have HCC := Lib.hid (fun W (hW : Below w.heap.size w W) => k0.more w W hS0 hW)
 have HS0 := Lib.hid hS0; clear hS0
 have HD0 := Lib.hid d0; clear d0
 have HD1 := Lib.hid d1; clear d1
 have K1 := Lib.hid k1; clear k1
 have KT := Lib.hid kT; clear kT
 have G0 := Lib.hid g0; clear g0
 have G1 := Lib.hid g1; clear g1
 obtain ⟨res, hres⟩ : ∃ r, fourR F0 F1 p.data.toList a.data.toList fill = r := ⟨_, rfl⟩
 rw [hres]
 have HRES := Lib.hid hres; clear hres
 have hpl : p.data.toList.length = p.size := by simp
 have hts : (str (textS 4 p.data.toList)).size = 2 + p.size := by rw [str_size]; simp [textS]; omega
 have HR := Lib.hid (fun i hi W => repeat_at ⟨#[65]⟩ (str (List.replicate (14 - p.size) 65)) (14 - p.size) (by
  have : ∀ n ≤ 14, (⟨(Lib.repeatL (⟨#[65]⟩ : ByteArray).data.toList n).toArray⟩ : ByteArray) = str (List.replicate n 65) := by decide +kernel
  exact this _ (by omega)) i hi (by omega) (by decide) W)
 go_enter Tryz.func9, Tryz.ntmps9
 go_wp2_with fail
 refine (HSZ.out _ (HCC.out _ ((Below.refl _ _).alloc (Nat.le_refl _) _))).mono ?_
 rintro e w1 ⟨rfl, rfl⟩
 go_wp2_with fail
 refine (HB.out _).mono ?_
 rintro e w2 ⟨⟨v, rfl, hv⟩, hb2⟩
 obtain rfl : v = _ := hv
 have hF2 : Bs w2 w.heap.size 0 fill := (Bs.of_blk (l := fill) (Blk.new w _ _) (fun j c hj => by rw [Nat.zero_add]; exact hj)).below hb2 (by simp)
 have hbel2 := ((Below.refl w.heap.size w).alloc (Nat.le_refl _) (.cells (byteCells fill) 23)).trans (hb2.mono (by simp))
 have hw2 : w.heap.size < w2.heap.size := by have := hb2.size; simp at this; omega
 clear hb2
 go_wp2_with fail
 refine (HT.out _).mono ?_
 rintro e w3 ⟨rfl, hb3⟩
 have hF3 := hF2.below hb3 hw2
 have hbel3 := hbel2.trans (hb3.mono hbel2.size)
 have hw3 : w.heap.size < w3.heap.size := Nat.lt_of_lt_of_le hw2 hb3.size
 clear hF2 hbel2 hw2 hb3
 have hfin : (str (textS 4 p.data.toList) ++ str (List.replicate (14 - p.size) 65)) ++ str (hexL fill) = str (fourS p.data.toList fill) := by
  rw [str_add, str_add]
  unfold fourS
  rw [hpl]
 have hU : ∀ W, Calls Tryz.prog 27 #[.string (str (fourS p.data.toList fill))] W fun e w' => (∃ v, e = .returned (.tuple #[v, .nilIface]) ∧ Own w' W.heap.size v (fourX p.data.toList fill)) ∧ Below W.heap.size W w' := fun W => by
  have := unhex_ok (str (fourS p.data.toList fill)) (by rw [str_size, fourS_len _ _ (by omega) hfl]; omega) (by rw [str_list]; exact badAt_none (fourS_hex _ _ (by omega) hpd hfb)) (by rw [str_size, fourS_len _ _ (by omega) hfl]) W
  rwa [str_list] at this
 have HU := Lib.hid hU; clear hU
 have HH := Lib.hid (fun W hA => hex_any fill hfb (by omega) (some ⟨w.heap.size, 0, none⟩) 8 W hA)
 rw [hfl] at HH
 have hrs : (str (List.replicate (14 - p.size) 65)).size = 14 - p.size := by rw [str_size, List.length_replicate]
 have hhs : (str (hexL fill)).size = 16 := by rw [str_size, hexL_len, hfl]
 have e1 : IntKind.i64.wrap (16 - (2 + (p.size : Int))) = ((14 - p.size : Nat) : Int) := by rw [IntWalk.i64_in _ (by omega)]; omega
 have hs1 : (str (textS 4 p.data.toList) ++ str (List.replicate (14 - p.size) 65)).size = 16 := by rw [ByteArray.size_append, hts, hrs]; omega
 have b1 : ¬ 9223372036854775807 < (str (textS 4 p.data.toList)).size + (str (List.replicate (14 - p.size) 65)).size := by omega
 have b2 : ¬ 9223372036854775807 < (str (textS 4 p.data.toList) ++ str (List.replicate (14 - p.size) 65)).size + (str (hexL fill)).size := by omega
 have b3 : ¬ 9223372036854775807 < 2 + p.size + (14 - p.size) := by omega
 rw [show (⟨(hexL fill).toArray⟩ : ByteArray) = str (hexL fill) from rfl] at HH
 generalize str (textS 4 p.data.toList) = TX at *
 generalize str (List.replicate (14 - p.size) 65) = RA at *
 generalize str (hexL fill) = HX at *
 have HFIN := Lib.hid hfin; clear hfin
 go_wp2_with fail
 refine wp_region_tree (.q 0 (.q 1 (.q 2 (.q 3 (.q 6 (.e [4] fun _ => .q 5 (.e [7] fun _ => .q 8 (.e [9] fun _ => .q 10 (.q 11 (.q 12 (.q 13 (.q 14 (.done)))))))))))))
  (fun W => Below w.heap.size w W) rfl (by kernel_rfl) (fun _ _ d _ _ h => by cases d <;> exact h) ?_
 change wpT _ _ _ _ _ _ w3.drew
 have hS : Below w.heap.size w w3.drew := below_drewN hbel3 1
 have hF : Bs w3.drew w.heap.size 0 fill := hF3
 have hwS : w.heap.size < w3.drew.heap.size := hw3
 clear hF3 hbel3 hw3
 generalize w3.drew = w4 at *
 iterate 5 (refine t_q rfl rfl hS _ (fun W hW => by (go_simp; rfl)) ?_; go_simp)
 refine t_e rfl rfl fun K hK => ?_
 go_simp
 refine (HR.out _ rfl _).mono ?_
 rintro e w5 ⟨rfl, hb5⟩
 have hS5 := hS.trans (hb5.mono hS.size)
 have hF5 := hF.below hb5 hwS
 have hw5 : w.heap.size < w5.heap.size := Nat.lt_of_lt_of_le hwS hb5.size
 refine hK _ _ hS5 ?_
 clear hK K hb5 hS hF hwS
 go_simp
 refine t_q rfl rfl hS5 _ (fun W hW => by (go_simp; rfl)) ?_
 go_simp
 refine t_e rfl rfl fun K hK => ?_
 go_simp
 refine (HH.out _ (fun _ => ⟨_, _, rfl, hF5⟩)).mono ?_
 rintro e w6 ⟨rfl, hb6⟩
 have hS6 := hS5.trans (hb6.mono hS5.size)
 refine hK _ _ hS6 ?_
 clear hK K hb6 hS5 hF5 hw5
 go_simp
 refine t_q rfl rfl hS6 _ (fun W hW => by (go_simp; rfl)) ?_
 go_simp
 refine t_e rfl rfl fun K hK => ?_
 go_simp
 rw [HFIN.out]
 refine (HU.out _).mono ?_
 rintro e w7 ⟨⟨v7, rfl, hv7⟩, hb7⟩
 have hS7 := hS6.trans (hb7.mono hS6.size)
 have hv7' := hv7.more hS6.size
 have hxl := fourX_len p.data.toList fill (by omega) hfl
 obtain ⟨gx, cx, rfl, hgx, hcx, hgxl, hBx⟩ := hv7'.form (by intro h; rw [h] at hxl; cases hxl)
 rw [hxl] at hcx ⊢
 refine hK _ _ hS7 ?_
 clear hK K hb7 hS6 hv7 hv7'
 go_simp
 iterate 5 (refine t_q rfl rfl hS7 _ (fun W hW => by (go_simp; rfl)) ?_; go_simp)
 refine t_done ?_
 go_wp2_with fail
 have hxb : Byt (fourX p.data.toList fill) := unhexL_lt (fourS_hex _ _ (by omega) hpd hfb)
 refine (HD0.out w7 (some ⟨gx, 0, none⟩) cx (fourX p.data.toList fill) hxl hxb (HCC.out _ hS7) (fun _ => ⟨_, _, rfl, hBx⟩)).mono ?_
 rintro e w8 h8
 obtain ⟨r0, hr0⟩ : ∃ r, F0 (fourX p.data.toList fill) = r := ⟨_, rfl⟩
 rw [hr0] at h8
 have hrs : r0.bind (fun y => F1 (fourX p.data.toList fill) (xorTo (fourA a.data.toList) y 16)) = res := by
  have := HRES.out
  unfold fourR at this
  rwa [hr0] at this
 have HR0 := Lib.hid hr0; clear hr0
 cases r0 with
 | none =>
  obtain ⟨⟨v, k, rfl, gE, rfl, hgE, hFE⟩, hT⟩ := h8
  obtain rfl : none = res := hrs
  go_wp2
  go_ret2
  exact ⟨⟨_, rfl, _, gE, rfl, Nat.le_trans hS7.size hgE, hFE⟩, hT⟩
 | some y =>
  obtain ⟨⟨gv, rfl, hgv, hBv⟩, hS8⟩ := h8
  have HRS := Lib.hid (show F1 (fourX p.data.toList fill) (xorTo (fourA a.data.toList) y 16) = res from hrs); clear hrs
  obtain ⟨hVl, hVb⟩ := G0.out _ _ hxl hxb HR0.out
  have hV1 : Bs w8 gv 0 y := Bs.of_blk hBv (fun j c hj => by rw [Nat.zero_add]; exact hj)
  have hgvl := hBv.lt
  have HS8 := Lib.hid hS8; clear hS8
  clear hBv hBx
  go_wp2_with fail
  refine (account4_any a h13 h19 had w8).mono ?_
  rintro e w9 ⟨⟨va, rfl, hva⟩, hb9⟩
  have HS9 := Lib.hid ((K1.out _).more _ _ HS8.out hb9)
  have hV2 := hV1.below hb9 hgvl
  have hal := fourA_len a.data.toList (by simp; omega)
  have hab : Byt (fourA a.data.toList) := unhexL_lt (acctS_hex _ (by simp; omega) had)
  obtain ⟨ga, ca, rfl, hga, hca, hgal, hBa⟩ := Own.form (l := fourA a.data.toList) hva (by intro h; rw [h] at hal; cases hal)
  rw [hal] at hca ⊢
  clear hva hb9 hV1 HS8
  go_wp2_with fail
  refine (modeXor_any (fourA a.data.toList) y 16 hal hVl (by omega) hab hVb _ _ _ _ w9 (fun _ => ⟨_, _, rfl, hBa⟩) (fun _ => ⟨_, _, rfl, hV2⟩)).mono ?_
  rintro e w10 ⟨⟨vy, rfl, hvy⟩, hb10⟩
  have HS10 := Lib.hid ((K1.out _).more _ _ HS9.out hb10)
  have hyl : (xorTo (fourA a.data.toList) y 16).length = 16 := by rw [xorTo_len, hal]
  have hyb := xorTo_byt hab hVb 16
  generalize xorTo (fourA a.data.toList) y 16 = q at *
  obtain ⟨gy, cy, rfl, hgy, hcy, hgyl, hBy⟩ := hvy.form (by intro h; rw [h] at hyl; cases hyl)
  rw [hyl] at hcy ⊢
  clear hvy hb10 HS9
  have hs10 := (K1.out _).size _ HS10.out
  go_wp2_with fail
  refine (HD1.out (fourX p.data.toList fill) w10 (some ⟨gy, 0, none⟩) cy q hyl hyb HS10.out (fun _ => ⟨_, _, rfl, hBy⟩)).mono ?_
  rintro e w11 h11
  rw [HRS.out] at h11
  clear HRS HRES
  cases res with
  | none =>
   obtain ⟨⟨v, k, rfl, gE, rfl, hgE, hFE⟩, hT⟩ := h11
   go_wp2
   go_ret2
   exact ⟨⟨_, rfl, _, gE, rfl, Nat.le_trans hs10 hgE, hFE⟩, hT⟩
  | some z =>
   obtain ⟨⟨gr, rfl, hgr, hBr⟩, hT⟩ := h11
   go_wp2
   go_ret2
   exact ⟨⟨_, rfl, Nat.le_trans hs10 hgr, hBr⟩, hT⟩
end Go.Proofs.YthodpjcdmdbnoaaGreatDoor

/- lockboxref14.account, and the digits of a block of format 4. -/
namespace Go.Proofs.YthodpjcdmdbnoaaGreatDoor
open Go Go.RowKit Pr

def acctT (a : List UInt8) : List Nat := a.map hexv ++ List.replicate (31 - a.length) 0
def acctN (a : List UInt8) : List Nat := (a.length - 12) :: acctT a
theorem fourA_pack (a : List UInt8) (h : a.length ≤ 19) : fourA a = packN (acctN a) := by
 unfold fourA
 rw [unhexL_pack]
 congr 1
 unfold acctS acctN acctT
 simp only [List.map_append, List.map_cons, List.map_replicate, hexv_hexd _ (show a.length - 12 < 16 by omega), List.cons_append]
 rfl
theorem fourX_pack (p : List UInt8) (fill : List Nat) (hp : p.length ≤ 12) (hfb : ∀ c ∈ fill, c < 256) : fourX p fill = packN ((startD 4 p ++ List.replicate (14 - p.length) 10) ++ nibN fill) := by
 unfold fourX
 rw [unhexL_pack]
 congr 1
 unfold fourS textS startD
 rw [List.map_append, hexL_nib, map_hexv_hexd _ (nibN_lt _ hfb)]
 simp only [List.map_append, List.map_cons, List.map_replicate, hexv_hexd 4 (by omega), hexv_hexd _ (show p.length < 16 by omega), List.map_nil]
 rfl
theorem acctN_len (a : List UInt8) (h : a.length ≤ 31) : (acctN a).length = 32 := by
 simp [acctN, acctT]; omega
theorem acctN_lt (a : List UInt8) (h : a.length ≤ 19) (had : ∀ c ∈ a, isDec c = true) : ∀ c ∈ acctN a, c < 16 := by
 intro c hc
 unfold acctN acctT at hc
 rcases List.mem_cons.1 hc with rfl | hc
 ·
  omega
 ·
  rcases List.mem_append.1 hc with hc | hc
  ·
   obtain ⟨x, hx, rfl⟩ := List.mem_map.1 hc
   exact hexv_lt16 x (had x hx)
  ·
   rw [(List.mem_replicate.1 hc).2]; omega

set_option maxHeartbeats 4000000 in
set_option maxRecDepth 100000 in
theorem refAcct_any (a : ByteArray) (h13 : 13 ≤ a.size) (h19 : a.size ≤ 19) (had : ∀ c ∈ a.data.toList, isDec c = true) (w : World) :
    Calls Tryz.prog 40 #[.string a] w fun e w' => (∃ v, e = .returned v ∧ Own w' w.heap.size v (fourA a.data.toList)) ∧ Below w.heap.size w w' := by
 have hal : a.data.toList.length = a.size := by simp
 rw [fourA_pack _ (by omega)]
 have hnl := acctN_len a.data.toList (by omega)
 have HP := Lib.hid (fun A cp W hA => packR_any (acctN a.data.toList) 32 16 hnl rfl (by omega) (acctN_lt _ (by omega) had) A cp W hA)
 generalize packN (acctN a.data.toList) = R at *
 have hTl : (acctT a.data.toList).length = 31 := by simp [acctT]; omega
 have hv : ∀ k (h : k < a.size) W, Calls Tryz.prog 65 #[.int .u8 (a[k].toNat : Int)] W fun e w' => e = .returned (.int .i64 ((acctT a.data.toList).getD k 0 : Nat)) ∧ W = w' := fun k h W => by
  have := value_any a[k] _ rfl W
  have hm : a[k] ∈ a.data.toList := List.getElem_mem (l := a.data.toList) (by rw [hal]; exact h)
  rw [valR_hexv a[k] (isHex_of_dec (had _ hm))] at this
  have e : (acctT a.data.toList).getD k 0 = hexv a[k] := by
   unfold acctT
   rw [List.getD_eq_getElem?_getD, List.getElem?_append_left (by rw [List.length_map]; omega), List.getElem?_map, List.getElem?_eq_getElem (by omega), get_list a k h]
   rfl
  rw [e]
  exact this
 have hz : ∀ k, a.size ≤ k → k < 31 → (acctT a.data.toList).getD k 0 = 0 := fun k h1 h2 => by
  unfold acctT
  rw [List.getD_eq_getElem?_getD, List.getElem?_append_right (by rw [List.length_map]; omega), List.length_map, List.getElem?_replicate]
  split <;> rfl
 have hdef : acctN a.data.toList = [a.size - 12] ++ acctT a.data.toList := by unfold acctN; rw [hal]; rfl
 rw [hdef] at HP
 have HNL := Lib.hid (show ([a.size - 12] ++ acctT a.data.toList).length = 32 by rw [← hdef]; exact hnl)
 clear hnl hdef
 generalize acctT a.data.toList = T at *
 have hst : ∀ k, k < 31 → T.take (k + 1) = T.take k ++ [T.getD k 0] := fun k hk => by
  rw [List.take_succ_eq_append_getElem (by omega), List.getD_eq_getElem?_getD, List.getElem?_eq_getElem (by omega)]
  rfl
 have HST := Lib.hid hst; clear hst
 have HV := Lib.hid hv; clear hv
 have HZ := Lib.hid hz; clear hz
 have HTL := Lib.hid hTl; clear hTl
 clear had hal
 have e1 : IntKind.i64.wrap ((a.size : Int) - 12) = ((a.size - 12 : Nat) : Int) := by rw [IntWalk.i64_in _ (by omega)]; omega
 go_enter Tryz.func40, Tryz.ntmps40
 go_wp2
 go_loopw [3, 4] (fun v i wr => ∃ k : Nat, k ≤ 31 ∧ i = .int .i64 k ∧ OwnN 3 .i64 wr w.heap.size v ([a.size - 12] ++ T.take k) ∧ Below w.heap.size w wr) (fun _ i _ => 31 - (intOf i).toNat)
 case atStart => exact ⟨0, by omega, rfl, OwnN.ofBlk (l := [a.size - 12]) (Blk.new w 3 _) (Nat.le_refl _) rfl (by omega), (Below.refl _ _).alloc (Nat.le_refl _) _⟩
 case round =>
  obtain ⟨k, hk, rfl, hown, hbel⟩ := hrel
  have hlen : ([a.size - 12] ++ T.take k).length = 1 + k := by rw [List.length_append, List.length_take, HTL.out]; simp; omega
  have hszr : w.heap.size ≤ wr.heap.size := hbel.size
  by_cases hlt : k < 31
  ·
   have hlt' : (k : Int) < 31 := by omega
   have hstk := HST.out k hlt
   by_cases hin : k < a.size
   ·
    have ix := index_str (P := Tryz.prog) 9 Tryz.underlying9 a k hin k rfl _ rfl
    have HVk := Lib.hid (HV.out k hin)
    have hin' : (k : Int) < (a.size : Int) := by omega
    generalize T.getD k 0 = z at *
    generalize (a[k].toNat : Int) = y at *
    obtain ⟨X, hX⟩ : ∃ X, [a.size - 12] ++ T.take k = X := ⟨_, rfl⟩
    have hnx : [a.size - 12] ++ T.take (k + 1) = X ++ [z] := by rw [hstk, ← List.append_assoc, hX]
    rw [hX] at hown hlen
    have HNX := Lib.hid hnx
    clear hX hnx hstk
    have hXl : X.length + 1 ≤ 1000000000 := by omega
    clear hlen
    go_wp2_with (first
     | (go_at_call 65; refine (HVk.out _).mono ?_; rintro e w' ⟨rfl, rfl⟩)
     | (at_builtin; go_loud (refine wpList_append_nums rfl (.tmp 17) (.tmp 22) 81 rfl .i64 3 8 Tryz.underlying81 info_int w.heap.size w _ X rfl (OwnN.below hown ((Below.refl wr.heap.size wr).alloc (Nat.le_refl _) _) (Nat.le_refl _)) (hbel.alloc (by simpa using hszr) _) (by simp; omega) _ 1 1 [z] rfl rfl ⟨_, _, rfl, Ns.newZ .i64 wr 3 _ _ rfl⟩ hXl (by omega) ?_; intro v5 w5 hown5 hbel5 _)))
    rw [← HNX.out] at hown5
    go_roundw
    case rel => exact ⟨k + 1, by omega, by go_num, hown5, hbel5⟩
    case measure => simp [intOf]; omega
   ·
    have hin' : ¬ (k : Int) < (a.size : Int) := by omega
    rw [HZ.out k (by omega) hlt] at hstk
    obtain ⟨X, hX⟩ : ∃ X, [a.size - 12] ++ T.take k = X := ⟨_, rfl⟩
    have hnx : [a.size - 12] ++ T.take (k + 1) = X ++ [0] := by rw [hstk, ← List.append_assoc, hX]
    rw [hX] at hown hlen
    have HNX := Lib.hid hnx
    clear hX hnx hstk
    have hXl : X.length + 1 ≤ 1000000000 := by omega
    clear hlen
    go_wp2_with (first
     | (at_builtin; go_loud (refine wpList_append_nums rfl (.tmp 24) (.tmp 25) 81 rfl .i64 3 8 Tryz.underlying81 info_int w.heap.size w _ X rfl (OwnN.below hown ((Below.refl wr.heap.size wr).alloc (Nat.le_refl _) _) (Nat.le_refl _)) (hbel.alloc (by simpa using hszr) _) (by simp; omega) _ 1 1 [0] rfl rfl ⟨_, _, rfl, Ns.newZ .i64 wr 3 _ _ rfl⟩ hXl (by omega) ?_; intro v5 w5 hown5 hbel5 _)))
    rw [← HNX.out] at hown5
    go_roundw
    case rel => exact ⟨k + 1, by omega, by go_num, hown5, hbel5⟩
    case measure => simp [intOf]; omega
  ·
   obtain rfl : k = 31 := by omega
   have hno : ¬ ((31 : Nat) : Int) < 31 := by omega
   rw [List.take_of_length_le (by rw [HTL.out]; omega)] at hown
   obtain ⟨A3, cap3, rfl, hcap3, hAt⟩ := hown.form
   rw [HNL.out] at hcap3 ⊢
   clear hown hlen
   go_wp2_with fail
   refine (HP.out _ _ _ hAt).mono ?_
   rintro e w5 ⟨⟨v5, rfl, hv5⟩, hb5⟩
   go_wp2
   go_ret
   exact ⟨⟨_, rfl, hv5.more hbel.size⟩, hbel.trans (hb5.mono hbel.size)⟩
end Go.Proofs.YthodpjcdmdbnoaaGreatDoor
