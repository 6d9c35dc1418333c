/- lockboxlaw14.PinFours: the walk. -/
import Derived.Test.YthodpjcdmdbnoaaGreatDoorNOK
import Derived.Test.YthodpjcdmdbnoaaGreatDoorNNL
namespace Go.Proofs.YthodpjcdmdbnoaaGreatDoor
open Go Go.RowKit Pr

theorem Bs.ne_book {w : World} {g q : Nat} {l : List Nat} {t : TypeId} {a : Option Addr} {n c : Nat} {cs : List Value} (h : Bs w g 0 l) (hl : l ≠ []) (hB : Blk w q t (.slice a n c :: cs).toArray) : g ≠ q := fun e => by
 subst e
 have h1 := h.cell 0 (List.length_pos_iff.2 hl)
 rw [Nat.add_zero, hB.cell 0] at h1
 cases h1
theorem mkCiph {w : World} {n g gk ck bp tp tb : Nat} {key T : List Nat} (kl : key.length = 16) (kb : Byt key) (hc : 16 ≤ ck) (c : Blk w g 62 #[.int .i64 (n : Int), .slice (some ⟨gk, 0, none⟩) 16 ck, .pointer (some ⟨bp, 0, none⟩)]) (k : Bs w gk 0 key) (b : Book0 w bp tp) (t : TapeAt w tp tb T)
    (n1 : g ≠ bp ∧ g ≠ tp) (n3 : bp ≠ tp) (n4 : tb ≠ bp) (l5 : tb < w.heap.size) (tl : T.length ≤ 100000) (bT : Byt T) : Ciph w n g gk ck bp tp tb key T := by
 have hne := ne_nil kl (by omega)
 refine ⟨kl, kb, hc, c, k, b, t, ⟨c.lt, k.lt hne, Blk.lt b, t.lt.1, l5, n1, ⟨?_, ?_⟩, n3, n4⟩, tl, bT⟩
 ·
  exact k.ne_book hne (cs := [.pointer (some ⟨tp, 0, none⟩)]) b
 ·
  obtain ⟨A, c', _, hB, _⟩ := t
  exact k.ne_book hne (cs := []) hB

/-- block.New, of all kinds, with a key of sixteen bytes -/
theorem new14_any (n : Nat) (hn : n = 1 ∨ n = 2 ∨ n = 3) (key : List Nat) (hkl : key.length = 16) (A : Option Addr) (cp : Nat) (bp : Nat) (w : World) (hA : At w A key) :
    Calls Tryz.prog 7 #[.int .i64 (n : Int), .slice A 16 cp, .pointer (some ⟨bp, 0, none⟩)] w fun e w' => (∃ g gk ck, e = .returned (.tuple #[.pointer (some ⟨g, 0, none⟩), .nilIface]) ∧ w.heap.size ≤ g ∧ 16 ≤ ck
     ∧ Blk w' g 62 #[.int .i64 (n : Int), .slice (some ⟨gk, 0, none⟩) 16 ck, .pointer (some ⟨bp, 0, none⟩)] ∧ Bs w' gk 0 key) ∧ Below w.heap.size w w' := by
 have main : ∀ m : Nat, n = m → m = 1 ∨ m = 2 → Calls Tryz.prog 7 #[.int .i64 (n : Int), .slice A 16 cp, .pointer (some ⟨bp, 0, none⟩)] w fun e w' => (∃ g gk ck, e = .returned (.tuple #[.pointer (some ⟨g, 0, none⟩), .nilIface]) ∧ w.heap.size ≤ g ∧ 16 ≤ ck
     ∧ Blk w' g 62 #[.int .i64 (n : Int), .slice (some ⟨gk, 0, none⟩) 16 ck, .pointer (some ⟨bp, 0, none⟩)] ∧ Bs w' gk 0 key) ∧ Below w.heap.size w w' := by
  rintro m rfl hm
  refine (new_yes n 16 hm key hkl (by rcases hm with rfl | rfl <;> rfl) (by omega) A cp (some ⟨bp, 0, none⟩) w hA).mono ?_
  rintro e w' ⟨⟨g, rfl, hg, gk, ck, hB, hc, hK, _⟩, hb⟩
  rw [hkl] at hB hc
  exact ⟨⟨g, gk, ck, rfl, hg, hc, hB, hK⟩, hb⟩
 rcases hn with rfl | rfl | rfl
 ·
  exact main 1 rfl (.inl rfl)
 ·
  exact main 2 rfl (.inr rfl)
 ·
  refine (new3_any key hkl A cp bp w hA).mono ?_
  rintro e w' ⟨⟨g, gk, ck, rfl, hg, _, _, hc, hB, hK⟩, hb⟩
  exact ⟨⟨g, gk, ck, rfl, hg, hc, hB, hK⟩, hb⟩

theorem ErIs.fr3 {w w' : World} {B x y z : Nat} {v : Value} {e : Er} (h : ErIs w B v e) (hf : Fr3 x y z w w') (h1 : x < B) (h2 : y < B) (h3 : z < B) : ErIs w' B v e := by
 cases e with
 | ok => exact h
 | no n => exact h
 | fa p n =>
  obtain ⟨g, e, hg, hB⟩ := h
  exact ⟨g, e, hg, (hf.block g hB.lt (by omega) (by omega) (by omega)).trans hB⟩
theorem kF0_good {n : Nat} {key T : List Nat} (hkb : Byt key) (bT : Byt T) (back : Bool) : Good16 (kF0 n key T back) := by
 unfold kF0
 split
 ·
  exact aesF_good hkb back
 ·
  exact orF0_good bT
theorem kF1_good {n : Nat} {key T : List Nat} (hkb : Byt key) (bT : Byt T) (back : Bool) (x : List Nat) : Good16 (kF1 n key T back x) := by
 unfold kF1
 split
 ·
  exact aesF_good hkb back
 ·
  exact orG1_good bT x
theorem fourR_good {n : Nat} (_hn : n = 1 ∨ n = 3) {key T : List Nat} (_hkl : key.length = 16) (hkb : Byt key) (bT : Byt T) (p a : List UInt8) (fill : List Nat) (hp : p.length ≤ 12) (hpd : ∀ c ∈ p, isDec c = true) (ha : a.length ≤ 19) (had : ∀ c ∈ a, isDec c = true) (hfl : fill.length = 8) (hfb : ∀ c ∈ fill, c < 256) {z : List Nat}
    (h : fourR (kF0 n key T false) (kF1 n key T false) p a fill = some z) : z.length = 16 ∧ Byt z := by
 have hxl := fourX_len p fill hp hfl
 have hxb : Byt (fourX p fill) := unhexL_lt (fourS_hex _ _ hp hpd hfb)
 have hal := fourA_len a (by omega)
 have hab : Byt (fourA a) := unhexL_lt (acctS_hex _ ha had)
 unfold fourR at h
 cases hr : kF0 n key T false (fourX p fill) with
 | none => rw [hr] at h; cases h
 | some y =>
  rw [hr] at h
  obtain ⟨hyl, hyb⟩ := kF0_good hkb bT false _ _ hxl hxb hr
  exact kF1_good hkb bT false _ _ _ (by rw [xorTo_len, hal]) (xorTo_byt hab hyb 16) h

set_option maxHeartbeats 8000000 in
set_option maxRecDepth 100000 in
theorem fours14 (w : World) (kind : Nat) (hkind : kind < 256) (k : List Nat) (gk : ∀ c ∈ k, c < 256) (A1 : Option Addr) (c1 : Nat) (_hc1 : k.length ≤ c1) (_h1 : k.length ≤ 140737488351232) (hA1 : At w A1 k) (draws : List Nat) (gd : ∀ c ∈ draws, c < 256) (A2 : Option Addr) (c2 : Nat) (hc2 : draws.length ≤ c2) (_h2 : draws.length ≤ 140737488351232) (hA2 : At w A2 draws)
    (p : ByteArray) (hp : p.size ≤ 140737488351232) (a : ByteArray) (ha : a.size ≤ 140737488351232) (fill : List Nat) (hfl : fill.length = 8) (hfb : ∀ c ∈ fill, c < 256) (b : List Nat) (gb : ∀ c ∈ b, c < 256) (A6 : Option Addr) (c6 : Nat) (_hc6 : b.length ≤ c6) (_h6 : b.length ≤ 140737488351232) (hA6 : At w A6 b) (hG : EtOk w) :
    Calls Tryz.prog 3 #[.int .u8 (kind : Int), .slice A1 k.length c1, .slice A2 draws.length c2, .string p, .string a, .agg (byteCells fill), .slice A6 b.length c6] w fun e w' => e = .returned (.bool true) ∧ Below w.heap.size w w' := by
 have HAW := Lib.hid (fun W => awake14_any W)
 have hbF := (Below.refl w.heap.size w).alloc (Nat.le_refl _) (.cells (byteCells fill) 23)
 obtain ⟨nk, hnk⟩ : ∃ x, k.length = x := ⟨_, rfl⟩
 obtain ⟨nd, hnd⟩ : ∃ x, draws.length = x := ⟨_, rfl⟩
 obtain ⟨nb, hnb⟩ : ∃ x, b.length = x := ⟨_, rfl⟩
 rw [hnd] at hc2
 by_cases hall : nk ≤ 100 ∧ nd ≤ 2000 ∧ p.size ≤ 100 ∧ a.size ≤ 100 ∧ nb ≤ 100
 ·
  obtain ⟨l1, l2, l3, l4, l6⟩ := hall
  have HK := Lib.hid (fun W hA => key14_any k nk hnk (by omega) A1 c1 W hA)
  have HT := Lib.hid (fun W hA => tapeNew_any draws nd hnd (by omega) A2 c2 W hA)
  have HBK := Lib.hid (fun tp W => newBook_any tp W)
  have hkl := keyN_len k
  have hkb := keyN_byt gk
  generalize keyN k = own at *
  have HA1 := Lib.hid (fun W (h : Below w.heap.size w W) => hA1.below h (Nat.le_refl _))
  have HA2 := Lib.hid (fun W (h : Below w.heap.size w W) => hA2.below h (Nat.le_refl _))
  have HA6 := Lib.hid (fun W (h : Below w.heap.size w W) => hA6.below h (Nat.le_refl _))
  have HG := Lib.hid (fun W (h : Below w.heap.size w W) => hG.below h (Nat.le_refl _))
  have HF := Lib.hid (fun W (h : Below (w.alloc (.cells (byteCells fill) 23)).heap.size (w.alloc (.cells (byteCells fill) 23)) W) => ((Blk.new w 23 (byteCells fill)).below h (by simp) : Blk W w.heap.size 23 (byteCells fill)))
  rw [hnk, hnd, hnb]
  have i1 : ¬ (100 : Int) < (nk : Int) := by omega
  have i2 : ¬ (2000 : Int) < (nd : Int) := by omega
  have i3 : ¬ (100 : Int) < (p.size : Int) := by omega
  have i4 : ¬ (100 : Int) < (a.size : Int) := by omega
  have i6 : ¬ (100 : Int) < (nb : Int) := by omega
  obtain ⟨n, hn, hnr⟩ : ∃ n : Nat, (n = 1 ∨ n = 2 ∨ n = 3) ∧ kind % 3 = n - 1 := ⟨kind % 3 + 1, by omega, by omega⟩
  have erm : (kind : Int).tmod 3 = ((n - 1 : Nat) : Int) := by rw [Int.tmod_eq_emod_of_nonneg (by omega)]; omega
  have hw8 : IntKind.u8.wrap ((n - 1 : Nat) : Int) = ((n - 1 : Nat) : Int) := IntWalk.u8_in _ (by omega)
  have hw64 : IntKind.i64.wrap ((n - 1 : Nat) : Int) = ((n - 1 : Nat) : Int) := IntWalk.i64_in _ (by omega)
  have hwn : IntKind.i64.wrap (1 + ((n - 1 : Nat) : Int)) = (n : Int) := by rw [IntWalk.i64_in _ (by omega)]; omega
  have HN := Lib.hid (fun A cp bp W hA => new14_any n hn own hkl A cp bp W hA)
  have HKL := Lib.hid hkl; clear hkl
  clear hA1 hA2 hA6 hG hnk
  obtain ⟨w1, hw1⟩ : ∃ x, w.alloc (.cells (byteCells fill) 23) = x := ⟨_, rfl⟩
  rw [hw1] at hbF HF
  generalize ((n - 1 : Nat) : Int) = r at *
  have z1 : w1.heap.size = w.heap.size + 1 := by rw [← hw1]; simp
  go_enter Tryz.func3, Tryz.ntmps3
  go_wp2_with fail
  refine (HAW.out _).mono ?_
  rintro e w2 ⟨rfl, b2⟩
  have k2 : Below w1.heap.size w1 w2 := b2
  go_wp2_with fail
  refine (HK.out w2 (HA1.out _ (hbF.trans (k2.mono (by omega))))).mono ?_
  rintro e w3 ⟨⟨vo, rfl, hvo⟩, b3⟩
  obtain ⟨go, co, rfl, hgo, hco, hgol, hBo⟩ := hvo.form (ne_nil HKL.out (by omega))
  rw [HKL.out] at hco ⊢
  have k3 := k2.trans (b3.mono k2.size)
  have s2 := k2.size
  have s3 := b3.size
  go_wp2_with fail
  refine (HT.out w3 (HA2.out _ (hbF.trans (k3.mono (by omega))))).mono ?_
  rintro e w4 ⟨⟨tp, tb, rfl, htp, hT4, htb, htbl⟩, b4⟩
  have k4 := k3.trans (b4.mono k3.size)
  have s4 := b4.size
  have ltp := hT4.lt.1
  go_wp2_with fail
  refine (HT.out w4 (HA2.out _ (hbF.trans (k4.mono (by omega))))).mono ?_
  rintro e w5 ⟨⟨tp2, tb2, rfl, htp2, hU5, htb2, htbl2⟩, b5⟩
  have hT5 := hT4.below b5
  have k5 := k4.trans (b5.mono k4.size)
  have s5 := b5.size
  have ltp2 := hU5.lt.1
  go_wp2_with fail
  refine (HBK.out tp w5).mono ?_
  rintro e w6 ⟨⟨bp, rfl, hbp, hB6⟩, b6⟩
  have hT6 := hT5.below b6
  have hU6 := hU5.below b6
  have k6 := k5.trans (b6.mono k5.size)
  have s6 := b6.size
  have lbp := Blk.lt hB6
  have hBo6 : Bs w6 go 0 own := hBo.below (b4.trans ((b5.mono s4).trans (b6.mono (by omega)))) hgol
  go_wp2_with fail
  refine (HN.out _ _ bp w6 (fun _ => ⟨_, _, rfl, hBo6⟩)).mono ?_
  rintro e w7 ⟨⟨gc, gkc, ckc, rfl, hgc, hckc, hC7, hK7⟩, b7⟩
  have hT7 := hT6.below b7
  have hU7 := hU6.below b7
  have hB7 : Book0 w7 bp tp := Blk.below hB6 b7 lbp
  have k7 := k6.trans (b7.mono k6.size)
  have s7 := b7.size
  have hBo7 : Bs w7 go 0 own := hBo6.below b7 (by omega)
  have hCc7 := mkCiph HKL.out hkb hckc hC7 hK7 hB7 hT7 ⟨by omega, by omega⟩ (by omega) (by omega) (by omega) (by omega) gd
  go_wp2_with fail
  refine (HBK.out tp2 w7).mono ?_
  rintro e w8 ⟨⟨bp2, rfl, hbp2, hB8⟩, b8⟩
  have hU8 := hU7.below b8
  have hCc8 := hCc7.more b8
  have k8 := k7.trans (b8.mono k7.size)
  have s8 := b8.size
  have lbp2 := Blk.lt hB8
  have hBo8 : Bs w8 go 0 own := hBo7.below b8 (by omega)
  go_wp2_with fail
  refine (HN.out _ _ bp2 w8 (fun _ => ⟨_, _, rfl, hBo8⟩)).mono ?_
  rintro e w9 ⟨⟨gd', gkd, ckd, rfl, hgd', hckd, hC9, hK9⟩, b9⟩
  have hU9 := hU8.below b9
  have hB9 : Book0 w9 bp2 tp2 := Blk.below hB8 b9 lbp2
  have hCc9 := hCc8.more b9
  have k9 := k8.trans (b9.mono k8.size)
  have s9 := b9.size
  have hBo9 : Bs w9 go 0 own := hBo8.below b9 (by omega)
  have hCd9 := mkCiph HKL.out hkb hckd hC9 hK9 hB9 hU9 ⟨by omega, by omega⟩ (by omega) (by omega) (by omega) (by omega) gd
  have hb9 : Below w.heap.size w w9 := hbF.trans (k9.mono (by omega))
  have hF9 := HF.out _ k9
  have hne := ne_nil HKL.out (by omega : 0 < 16)
  have d1 : gkd ≠ bp ∧ gkd ≠ tp := by
   refine ⟨hK9.ne_book hne (cs := [.pointer (some ⟨tp, 0, none⟩)]) hCc9.b, ?_⟩
   obtain ⟨A', c', _, hB', _⟩ := hCc9.t
   exact hK9.ne_book hne (cs := []) hB'
  have dd : ∀ q, q = gd' ∨ q = gkd ∨ q = bp2 ∨ q = tp2 ∨ q = tb2 → q ≠ bp ∧ q ≠ tp := by
   intro q hq
   omega
  clear hT4 hT5 hT6 hT7 hU5 hU6 hU7 hU8 hU9 hB6 hB7 hB8 hB9 hC7 hC9 hK7 hK9 hCc7 hCc8 hvo hBo hBo6 hBo7 hBo8 b2 b3 b4 b5 b6 b7 b8 b9 k2 k3 k4 k5 k6 k7 k8
  go_wp2_with (first | (refine wpList_load_row rfl 23 (.tmp 12) rfl w.heap.size rfl 23 _ (0,0) _ hF9 Tryz.underlying23 rfl (by rw [info_8u8, size_byteCells, hfl]) ?_))
  have HS1 := Lib.hid (fun W (hC : CipherAt W gc n own (.pointer (some ⟨bp, 0, none⟩))) => size_any n gc (by omega) own _ W hC)
  have HS2 := Lib.hid (fun W (hC : CipherAt W gd' n own (.pointer (some ⟨bp2, 0, none⟩))) => size_any n gd' (by omega) own _ W hC)
  have hgo9 : go ≠ bp ∧ go ≠ tp ∧ go ≠ bp2 ∧ go ≠ tp2 := by omega
  have hbig : w.heap.size < bp ∧ w.heap.size < tp ∧ w.heap.size < bp2 ∧ w.heap.size < tp2 := by omega
  have hsm : bp < w9.heap.size ∧ tp < w9.heap.size ∧ bp2 < w9.heap.size ∧ tp2 < w9.heap.size := by have := hCd9.a.l3; have := hCd9.a.l4; omega
  have hgol9 : go < w9.heap.size := by omega
  have HDD := Lib.hid dd; clear dd
  have HHB := Lib.hid hb9
  have hFl9 : w.heap.size < w9.heap.size := hF9.lt
  clear HK HT HBK HN HA1 HF z1 s2 s3 s4 s5 s6 s7 s8 s9 ltp ltp2 lbp lbp2 htp htb htbl htp2 htb2 htbl2 hbp hgc hbp2 hgd' d1 k9 hgo hgol hbF hw1 hne hckc hckd erm hw8 hw64 hwn hnr
  by_cases h2 : n = 2
  ·
   subst h2
   have q8 : ∀ W, CipherAt W gc 2 own (.pointer (some ⟨bp, 0, none⟩)) → Calls Tryz.prog 24 #[.pointer (some ⟨gc, 0, none⟩)] W fun e w' => e = .returned (.int .i64 8) ∧ W = w' := fun W hC => HS1.out W hC
   refine (four_two gc (.string p) (.string a) fill w9 (fun W hW => q8 W (hCc9.more hW).at_)).mono ?_
   rintro e w10 ⟨⟨v1, rfl, hv1⟩, b10⟩
   have hD10 := hCd9.more b10
   go_wp2_with fail
   refine (open_two gd' (.slice A6 nb c6) (.string a) w10 (HS2.out _ hD10.at_)).mono ?_
   rintro e w11 ⟨⟨v2, rfl, hv2⟩, b11⟩
   have hb11 : Below w.heap.size w w11 := hb9.trans ((b10.trans (b11.mono b10.size)).mono hb9.size)
   have HC1 := Lib.hid (fun W (hW : Below w11.heap.size w11 W) => code_any v1 (.no 1) 0 W hv1 (HG.out W (hb11.trans (hW.mono hb11.size))))
   have HC2 := Lib.hid (fun W (hW : Below w11.heap.size w11 W) => code_any v2 (.no 1) 0 W hv2 (HG.out W (hb11.trans (hW.mono hb11.size))))
   clear hv1 hv2 b10 b11 hD10
   go_wp2_with fail
   refine (HC1.out _ (Below.refl _ _)).mono ?_
   rintro e w12 ⟨rfl, b12⟩
   rw [show erCode (.no 1) = 1 from rfl]
   go_wp2_with fail
   refine (HC2.out _ b12).mono ?_
   rintro e w13 ⟨rfl, b13⟩
   rw [show erCode (.no 1) = 1 from rfl]
   have hbF2 := hb11.trans ((b12.trans (b13.mono b12.size)).mono hb11.size)
   go_wp2
   go_ret
   exact ⟨rfl, hbF2⟩
  have hn13 : n = 1 ∨ n = 3 := by omega
  have t2 : ((n : Int) == 2) = false := by rw [beq_eq_false_iff_ne]; omega
  have hszn : sizeN n = 16 := by rcases hn13 with rfl | rfl <;> rfl
  have q1 : ∀ W, CipherAt W gc n own (.pointer (some ⟨bp, 0, none⟩)) → Calls Tryz.prog 24 #[.pointer (some ⟨gc, 0, none⟩)] W fun e w' => e = .returned (.int .i64 16) ∧ W = w' := fun W hC => by have := HS1.out W hC; rw [hszn] at this; exact this
  have q2 : ∀ W, CipherAt W gd' n own (.pointer (some ⟨bp2, 0, none⟩)) → Calls Tryz.prog 24 #[.pointer (some ⟨gd', 0, none⟩)] W fun e w' => e = .returned (.int .i64 16) ∧ W = w' := fun W hC => by have := HS2.out W hC; rw [hszn] at this; exact this
  have HQ1 := Lib.hid q1; clear q1
  have HQ2 := Lib.hid q2; clear q2
  clear HS1 HS2 hszn
  obtain ⟨er, her⟩ : ∃ x, bothEr p.data.toList a.data.toList = x := ⟨_, rfl⟩
  obtain ⟨era, hera⟩ : ∃ x, decEr a.data.toList 13 19 = x := ⟨_, rfl⟩
  have HBAD := Lib.hid (fun W => bad_any p a hp ha W)
  rw [her] at HBAD
  have HWA := Lib.hid (fun W => wrongR_any a ha 13 19 (by omega) (by omega) W)
  rw [hera] at HWA
  have hrel : er = .ok → era = .ok := fun h => by
   rw [← her] at h
   unfold bothEr at h
   split at h
   ·
    rw [← hera]; exact h
   ·
    rename_i hx; exact absurd h hx
  have hcode : er ≠ .ok → (erCode er != 0) = true := fun h => by rw [← her]; exact bothEr_code (by rw [her]; exact h)
  have hcoda : era ≠ .ok → (erCode era != 0) = true := fun h => by
   rw [← hera]
   rcases decEr_cases a.data.toList 13 19 with e | ⟨k, e⟩ | e
   ·
    rw [e]; rfl
   ·
    rw [e]; rfl
   ·
    rw [hera] at e; exact absurd e h
  have hFour : Calls Tryz.prog 9 #[.pointer (some ⟨gc, 0, none⟩), .string p, .string a, .agg (byteCells fill)] w9 fun e w' => (∃ X n1 cX v1 er1, e = .returned (.tuple #[.slice X n1 cX, v1]) ∧ ErIs w' w9.heap.size v1 er1 ∧
      ((er ≠ .ok ∧ er1 = er ∧ n1 = 0) ∨ (er = .ok ∧ fourR (kF0 n own draws false) (kF1 n own draws false) p.data.toList a.data.toList fill = none ∧ (∃ q, er1 = .fa q 13) ∧ n1 = 0)
       ∨ (er = .ok ∧ ∃ z gv, fourR (kF0 n own draws false) (kF1 n own draws false) p.data.toList a.data.toList fill = some z ∧ z.length = 16 ∧ Byt z ∧ er1 = .ok ∧ n1 = 16 ∧ X = some ⟨gv, 0, none⟩ ∧ w9.heap.size ≤ gv ∧ Bs w' gv 0 z))) ∧ Fr3 bp tp bp w9 w' := by
   by_cases hok : er = .ok
   ·
    rw [hok] at her
    obtain ⟨⟨p1, p2, p3⟩, x1, x2, x3⟩ := bothEr_dec her
    have hpl : p.data.toList.length = p.size := by simp
    have hal : a.data.toList.length = a.size := by simp
    refine (four14 n gc gkc ckc bp tp tb hn13 own draws p a (by omega) (by omega) p3 (by omega) (by omega) x3 her fill hfl hfb w9 hCc9).mono ?_
    rintro e w' ⟨h1, hF⟩
    refine ⟨?_, hF⟩
    cases hr : fourR (kF0 n own draws false) (kF1 n own draws false) p.data.toList a.data.toList fill with
    | none =>
     rw [hr] at h1
     obtain ⟨v, q, rfl, hv⟩ := h1
     exact ⟨_, _, _, v, _, rfl, hv, .inr (.inl ⟨hok, rfl, ⟨q, rfl⟩, rfl⟩)⟩
    | some z =>
     rw [hr] at h1
     obtain ⟨gv, rfl, hgv, hBv⟩ := h1
     have hz := fourR_good hn13 HKL.out hkb gd p.data.toList a.data.toList fill (by omega) p3 (by omega) x3 hfl hfb hr
     exact ⟨_, _, _, .nilIface, .ok, rfl, rfl, .inr (.inr ⟨hok, z, gv, rfl, hz.1, hz.2, rfl, rfl, rfl, hgv, Bs.of_blk hBv (fun j c hj => by rw [Nat.zero_add]; exact hj)⟩)⟩
   ·
    refine (four_no gc p a (by omega) (by omega) er her hok fill w9 (fun W hW => HQ1.out W (hCc9.more hW).at_)).mono ?_
    rintro e w' ⟨⟨v, rfl, hv⟩, hb⟩
    exact ⟨⟨_, _, _, v, er, rfl, hv, .inl ⟨hok, rfl, rfl⟩⟩, fr3_below hb⟩
  refine hFour.mono ?_
  clear hFour
  rintro e w10 ⟨⟨X, n1, cX, v1, er1, rfl, hv1, hcs⟩, F10⟩
  have s10 := F10.size
  have hb10 : Below w.heap.size w w10 := ⟨F10.os.trans hb9.os, F10.tape.trans hb9.tape, F10.output.trans hb9.output, by have := hb9.size; omega, fun q hq => (F10.block q (by have := hb9.size; omega) (by omega) (by omega) (by omega)).trans (hb9.block q hq)⟩
  have hD10 := hCd9.keep s10 (fun q hq hq2 => F10.block q hq (HDD.out q hq2).1 (HDD.out q hq2).2 (HDD.out q hq2).1)
  have hBo10 : Bs w10 go 0 own := fun j v hv => (World.cell?_of_block (F10.block go hgol9 (by omega) (by omega) (by omega))).trans (hBo9 j v hv)
  have hF10 : Blk w10 w.heap.size 23 (byteCells fill) := (F10.block _ hFl9 (by omega) (by omega) (by omega)).trans hF9
  clear hCc9 hCd9 hBo9 hF9 hb9 HDD HQ1 HHB F10
  go_wp2_with fail
  have hOpen : Calls Tryz.prog 10 #[.pointer (some ⟨gd', 0, none⟩), .slice A6 nb c6, .string a] w10 fun e w' => (∃ s2 v2 er2, e = .returned (.tuple #[.string s2, v2]) ∧ ErIs w' w10.heap.size v2 er2 ∧
      ((era ≠ .ok ∧ er2 = era ∧ s2 = ⟨#[]⟩) ∨ (era = .ok ∧ nb ≠ 16 ∧ er2 = .no 2 ∧ s2 = ⟨#[]⟩)
       ∨ (era = .ok ∧ nb = 16 ∧ openR (kF0 n own draws true) (kF1 n own draws true) b a.data.toList = none ∧ (∃ q, er2 = .fa q 13) ∧ s2 = ⟨#[]⟩)
       ∨ (era = .ok ∧ nb = 16 ∧ ∃ y, openR (kF0 n own draws true) (kF1 n own draws true) b a.data.toList = some y ∧ er2 = readEr (nibN y) 4 ∧ s2 = str (readStr (nibN y) 4)))) ∧ Fr3 bp2 tp2 bp2 w10 w' := by
   by_cases hok : era = .ok ∧ nb = 16
   ·
    obtain ⟨hok, h16⟩ := hok
    subst h16
    rw [hok] at hera
    obtain ⟨x1, x2, x3⟩ := decEr_dec hera
    have hal : a.data.toList.length = a.size := by simp
    refine (open14 n gd' gkd ckd bp2 tp2 tb2 hn13 own draws b hnb gb A6 c6 a (by omega) (by omega) x3 hera w10 (HA6.out _ hb10) hD10).mono ?_
    rintro e w' ⟨h1, hF⟩
    refine ⟨?_, hF⟩
    cases hr : openR (kF0 n own draws true) (kF1 n own draws true) b a.data.toList with
    | none =>
     rw [hr] at h1
     obtain ⟨v, q, rfl, hv⟩ := h1
     exact ⟨_, v, _, rfl, hv, .inr (.inr (.inl ⟨hok, rfl, rfl, ⟨q, rfl⟩, rfl⟩))⟩
    | some y =>
     rw [hr] at h1
     obtain ⟨v, rfl, hv⟩ := h1
     exact ⟨_, v, _, rfl, hv, .inr (.inr (.inr ⟨hok, rfl, y, rfl, rfl, rfl⟩))⟩
   ·
    obtain ⟨er2, her2⟩ : ∃ x, (match decEr a.data.toList 13 19 with | .ok => if nb = 16 then Er.ok else Er.no 2 | x => x) = x := ⟨_, rfl⟩
    have hcs2 : (era ≠ .ok ∧ er2 = era) ∨ (era = .ok ∧ nb ≠ 16 ∧ er2 = .no 2) := by
     rw [← her2, hera]
     cases era with
     | ok =>
      have h16 : nb ≠ 16 := fun h => hok ⟨rfl, h⟩
      exact .inr ⟨rfl, h16, by simp [h16]⟩
     | no m => exact .inl ⟨by simp, rfl⟩
     | fa q m => exact .inl ⟨by simp, rfl⟩
    have hno : er2 ≠ .ok := by
     rcases hcs2 with ⟨h1, h2⟩ | ⟨_, _, h2⟩
     ·
      rw [h2]; exact h1
     ·
      rw [h2]; simp
    refine (open_no gd' A6 nb c6 a (by omega) er2 her2 hno w10 (HQ2.out _ hD10.at_)).mono ?_
    rintro e w' ⟨⟨v, rfl, hv⟩, hb⟩
    refine ⟨⟨_, v, er2, rfl, hv, ?_⟩, fr3_below hb⟩
    rcases hcs2 with ⟨h1, h2⟩ | ⟨h1, h2, h3⟩
    ·
     exact .inl ⟨h1, h2, rfl⟩
    ·
     exact .inr (.inl ⟨h1, h2, h3, rfl⟩)
  refine hOpen.mono ?_
  clear hOpen
  rintro e w11 ⟨⟨s2, v2, er2, rfl, hv2, hcs2⟩, F11⟩
  have s11 := F11.size
  have hb11 : Below w.heap.size w w11 := ⟨F11.os.trans hb10.os, F11.tape.trans hb10.tape, F11.output.trans hb10.output, by have := hb10.size; omega, fun q hq => (F11.block q (by have := hb10.size; omega) (by omega) (by omega) (by omega)).trans (hb10.block q hq)⟩
  have hBo11 : Bs w11 go 0 own := fun j v hv => (World.cell?_of_block (F11.block go (by omega) (by omega) (by omega) (by omega))).trans (hBo10 j v hv)
  have hF11 : Blk w11 w.heap.size 23 (byteCells fill) := (F11.block _ (by omega) (by omega) (by omega) (by omega)).trans hF10
  have hv1' : ErIs w11 w9.heap.size v1 er1 := hv1.fr3 F11 (by omega) (by omega) (by omega)
  have HX := Lib.hid (fun gv z (hz : z ≠ []) (h : w9.heap.size ≤ gv) (hB : Bs w10 gv 0 z) => (fun j v hv => (World.cell?_of_block (F11.block gv (hB.lt hz) (by omega) (by omega) (by omega))).trans (hB j v hv) : Bs w11 gv 0 z))
  have HC1 := Lib.hid (fun W (hW : Below w11.heap.size w11 W) => code_any v1 er1 w9.heap.size W (hv1'.below hW (Nat.le_refl _)) (HG.out W (hb11.trans (hW.mono hb11.size))))
  have HT1 := Lib.hid (fun W (hW : Below w11.heap.size w11 W) => at_any v1 er1 w9.heap.size W (hv1'.below hW (Nat.le_refl _)) (HG.out W (hb11.trans (hW.mono hb11.size))))
  have HC2 := Lib.hid (fun W (hW : Below w11.heap.size w11 W) => code_any v2 er2 w10.heap.size W (hv2.below hW (Nat.le_refl _)) (HG.out W (hb11.trans (hW.mono hb11.size))))
  have HT2 := Lib.hid (fun W (hW : Below w11.heap.size w11 W) => at_any v2 er2 w10.heap.size W (hv2.below hW (Nat.le_refl _)) (HG.out W (hb11.trans (hW.mono hb11.size))))
  have HE1 := Lib.hid hv1'
  have HE2 := Lib.hid hv2
  have HB11 := Lib.hid (fun W (hW : Below w11.heap.size w11 W) => hb11.trans (hW.mono hb11.size))
  have HOWN := Lib.hid (fun W (hW : Below w11.heap.size w11 W) => (fun _ => ⟨_, _, rfl, hBo11.below hW (by omega)⟩ : At W (some ⟨go, 0, none⟩) own))
  have HFL := Lib.hid (fun W (hW : Below w11.heap.size w11 W) => (hF11.below hW (by omega) : Blk W w.heap.size 23 (byteCells fill)))
  clear hv1 hv1' hv2 hBo10 hBo11 hF10 hF11 hD10 hb10 F11 HQ2
  have kw := Below.refl w11.heap.size w11
  have HFIL := Lib.hid hfl
  have HRF := Lib.hid (fun (hok : er = .ok) W (hW : Below w11.heap.size w11 W) => refFour14 n hn13 own draws HKL.out hkb (some ⟨go, 0, none⟩) A2 co c2 (by rw [hnd]; exact hc2) (by omega) gd p a (by have := (bothEr_dec (her.trans hok)).1; have hpl : p.data.toList.length = p.size := (by simp); omega) (bothEr_dec (her.trans hok)).1.2.2 (by have := (bothEr_dec (her.trans hok)).2; have hal : a.data.toList.length = a.size := (by simp); omega) (by have := (bothEr_dec (her.trans hok)).2; have hal : a.data.toList.length = a.size := (by simp); omega) (bothEr_dec (her.trans hok)).2.2.2 fill hfl hfb W (HOWN.out W hW) (HA2.out W (HB11.out W hW)))
  have HRO := Lib.hid (fun (hok : era = .ok) (h16 : nb = 16) W (hW : Below w11.heap.size w11 W) => refOpen14 n hn13 own draws HKL.out hkb (some ⟨go, 0, none⟩) A2 co c2 (by rw [hnd]; exact hc2) (by omega) gd b (hnb.trans h16) gb A6 c6 a (by have := decEr_dec (hera.trans hok); have hal : a.data.toList.length = a.size := (by simp); omega) (by have := decEr_dec (hera.trans hok); have hal : a.data.toList.length = a.size := (by simp); omega) (decEr_dec (hera.trans hok)).2.2 W (HA6.out W (HB11.out W hW)) (HOWN.out W hW) (HA2.out W (HB11.out W hW)))
  rw [hnd] at HRF HRO
  have HREL := Lib.hid hrel; clear hrel
  have HCODE := Lib.hid hcode; clear hcode
  have HCODA := Lib.hid hcoda; clear hcoda
  have HCS2 := Lib.hid hcs2; clear hcs2
  clear her hera hnd hnb hc2 hfl hfb gd gb gk hkb hn hgo9 hbig hsm hgol9 hFl9
  have HN13 := Lib.hid hn13; clear hn13
  rcases hcs with ⟨hne, rfl, rfl⟩ | ⟨hok, hr1, ⟨q, rfl⟩, rfl⟩ | ⟨hok, z, gv, hr1, hzl, hzb, rfl, rfl, rfl, hgv, hBz⟩
  rotate_left
  focus
   have HR1 := Lib.hid hr1; clear hr1
   rw [hok, show erCode .ok = 0 from rfl] at HBAD
   have hEO := HREL.out hok
   have HOK := Lib.hid hok; clear hok
   have HEO := Lib.hid hEO; clear hEO
   have HNO : True := trivial
   go_wp2_with fail
   refine (HBAD.out _).mono ?_
   rintro e w12 ⟨rfl, rfl⟩
   go_wp2_with (first | (refine wpList_load_row rfl 23 (.tmp 12) rfl w.heap.size rfl 23 _ (0,0) _ (HFL.out _ kw) Tryz.underlying23 rfl (by rw [info_8u8, size_byteCells, HFIL.out]) ?_))
   refine (HRF.out HOK.out _ kw).mono ?_
   rintro e w13 ⟨hro, b13⟩
   rw [HR1.out] at hro
   obtain ⟨bv, rfl, s0, k0, e0, s1, k1, e1, rfl⟩ := hro
   have k13 := kw.trans (b13.mono kw.size)
   go_wp2_with (first | (refine wpList_store_all rfl 45 (.tmp 31) (.tmp 191) rfl w13.heap.size #[.slice s0 k0 e0, .slice s1 k1 e1] rfl rfl 45 #[.slice none 0 0, .slice none 0 0] (Blk.new w13 _ _) (by rw [info_book]; rfl) rfl (by simp [Value.oneCell']) ?_; intro w14 hB14 hO14; have k14 := hO14.below (k13.alloc k13.size _) (by have := k13.size; omega)))
   refine (HC1.out _ k14).mono ?_
   rintro e wq ⟨rfl, b15⟩
   have kq := k14.trans (b15.mono k14.size)
   rw [show erCode (.fa q 13) = 13 from rfl]
   clear b13 k13 hB14 hO14 k14 b15 HRF HR1
   go_wp2_with fail
  rotate_left
  focus
   have HR1 := Lib.hid hr1; clear hr1
   rw [hok, show erCode .ok = 0 from rfl] at HBAD
   have hEO := HREL.out hok
   have HOK := Lib.hid hok; clear hok
   have HEO := Lib.hid hEO; clear hEO
   have HNO : True := trivial
   obtain rfl : v1 = .nilIface := HE1.out
   have hBz11 : Bs w11 gv 0 z := HX.out gv z (ne_nil hzl (by omega)) hgv hBz
   go_wp2_with fail
   refine (HBAD.out _).mono ?_
   rintro e w12 ⟨rfl, rfl⟩
   go_wp2_with (first | (refine wpList_load_row rfl 23 (.tmp 12) rfl w.heap.size rfl 23 _ (0,0) _ (HFL.out _ kw) Tryz.underlying23 rfl (by rw [info_8u8, size_byteCells, HFIL.out]) ?_))
   refine (HRF.out HOK.out _ kw).mono ?_
   rintro e w13 ⟨hro, b13⟩
   rw [HR1.out] at hro
   obtain ⟨bv, AZ, cZ, rfl, ⟨s0, k0, e0, s1, k1, e1, rfl⟩, hAZ⟩ := hro
   have k13 := kw.trans (b13.mono kw.size)
   go_wp2_with (first | (refine wpList_store_all rfl 45 (.tmp 31) (.tmp 191) rfl w13.heap.size #[.slice s0 k0 e0, .slice s1 k1 e1] rfl rfl 45 #[.slice none 0 0, .slice none 0 0] (Blk.new w13 _ _) (by rw [info_book]; rfl) rfl (by simp [Value.oneCell']) ?_; intro w14 hB14 hO14; have k14 := hO14.below (k13.alloc k13.size _) (by have := k13.size; omega); have b34 := hO14.below ((Below.refl w13.heap.size w13).alloc (Nat.le_refl _) (.cells #[.slice none 0 0, .slice none 0 0] 45)) (Nat.le_refl _)))
   have hs := same_any z z (some ⟨gv, 0, none⟩) AZ cX cZ hzb hzb (by omega) w14 (fun _ => ⟨_, _, rfl, hBz11.below k14 (hBz11.lt (ne_nil hzl (by omega)))⟩) (hAZ.below b34 (Nat.le_refl _))
   rw [hzl, decide_eq_true (rfl : z = z)] at hs
   refine hs.mono ?_
   rintro e wq ⟨rfl, k15, rfl⟩
   have kq := below_drewN k14 k15
   clear b13 k13 hB14 hO14 b34 hAZ hs hBz hBz11 HRF HR1
   go_wp2_with fail
  rotate_left
  focus
   have HNO := HCODE.out hne
   have HEO := Lib.hid (True.intro)
   go_wp2_with fail
   refine (HBAD.out _).mono ?_
   rintro e w12 ⟨rfl, rfl⟩
   go_wp2_with fail
   refine (HC1.out _ kw).mono ?_
   rintro e w13 ⟨rfl, b13⟩
   have k13 := kw.trans (b13.mono kw.size)
   go_wp2_with fail
   refine (HT1.out _ k13).mono ?_
   rintro e wq ⟨rfl, b14⟩
   have kq := k13.trans (b14.mono k13.size)
   clear b13 k13 b14 HRF
   go_wp2_with fail
  all_goals
   rcases HCS2.out with ⟨hne2, rfl, rfl⟩ | ⟨hok2, h16, rfl, rfl⟩ | ⟨hok2, rfl, hr2, ⟨q2, rfl⟩, rfl⟩ | ⟨hok2, rfl, y, hr2, rfl, rfl⟩
   ·
    try exact absurd HEO.out hne2
    all_goals
     have hc2 := HCODA.out hne2
     refine (HWA.out _).mono ?_
     rintro e wr ⟨rfl, rfl⟩
     go_wp2_with fail
     refine (HC2.out _ kq).mono ?_
     rintro e w16 ⟨rfl, b16⟩
     have k16 := kq.trans (b16.mono kq.size)
     go_wp2_with fail
     refine (HT2.out _ k16).mono ?_
     rintro e w17 ⟨rfl, b17⟩
     have k17 := HB11.out _ (k16.trans (b17.mono k16.size))
     go_wp2
     go_ret
     exact ⟨rfl, k17⟩
   ·
    rw [hok2, show erCode .ok = 0 from rfl] at HWA
    have t16 : ((nb : Int) != 16) = true := by rw [bne_iff_ne]; omega
    clear h16 HEO HREL
    refine (HWA.out _).mono ?_
    rintro e wr ⟨rfl, rfl⟩
    go_wp2_with fail
    refine (HC2.out _ kq).mono ?_
    rintro e w16 ⟨rfl, b16⟩
    rw [show erCode (.no 2) = 2 from rfl]
    have k17 := HB11.out _ (kq.trans (b16.mono kq.size))
    go_wp2
    go_ret
    exact ⟨rfl, k17⟩
   ·
    have HRO2 := Lib.hid (HRO.out hok2 rfl _ kq)
    rw [hr2, show RefOpenV none = .tuple #[.string ⟨#[]⟩, .int .i64 (-1), .bool false] from rfl] at HRO2
    rw [hok2, show erCode .ok = 0 from rfl] at HWA
    clear HEO HREL hok2 hr2
    refine (HWA.out _).mono ?_
    rintro e wr ⟨rfl, rfl⟩
    go_wp2_with fail
    refine (HRO2.out).mono ?_
    rintro e w15 ⟨rfl, b15⟩
    have k15 := kq.trans (b15.mono kq.size)
    go_wp2_with fail
    refine (HC2.out _ k15).mono ?_
    rintro e w16 ⟨rfl, b16⟩
    rw [show erCode (.fa q2 13) = 13 from rfl]
    have k17 := HB11.out _ (k15.trans (b16.mono k15.size))
    go_wp2
    go_ret
    exact ⟨rfl, k17⟩
   ·
    have HRO2 := Lib.hid (HRO.out hok2 rfl _ kq)
    rw [hr2, show RefOpenV (some y) = .tuple #[.string (str (readStr (nibN y) 4)), .int .i64 (readZ (nibN y) 4), .bool true] from rfl] at HRO2
    rw [hok2, show erCode .ok = 0 from rfl] at HWA
    clear HEO HREL hok2 hr2
    rcases readEr_Z (nibN y) 4 with ⟨z1, z2⟩ | ⟨kk, z1, z2, z3⟩
    ·
     rw [z1] at HE2
     obtain rfl : v2 = .nilIface := HE2.out
     rw [z2] at HRO2
     clear z1 z2
     generalize str (readStr (nibN y) 4) = SS at *
     have tss : (SS.toList == SS.toList) = true := by simp
     refine (HWA.out _).mono ?_
     rintro e wr ⟨rfl, rfl⟩
     go_wp2_with fail
     refine (HRO2.out).mono ?_
     rintro e w15 ⟨rfl, b15⟩
     have k17 := HB11.out _ (kq.trans (b15.mono kq.size))
     go_wp2
     go_ret
     exact ⟨rfl, k17⟩
    ·
     rw [z2, z3, show str [] = ⟨#[]⟩ from rfl] at HRO2
     rw [z3, show str [] = ⟨#[]⟩ from rfl]
     rw [z1] at HC2 HT2
     clear z1 z2 z3 HE2
     have tk : (0 : Int) ≤ (kk : Int) := by omega
     refine (HWA.out _).mono ?_
     rintro e wr ⟨rfl, rfl⟩
     go_wp2_with fail
     refine (HRO2.out).mono ?_
     rintro e w15 ⟨rfl, b15⟩
     have k15 := kq.trans (b15.mono kq.size)
     go_wp2_with fail
     refine (HC2.out _ k15).mono ?_
     rintro e w16 ⟨rfl, b16⟩
     rw [show erCode (.fa (kk : Int) 6) = 6 from rfl]
     have k16 := k15.trans (b16.mono k15.size)
     go_wp2_with fail
     refine (HT2.out _ k16).mono ?_
     rintro e w17 ⟨rfl, b17⟩
     rw [show erAt (.fa (kk : Int) 6) = (kk : Int) from rfl]
     have k17 := HB11.out _ (k16.trans (b17.mono k16.size))
     go_wp2
     go_ret
     exact ⟨rfl, k17⟩
 ·
  rw [hnk, hnd, hnb]
  by_cases j0 : (100 : Int) < (nk : Int)
  ·
   go_enter Tryz.func3, Tryz.ntmps3
   go_wp2_with fail
   refine (HAW.out _).mono ?_
   rintro e w2 ⟨rfl, b2⟩
   go_wp2_with fail
   refine (HAW.out _).mono ?_
   rintro e w3 ⟨rfl, b3⟩
   have k3 := hbF.trans ((b2.trans (b3.mono b2.size)).mono hbF.size)
   go_wp2
   go_ret
   exact ⟨rfl, k3⟩
  by_cases j1 : (2000 : Int) < (nd : Int)
  ·
   go_enter Tryz.func3, Tryz.ntmps3
   go_wp2_with fail
   refine (HAW.out _).mono ?_
   rintro e w2 ⟨rfl, b2⟩
   go_wp2_with fail
   refine (HAW.out _).mono ?_
   rintro e w3 ⟨rfl, b3⟩
   have k3 := hbF.trans ((b2.trans (b3.mono b2.size)).mono hbF.size)
   go_wp2
   go_ret
   exact ⟨rfl, k3⟩
  by_cases j2 : (100 : Int) < (p.size : Int)
  ·
   go_enter Tryz.func3, Tryz.ntmps3
   go_wp2_with fail
   refine (HAW.out _).mono ?_
   rintro e w2 ⟨rfl, b2⟩
   go_wp2_with fail
   refine (HAW.out _).mono ?_
   rintro e w3 ⟨rfl, b3⟩
   have k3 := hbF.trans ((b2.trans (b3.mono b2.size)).mono hbF.size)
   go_wp2
   go_ret
   exact ⟨rfl, k3⟩
  by_cases j3 : (100 : Int) < (a.size : Int)
  ·
   go_enter Tryz.func3, Tryz.ntmps3
   go_wp2_with fail
   refine (HAW.out _).mono ?_
   rintro e w2 ⟨rfl, b2⟩
   go_wp2_with fail
   refine (HAW.out _).mono ?_
   rintro e w3 ⟨rfl, b3⟩
   have k3 := hbF.trans ((b2.trans (b3.mono b2.size)).mono hbF.size)
   go_wp2
   go_ret
   exact ⟨rfl, k3⟩
  by_cases j4 : (100 : Int) < (nb : Int)
  ·
   go_enter Tryz.func3, Tryz.ntmps3
   go_wp2_with fail
   refine (HAW.out _).mono ?_
   rintro e w2 ⟨rfl, b2⟩
   go_wp2_with fail
   refine (HAW.out _).mono ?_
   rintro e w3 ⟨rfl, b3⟩
   have k3 := hbF.trans ((b2.trans (b3.mono b2.size)).mono hbF.size)
   go_wp2
   go_ret
   exact ⟨rfl, k3⟩
  exact absurd ⟨by omega, by omega, by omega, by omega, by omega⟩ hall
end Go.Proofs.YthodpjcdmdbnoaaGreatDoor
