/- The document's ciphers: the oracle's two states, AES; what they answer. pin.Four and pin.OpenFour, where something is wrong ahead of the cipher. pin.Four and pin.OpenFour, the document's too, over both kinds of ciphers of sixteen bytes. -/
import Derived.Test.YthodpjcdmdbnoaaGreatDoorNFO
import Derived.Test.YthodpjcdmdbnoaaGreatDoorNOR
import Derived.Test.YthodpjcdmdbnoaaGreatDoorNRJ
/- The document's ciphers: the oracle's two states, AES; what they answer. -/
namespace Go.Proofs.YthodpjcdmdbnoaaGreatDoor
open Go Go.RowKit Pr

theorem At.more {w w' : World} {A : Option Addr} {l : List Nat} (h : At w A l) (hb : Below w.heap.size w w') : At w' A l := h.below hb (Nat.le_refl _)
theorem RowR.more {w w' : World} {R : Option Addr} {K I O : List Nat} (h : RowR w R K I O) (hb : Below w.heap.size w w') : RowR w' R K I O := by
 obtain ⟨g, A1, A2, A3, c1, c2, c3, rfl, h1, h2, h3, a1, a2, a3⟩ := h
 have hl := block_lt_of_cell h1
 exact ⟨g, A1, A2, A3, c1, c2, c3, rfl, (hb.cell (p := ⟨g, 0, none⟩) hl).trans h1, (hb.cell (p := ⟨g, 1, none⟩) hl).trans h2, (hb.cell (p := ⟨g, 2, none⟩) hl).trans h3, a1.more hb, a2.more hb, a3.more hb⟩
theorem RowR.book {w w' : World} {R : Option Addr} {K I O : List Nat} {q : Nat} {t : TypeId} {r0 r1 : Option Addr} {n0 c0 n1 c1 : Nat} (h : RowR w R K I O) (hB : Blk w q t #[.slice r0 n0 c0, .slice r1 n1 c1]) (ho : Only q w w') : RowR w' R K I O := by
 obtain ⟨g, A1, A2, A3, x1, x2, x3, rfl, h1, h2, h3, a1, a2, a3⟩ := h
 have hne : g ≠ q := fun e => by
  subst e
  have h4 := hB.cell 2
  rw [h3] at h4
  cases h4
 have hc : ∀ o v, w.cell? ⟨g, o, none⟩ = some v → w'.cell? ⟨g, o, none⟩ = some v := fun o v hv => (World.cell?_of_block (ho.block g hne)).trans hv
 exact ⟨g, A1, A2, A3, x1, x2, x3, rfl, hc _ _ h1, hc _ _ h2, hc _ _ h3, a1.book hB ho, a2.book hB ho, a3.book hB ho⟩

/-- the document's oracle: no row -/
def Rf0 (AK : Option Addr) (key T : List Nat) (bv : Value) (W : World) : Prop := At W AK key ∧ ∃ A c, bv = .agg #[.slice none 0 0, .slice A T.length c] ∧ T.length ≤ c ∧ At W A T
/-- .. one row -/
def Rf1 (AK : Option Addr) (key T : List Nat) (back : Bool) (x : List Nat) (bv : Value) (W : World) : Prop := At W AK key ∧ ¬ T.length < 16 ∧ ∃ R cR A c, bv = .agg #[.slice R 1 cR, .slice A (T.drop 16).length c] ∧ (T.drop 16).length ≤ c ∧ At W A (T.drop 16) ∧ RowR W R key (if back then T.take 16 else x) (if back then x else T.take 16)
/-- .. AES -/
def RfA (AK : Option Addr) (key : List Nat) (bv : Value) (W : World) : Prop := At W AK key ∧ BookV bv
theorem rf0_ok (AK : Option Addr) (key T : List Nat) : RfOk (Rf0 AK key T) where
 more := fun _ _ _ ⟨h1, A, c, e, hc, h2⟩ hb => ⟨h1.more hb, A, c, e, hc, h2.more hb⟩
 only := fun _ _ _ _ _ _ _ _ _ _ ⟨h1, A, c, e, hc, h2⟩ hB ho => ⟨h1.book hB ho, A, c, e, hc, h2.book hB ho⟩
 book := fun _ _ ⟨_, _, _, e, _, _⟩ => ⟨_, _, _, _, _, _, e⟩
theorem rf1_ok (AK : Option Addr) (key T : List Nat) (back : Bool) (x : List Nat) : RfOk (Rf1 AK key T back x) where
 more := fun _ _ _ ⟨h1, h16, R, cR, A, c, e, hc, h2, h3⟩ hb => ⟨h1.more hb, h16, R, cR, A, c, e, hc, h2.more hb, h3.more hb⟩
 only := fun _ _ _ _ _ _ _ _ _ _ ⟨h1, h16, R, cR, A, c, e, hc, h2, h3⟩ hB ho => ⟨h1.book hB ho, h16, R, cR, A, c, e, hc, h2.book hB ho, h3.book hB ho⟩
 book := fun _ _ ⟨_, _, _, _, _, _, e, _, _, _⟩ => ⟨_, _, _, _, _, _, e⟩
theorem rfA_ok (AK : Option Addr) (key : List Nat) : RfOk (RfA AK key) where
 more := fun _ _ _ ⟨h1, h2⟩ hb => ⟨h1.more hb, h2⟩
 only := fun _ _ _ _ _ _ _ _ _ _ ⟨h1, h2⟩ hB ho => ⟨h1.book hB ho, h2⟩
 book := fun _ _ ⟨_, h2⟩ => h2

theorem rf_first (kl : Nat) (AK : Option Addr) (cK : Nat) (key T : List Nat) (hkl : key.length = kl) (hk0 : 0 < kl) (hk9 : kl ≤ 1000) (hT : T.length ≤ 100000) (back : Bool) : RefStep 3 kl AK cK back (Rf0 AK key T) (OrF0 T) (Rf1 AK key T back) := by
 rintro W bv A c x hx bx ⟨hK, AT, cT, rfl, hcT, hAT⟩ hA
 have key' := refDo3_any kl none AT AK A 0 T.length 0 cT cK c back W
  (fun e V => match OrF0 T x with
   | some y => ∃ bv' A' c', e = .returned (.tuple #[bv', .slice A' 16 c', .bool true]) ∧ BookV bv' ∧ At V A' y ∧ Rf1 AK key T back x bv' V
   | none => ∃ bv', e = .returned (.tuple #[bv', .slice none 0 0, .bool false]) ∧ BookV bv')
  (fun e V h => by
   cases hr : OrF0 T x with
   | none =>
    rw [hr] at h
    obtain ⟨bv', rfl, q0, m0, d0, q1, m1, d1, rfl⟩ := h
    exact ⟨_, _, _, rfl, rfl, by simp [Value.oneCell']⟩
   | some y =>
    rw [hr] at h
    obtain ⟨bv', A', c', rfl, ⟨q0, m0, d0, q1, m1, d1, rfl⟩, _, _⟩ := h
    exact ⟨_, _, _, rfl, rfl, by simp [Value.oneCell']⟩)
  (fun V hV => by
   have hKV := hK.more hV
   have hAV := hA.more hV
   have hTV := hAT.more hV
   by_cases h16 : T.length < 16
   ·
    have e0 : OrF0 T x = none := by unfold OrF0; rw [if_pos h16]
    rw [e0]
    refine (refAsk0_end kl T.length h16 back AK A AT cK c cT V).mono ?_
    rintro e V' ⟨rfl, hb⟩
    exact ⟨⟨_, rfl, _, _, _, _, _, _, rfl⟩, hb⟩
   ·
    have e0 : OrF0 T x = some (T.take 16) := by unfold OrF0; rw [if_neg h16]
    rw [e0]
    obtain ⟨bt, ot, rfl, hBs⟩ := hTV (by intro h; rw [h] at h16; simp at h16)
    refine (refAsk0_ok key x T kl T.length hkl hk0 hk9 hx rfl (by omega) hT back AK A bt ot cK c cT hcT V hKV hAV hBs).mono ?_
    rintro e V' ⟨⟨R, cR, A', cT', v, rfl, hrow, hAT', hcT', hown⟩, hb⟩
    have hyl : (T.take 16).length = 16 := by rw [List.length_take]; omega
    obtain ⟨gv, cv, rfl, hgv, hcv, hgvl, hBv⟩ := hown.form (by intro h; rw [h] at hyl; cases hyl)
    rw [hyl]
    refine ⟨⟨_, _, _, rfl, ⟨_, _, _, _, _, _, rfl⟩, fun _ => ⟨_, _, rfl, hBv⟩, hKV.more hb, h16, R, cR, A', cT', ?_, by rw [List.length_drop]; exact hcT', hAT', hrow⟩, hb⟩
    rw [List.length_drop])
  (fun e V V' h hB ho => by
   cases hr : OrF0 T x with
   | none => rw [hr] at h; exact h
   | some y =>
    rw [hr] at h
    obtain ⟨bv', A', c', rfl, hbk, hAy, hS⟩ := h
    exact ⟨bv', A', c', rfl, hbk, hAy.book hB ho, (rf1_ok AK key T back x).only _ _ _ _ _ _ _ _ _ _ hS hB ho⟩)
 exact key'

theorem rf_second (kl : Nat) (AK : Option Addr) (cK : Nat) (key T : List Nat) (hkl : key.length = kl) (hk0 : 0 < kl) (hk9 : kl ≤ 1000) (hkb : Byt key) (hT : T.length ≤ 100000) (bT : Byt T) (back : Bool) (x : List Nat) (hx : x.length = 16) (bx : Byt x) : RefStep 3 kl AK cK back (Rf1 AK key T back x) (OrF1 T x) (fun _ _ _ => True) := by
 rintro W bv A c z hz bz ⟨hK, h16, R, cR, AT, cT, rfl, hcT, hAT, hrow⟩ hA
 have hyl : (T.take 16).length = 16 := by rw [List.length_take]; omega
 have by' : Byt (T.take 16) := fun c hc => bT c (List.mem_of_mem_take hc)
 have bd : Byt (T.drop 16) := fun c hc => bT c (List.mem_of_mem_drop hc)
 have hR : ∃ gr, R = some ⟨gr, 0, none⟩ := by
  obtain ⟨g, _, _, _, _, _, _, e, _⟩ := hrow
  exact ⟨g, e⟩
 obtain ⟨gr, rfl⟩ := hR
 have key' := refDo3_any kl (some ⟨gr, 0, none⟩) AT AK A 1 (T.drop 16).length cR cT cK c back W
  (fun e V => match OrF1 T x z with
   | some y => ∃ bv' A' c', e = .returned (.tuple #[bv', .slice A' 16 c', .bool true]) ∧ BookV bv' ∧ At V A' y
   | none => ∃ bv', e = .returned (.tuple #[bv', .slice none 0 0, .bool false]) ∧ BookV bv')
  (fun e V h => by
   cases hr : OrF1 T x z with
   | none =>
    rw [hr] at h
    obtain ⟨bv', rfl, q0, m0, d0, q1, m1, d1, rfl⟩ := h
    exact ⟨_, _, _, rfl, rfl, by simp [Value.oneCell']⟩
   | some y =>
    rw [hr] at h
    obtain ⟨bv', A', c', rfl, ⟨q0, m0, d0, q1, m1, d1, rfl⟩, _⟩ := h
    exact ⟨_, _, _, rfl, rfl, by simp [Value.oneCell']⟩)
  (fun V hV => by
   have ha := refAsk1_any (T.drop 16).length (T.drop 16) (T.drop 16).length rfl (Nat.le_refl _) (by rw [List.length_drop]; omega) bd key (if back then T.take 16 else x) (if back then x else T.take 16) z kl hkl hk0 hk9 (by split <;> assumption) (by split <;> assumption) hz hkb (by split <;> assumption) (by split <;> assumption) bz back
    AK A AT gr cR cK c cT hcT V (hK.more hV) (hA.more hV) (hAT.more hV) (hrow.more hV)
   have e1 : (if back then (if back then x else T.take 16) else (if back then T.take 16 else x)) = x := by cases back <;> rfl
   have e2 : (if back then (if back then T.take 16 else x) else (if back then x else T.take 16)) = T.take 16 := by cases back <;> rfl
   rw [e1, e2] at ha
   exact ha)
  (fun e V V' h hB ho => by
   cases hr : OrF1 T x z with
   | none => rw [hr] at h; exact h
   | some y =>
    rw [hr] at h
    obtain ⟨bv', A', c', rfl, hbk, hAy⟩ := h
    exact ⟨bv', A', c', rfl, hbk, hAy.book hB ho⟩)
 refine key'.mono ?_
 rintro e V ⟨h, hb⟩
 refine ⟨?_, hb⟩
 cases hr : OrF1 T x z with
 | none => rw [hr] at h; exact h
 | some y =>
  rw [hr] at h
  obtain ⟨bv', A', c', rfl, hbk, hAy⟩ := h
  exact ⟨bv', A', c', rfl, hbk, hAy, trivial⟩

/-- AES: both sides' steps -/
def aesF (key : List Nat) (back : Bool) (x : List Nat) : Option (List Nat) := some (aesN key x back)
theorem aesF_good {key : List Nat} (hkb : Byt key) (back : Bool) : Good16 (aesF key back) := fun x y hx bx h => by
 injection h with h
 subst h
 exact ⟨aesN_len _ _ _, aesN_byt hkb hx bx back⟩
theorem rf_aes (AK : Option Addr) (cK : Nat) (key : List Nat) (kl nr : Nat) (hk : AesK kl nr) (hkl : key.length = kl) (hkb : Byt key) (back : Bool) : RefStep 1 kl AK cK back (RfA AK key) (aesF key back) (fun _ => RfA AK key) := by
 rintro W bv A c x hx bx ⟨hK, r0, n0, c0, r1, n1, c1, rfl⟩ hA
 have fin : ∀ (e : Ending) (V : World), (∃ gv cv, e = .returned (.tuple #[.agg #[.slice r0 n0 c0, .slice r1 n1 c1], .slice (some ⟨gv, 0, none⟩) 16 cv, .bool true]) ∧ W.heap.size ≤ gv ∧ gv < V.heap.size ∧ 16 ≤ cv ∧ Bs V gv 0 (aesN key x back)) ∧ Below W.heap.size W V →
     (∃ bv' A' c', e = .returned (.tuple #[bv', .slice A' 16 c', .bool true]) ∧ BookV bv' ∧ At V A' (aesN key x back) ∧ RfA AK key bv' V) ∧ Below W.heap.size W V := by
  rintro e V ⟨⟨gv, cv, rfl, _, _, _, hB⟩, hb⟩
  exact ⟨⟨_, _, _, rfl, ⟨_, _, _, _, _, _, rfl⟩, fun _ => ⟨_, _, rfl, hB⟩, hK.more hb, ⟨_, _, _, _, _, _, rfl⟩⟩, hb⟩
 cases back
 ·
  exact (refDo1e_any key kl nr hk hkl hkb x hx bx AK A cK c r0 r1 n0 n1 c0 c1 W hK hA).mono fin
 ·
  exact (refDo1d_any key kl nr hk hkl hkb x hx bx AK A cK c r0 r1 n0 n1 c0 c1 W hK hA).mono fin
def AesS (w : World) (g : Nat) (key : List Nat) (bk : Value) (W : World) : Prop := Below w.heap.size w W ∧ CipherAt W g 1 key bk
theorem aesS_ok (w : World) (g : Nat) (key : List Nat) (bk : Value) : StOk w (AesS w g key bk) where
 more := fun _ _ h hb => ⟨h.1.trans (hb.mono h.1.size), h.2.below hb (Nat.le_refl _)⟩
 size := fun _ h => h.1.size
theorem aes_step (w : World) (g : Nat) (key : List Nat) (kl nr : Nat) (hk : AesK kl nr) (hkl : key.length = kl) (hkb : Byt key) (bk : Value) (back : Bool) (T : World → Prop) : DoStep g back (AesS w g key bk) (aesF key back) (fun _ => AesS w g key bk) T := by
 intro W A c x hx bx hS hA
 refine (doA_any g key kl nr hk hkl hkb bk x hx bx back A c W hS.2 hA).mono ?_
 rintro e V ⟨⟨gv, rfl, hgv, hBv⟩, hb⟩
 exact ⟨⟨gv, rfl, hgv, hBv⟩, (aesS_ok w g key bk).more _ _ hS hb⟩
end Go.Proofs.YthodpjcdmdbnoaaGreatDoor

/- pin.Four and pin.OpenFour, where something is wrong ahead of the cipher. -/
namespace Go.Proofs.YthodpjcdmdbnoaaGreatDoor
open Go Go.RowKit Pr

set_option maxHeartbeats 1000000 in
theorem four_two (g : Nat) (p a : Value) (fill : List Nat) (w : World) (hsz : ∀ W, Below w.heap.size w W → Calls Tryz.prog 24 #[.pointer (some ⟨g, 0, none⟩)] W fun e w' => e = .returned (.int .i64 8) ∧ W = w') :
    Calls Tryz.prog 9 #[.pointer (some ⟨g, 0, none⟩), p, a, .agg (byteCells fill)] w fun e w' => (∃ v, e = .returned (.tuple #[.slice none 0 0, v]) ∧ ErIs w' w.heap.size v (.no 1)) ∧ Below w.heap.size w w' := by
 have HSZ := Lib.hid hsz; clear hsz
 have hb := (Below.refl w.heap.size w).alloc (Nat.le_refl _) (.cells (byteCells fill) 23)
 go_enter Tryz.func9, Tryz.ntmps9
 go_wp2_with fail
 refine (HSZ.out _ hb).mono ?_
 rintro e w1 ⟨rfl, rfl⟩
 go_wp2
 go_ret2
 exact ⟨⟨_, rfl, rfl⟩, hb⟩

set_option maxHeartbeats 1000000 in
theorem four_no (g : Nat) (p a : ByteArray) (hp : p.size ≤ 1000) (ha : a.size ≤ 1000) (er : Er) (her : bothEr p.data.toList a.data.toList = er) (hno : er ≠ .ok) (fill : List Nat) (w : World) (hsz : ∀ W, Below w.heap.size w W → Calls Tryz.prog 24 #[.pointer (some ⟨g, 0, none⟩)] W fun e w' => e = .returned (.int .i64 16) ∧ W = w') :
    Calls Tryz.prog 9 #[.pointer (some ⟨g, 0, none⟩), .string p, .string a, .agg (byteCells fill)] w fun e w' => (∃ v, e = .returned (.tuple #[.slice none 0 0, v]) ∧ ErIs w' w.heap.size v er) ∧ Below w.heap.size w w' := by
 have HSZ := Lib.hid hsz; clear hsz
 have HB := Lib.hid (fun W => both_any p a (by omega) (by omega) W)
 rw [her] at HB
 clear her
 have hb := (Below.refl w.heap.size w).alloc (Nat.le_refl _) (.cells (byteCells fill) 23)
 go_enter Tryz.func9, Tryz.ntmps9
 go_wp2_with fail
 refine (HSZ.out _ hb).mono ?_
 rintro e w1 ⟨rfl, rfl⟩
 go_wp2_with fail
 refine (HB.out _).mono ?_
 rintro e w2 ⟨⟨v, rfl, hv⟩, hb2⟩
 have hb02 := hb.trans (hb2.mono hb.size)
 have hv2 := hv.more hb.size
 clear hv hb2
 cases er with
 | ok => exact absurd rfl hno
 | no n =>
  obtain rfl : v = _ := hv2
  go_wp2
  go_ret2
  exact ⟨⟨_, rfl, rfl⟩, hb02⟩
 | fa k n =>
  obtain ⟨g1, rfl, hg1, hB1⟩ := hv2
  go_wp2
  go_ret2
  exact ⟨⟨_, rfl, g1, rfl, hg1, hB1⟩, hb02⟩

set_option maxHeartbeats 1000000 in
theorem open_two (g : Nat) (b a : Value) (w : World) (hsz : Calls Tryz.prog 24 #[.pointer (some ⟨g, 0, none⟩)] w fun e w' => e = .returned (.int .i64 8) ∧ w = w') :
    Calls Tryz.prog 10 #[.pointer (some ⟨g, 0, none⟩), b, a] w fun e w' => (∃ v, e = .returned (.tuple #[.string ⟨#[]⟩, v]) ∧ ErIs w' w.heap.size v (.no 1)) ∧ Below w.heap.size w w' := by
 have HSZ := Lib.hid hsz; clear hsz
 go_enter Tryz.func10, Tryz.ntmps10
 go_wp2_with fail
 refine (HSZ.out).mono ?_
 rintro e w1 ⟨rfl, rfl⟩
 go_wp2
 go_ret2
 exact ⟨⟨_, rfl, rfl⟩, Below.refl _ _⟩

set_option maxHeartbeats 1000000 in
/-- the account is wrong, or the block has not sixteen bytes -/
theorem open_no (g : Nat) (A : Option Addr) (n cb : Nat) (a : ByteArray) (ha : a.size ≤ 1000) (er : Er) (her : (match decEr a.data.toList 13 19 with | .ok => if n = 16 then .ok else .no 2 | x => x) = er) (hno : er ≠ .ok) (w : World) (hsz : Calls Tryz.prog 24 #[.pointer (some ⟨g, 0, none⟩)] w fun e w' => e = .returned (.int .i64 16) ∧ w = w') :
    Calls Tryz.prog 10 #[.pointer (some ⟨g, 0, none⟩), .slice A n cb, .string a] w fun e w' => (∃ v, e = .returned (.tuple #[.string ⟨#[]⟩, v]) ∧ ErIs w' w.heap.size v er) ∧ Below w.heap.size w w' := by
 have HSZ := Lib.hid hsz; clear hsz
 have HB := Lib.hid (account_any a (by omega) w)
 go_enter Tryz.func10, Tryz.ntmps10
 go_wp2_with fail
 refine (HSZ.out).mono ?_
 rintro e w1 ⟨rfl, rfl⟩
 go_wp2_with fail
 refine (HB.out).mono ?_
 rintro e w2 ⟨⟨v, rfl, hv⟩, hb2⟩
 cases hd : decEr a.data.toList 13 19 with
 | ok =>
  rw [hd] at hv her
  obtain rfl : v = _ := hv
  have hn : ¬ n = 16 := fun h => hno (by rw [← her]; simp [h])
  have e1 : er = .no 2 := by rw [← her]; simp [hn]
  subst e1
  have h1 : ((n : Int) != 16) = true := by rw [bne_iff_ne]; omega
  clear hn hno hd her
  go_wp2
  go_ret2
  exact ⟨⟨_, rfl, rfl⟩, hb2⟩
 | no m =>
  rw [hd] at hv her
  obtain rfl : Er.no m = er := her
  obtain rfl : v = _ := hv
  go_wp2
  go_ret2
  exact ⟨⟨_, rfl, rfl⟩, hb2⟩
 | fa k m =>
  rw [hd] at hv her
  obtain rfl : Er.fa k m = er := her
  obtain ⟨g1, rfl, hg1, hB1⟩ := hv
  go_wp2
  go_ret2
  exact ⟨⟨_, rfl, g1, rfl, hg1, hB1⟩, hb2⟩
end Go.Proofs.YthodpjcdmdbnoaaGreatDoor

/- pin.Four and pin.OpenFour, the document's too, over both kinds of ciphers of sixteen bytes. -/
namespace Go.Proofs.YthodpjcdmdbnoaaGreatDoor
open Go Go.RowKit Pr

def OrG1 (T : List Nat) (x z : List Nat) : Option (List Nat) := if T.length < 16 then none else OrF1 T x z
theorem orG1_good {T : List Nat} (hT : Byt T) (x : List Nat) : Good16 (OrG1 T x) := fun z y hz bz h => by
 unfold OrG1 at h
 split at h
 ·
  cases h
 ·
  rename_i h16
  exact orF1_good h16 hT x z y hz bz h
def OrS1 (w : World) (g gk cp bp tp tb : Nat) (key T : List Nat) (back : Bool) (x : List Nat) (W : World) : Prop := Or1 w g gk cp bp tp tb key T back x W ∧ ¬ T.length < 16 ∧ x.length = 16 ∧ Byt x
def RfS1 (AK : Option Addr) (key T : List Nat) (back : Bool) (x : List Nat) (bv : Value) (W : World) : Prop := Rf1 AK key T back x bv W ∧ x.length = 16 ∧ Byt x
theorem orS1_ok {w : World} {g gk cp bp tp tb : Nat} {key T : List Nat} {back : Bool} (hk : key ≠ []) (x : List Nat) : StOk w (OrS1 w g gk cp bp tp tb key T back x) where
 more := fun _ _ h hb => ⟨(or1_ok hk x).more _ _ h.1 hb, h.2⟩
 size := fun _ h => (or1_ok hk x).size _ h.1
theorem rfS1_ok (AK : Option Addr) (key T : List Nat) (back : Bool) (x : List Nat) : RfOk (RfS1 AK key T back x) where
 more := fun _ _ _ h hb => ⟨(rf1_ok AK key T back x).more _ _ _ h.1 hb, h.2⟩
 only := fun _ _ _ _ _ _ _ _ _ _ h hB ho => ⟨(rf1_ok AK key T back x).only _ _ _ _ _ _ _ _ _ _ h.1 hB ho, h.2⟩
 book := fun _ _ h => (rf1_ok AK key T back x).book _ _ h.1
theorem orF0_some {T x y : List Nat} (h : OrF0 T x = some y) : ¬ T.length < 16 := by
 unfold OrF0 at h
 split at h
 ·
  cases h
 ·
  assumption

theorem or_stepA (w : World) (g gk cp bp tp tb : Nat) (key T : List Nat) (kl : Nat) (hkl : key.length = kl) (hk0 : 0 < kl) (hcp : kl ≤ cp) (hkb : Byt key) (hT : T.length ≤ 100000) (back : Bool) (ho : OrAt w g gk bp tp tb) :
    DoStep g back (Or0 w g gk cp bp tp tb key T) (OrF0 T) (OrS1 w g gk cp bp tp tb key T back) (Fr3 bp tp bp w) := by
 intro W A c x hx bx hS hA
 refine (or_first w g gk cp bp tp tb key T kl hkl hk0 hcp hkb hT back ho W A c x hx bx hS hA).mono ?_
 intro e V h
 cases hr : OrF0 T x with
 | none => rw [hr] at h; exact h
 | some y => rw [hr] at h; exact ⟨h.1, h.2, orF0_some hr, hx, bx⟩
theorem or_stepB (w : World) (g gk cp bp tp tb : Nat) (key T : List Nat) (kl : Nat) (hkl : key.length = kl) (hk0 : 0 < kl) (hcp : kl ≤ cp) (hkb : Byt key) (hT : T.length ≤ 100000) (bT : Byt T) (back : Bool) (ho : OrAt w g gk bp tp tb) (x : List Nat) :
    DoStep g back (OrS1 w g gk cp bp tp tb key T back x) (OrG1 T x) (fun _ => Fr3 bp tp bp w) (Fr3 bp tp bp w) := by
 intro W A c z hz bz hS hA
 obtain ⟨h1, h16, hx, bx⟩ := hS
 have e1 : OrG1 T x z = OrF1 T x z := by unfold OrG1; rw [if_neg h16]
 rw [e1]
 exact or_second w g gk cp bp tp tb key T kl hkl hk0 hcp hkb hT bT h16 back ho x hx bx W A c z hz bz h1 hA
theorem rf_stepA (kl : Nat) (AK : Option Addr) (cK : Nat) (key T : List Nat) (hkl : key.length = kl) (hk0 : 0 < kl) (hk9 : kl ≤ 1000) (hT : T.length ≤ 100000) (back : Bool) : RefStep 3 kl AK cK back (Rf0 AK key T) (OrF0 T) (RfS1 AK key T back) := by
 intro W bv A c x hx bx hS hA
 refine (rf_first kl AK cK key T hkl hk0 hk9 hT back W bv A c x hx bx hS hA).mono ?_
 intro e V h
 refine ⟨?_, h.2⟩
 have h1 := h.1
 cases hr : OrF0 T x with
 | none => rw [hr] at h1; exact h1
 | some y =>
  rw [hr] at h1
  obtain ⟨bv', A', c', q1, q2, q3, q4⟩ := h1
  exact ⟨bv', A', c', q1, q2, q3, q4, hx, bx⟩
theorem rf_stepB (kl : Nat) (AK : Option Addr) (cK : Nat) (key T : List Nat) (hkl : key.length = kl) (hk0 : 0 < kl) (hk9 : kl ≤ 1000) (hkb : Byt key) (hT : T.length ≤ 100000) (bT : Byt T) (back : Bool) (x : List Nat) : RefStep 3 kl AK cK back (RfS1 AK key T back x) (OrG1 T x) (fun _ _ _ => True) := by
 intro W bv A c z hz bz hS hA
 obtain ⟨h1, hx, bx⟩ := hS
 have h16 := h1.2.1
 have e1 : OrG1 T x z = OrF1 T x z := by unfold OrG1; rw [if_neg h16]
 rw [e1]
 exact rf_second kl AK cK key T hkl hk0 hk9 hkb hT bT back x hx bx W bv A c z hz bz h1 hA

/-- what a cipher of that kind answers first, and then -/
def kF0 (n : Nat) (key T : List Nat) (back : Bool) : List Nat → Option (List Nat) := if n = 1 then aesF key back else OrF0 T
def kF1 (n : Nat) (key T : List Nat) (back : Bool) (x : List Nat) : List Nat → Option (List Nat) := if n = 1 then aesF key back else OrG1 T x
/-- a cipher with its key, its book and its tape -/
structure Ciph (w : World) (n g gk ck bp tp tb : Nat) (key T : List Nat) : Prop where
 kl : key.length = 16
 kb : Byt key
 hc : 16 ≤ ck
 c : Blk w g 62 #[.int .i64 (n : Int), .slice (some ⟨gk, 0, none⟩) 16 ck, .pointer (some ⟨bp, 0, none⟩)]
 k : Bs w gk 0 key
 b : Book0 w bp tp
 t : TapeAt w tp tb T
 a : OrAt w g gk bp tp tb
 tl : T.length ≤ 100000
 tb : Byt T
theorem Ciph.at_ {w : World} {n g gk ck bp tp tb : Nat} {key T : List Nat} (h : Ciph w n g gk ck bp tp tb key T) : CipherAt w g n key (.pointer (some ⟨bp, 0, none⟩)) := ⟨gk, ck, by rw [h.kl]; exact h.c, by rw [h.kl]; exact h.hc, h.k, h.a.l2⟩
theorem Ciph.ne {w : World} {n g gk ck bp tp tb : Nat} {key T : List Nat} (h : Ciph w n g gk ck bp tp tb key T) : key ≠ [] := ne_nil h.kl (by omega)
theorem Ciph.or0 {w : World} {g gk ck bp tp tb : Nat} {key T : List Nat} (h : Ciph w 3 g gk ck bp tp tb key T) : Or0 w g gk ck bp tp tb key T w :=
 ⟨⟨⟨rfl, rfl, rfl, Nat.le_refl _, fun _ _ _ _ _ => rfl⟩, by rw [h.kl]; exact h.c, h.k⟩, h.b, h.t⟩
theorem OrAt.more {w w' : World} {g gk bp tp tb : Nat} (h : OrAt w g gk bp tp tb) (hs : w.heap.size ≤ w'.heap.size) : OrAt w' g gk bp tp tb :=
 ⟨Nat.lt_of_lt_of_le h.l1 hs, Nat.lt_of_lt_of_le h.l2 hs, Nat.lt_of_lt_of_le h.l3 hs, Nat.lt_of_lt_of_le h.l4 hs, Nat.lt_of_lt_of_le h.l5 hs, h.n1, h.n2, h.n3, h.n4⟩
/-- .. behind what left these blocks -/
theorem Ciph.keep {w w' : World} {n g gk ck bp tp tb : Nat} {key T : List Nat} (h : Ciph w n g gk ck bp tp tb key T) (hs : w.heap.size ≤ w'.heap.size) (hk : ∀ k, k < w.heap.size → k = g ∨ k = gk ∨ k = bp ∨ k = tp ∨ k = tb → w'.heap[k]? = w.heap[k]?) : Ciph w' n g gk ck bp tp tb key T where
 kl := h.kl
 kb := h.kb
 hc := h.hc
 c := (hk g h.a.l1 (.inl rfl)).trans h.c
 k := fun j v hv => (World.cell?_of_block (hk gk h.a.l2 (.inr (.inl rfl)))).trans (h.k j v hv)
 b := (hk bp h.a.l3 (.inr (.inr (.inl rfl)))).trans h.b
 t := h.t.same (hk tp h.a.l4 (.inr (.inr (.inr (.inl rfl))))) (fun _ => hk tb h.a.l5 (.inr (.inr (.inr (.inr rfl)))))
 a := h.a.more hs
 tl := h.tl
 tb := h.tb
theorem Ciph.more {w w' : World} {n g gk ck bp tp tb : Nat} {key T : List Nat} (h : Ciph w n g gk ck bp tp tb key T) (hb : Below w.heap.size w w') : Ciph w' n g gk ck bp tp tb key T :=
 h.keep hb.size (fun k hk _ => hb.block k hk)

/-- a block that pin.Four answers, or that the tape is short -/
def FourOut (B : Nat) (r : Option (List Nat)) (e : Ending) (W : World) : Prop := match r with
 | some z => ∃ gv, e = .returned (.tuple #[.slice (some ⟨gv, 0, none⟩) 16 16, .nilIface]) ∧ B ≤ gv ∧ Blk W gv 113 (byteCells z)
 | none => ∃ v k, e = .returned (.tuple #[.slice none 0 0, v]) ∧ ErIs W B v (.fa k 13)
/-- a PIN that pin.OpenFour answers, or what is wrong -/
def OpenOut (B : Nat) (r : Option (List Nat)) (e : Ending) (W : World) : Prop := match r with
 | some y => ∃ v, e = .returned (.tuple #[.string (str (readStr (nibN y) 4)), v]) ∧ ErIs W B v (readEr (nibN y) 4)
 | none => ∃ v k, e = .returned (.tuple #[.string ⟨#[]⟩, v]) ∧ ErIs W B v (.fa k 13)

theorem four14 (n g gk ck bp tp tb : Nat) (hn : n = 1 ∨ n = 3) (key T : List Nat) (p a : ByteArray) (hp4 : 4 ≤ p.size) (hp12 : p.size ≤ 12) (hpd : ∀ c ∈ p.data.toList, isDec c = true) (h13 : 13 ≤ a.size) (h19 : a.size ≤ 19) (had : ∀ c ∈ a.data.toList, isDec c = true)
    (hok : bothEr p.data.toList a.data.toList = .ok) (fill : List Nat) (hfl : fill.length = 8) (hfb : ∀ c ∈ fill, c < 256) (w : World) (hC : Ciph w n g gk ck bp tp tb key T) :
    Calls Tryz.prog 9 #[.pointer (some ⟨g, 0, none⟩), .string p, .string a, .agg (byteCells fill)] w fun e w' =>
     FourOut w.heap.size (fourR (kF0 n key T false) (kF1 n key T false) p.data.toList a.data.toList fill) e w' ∧ Fr3 bp tp bp w w' := by
 rcases hn with rfl | rfl
 ·
  refine (fourG_any g (AesS w g key (.pointer (some ⟨bp, 0, none⟩))) (fun _ => AesS w g key (.pointer (some ⟨bp, 0, none⟩))) (AesS w g key (.pointer (some ⟨bp, 0, none⟩))) (aesF key false) (fun _ => aesF key false) p a hp4 hp12 hpd h13 h19 had hok fill hfl hfb w ⟨Below.refl _ _, hC.at_⟩ (aesS_ok _ _ _ _) (fun _ => aesS_ok _ _ _ _) (aesS_ok _ _ _ _) (aesF_good hC.kb _) (fun _ _ _ => aesF_good hC.kb _)
   (fun W hW => size_any 1 g (by omega) key _ W hW.2) (aes_step w g key 16 10 (.inl ⟨rfl, rfl⟩) hC.kl hC.kb _ false _) (fun _ => aes_step w g key 16 10 (.inl ⟨rfl, rfl⟩) hC.kl hC.kb _ false _)).mono ?_
  rintro e w' ⟨h1, h2⟩
  exact ⟨h1, fr3_below h2.1⟩
 ·
  refine (fourG_any g (Or0 w g gk ck bp tp tb key T) (OrS1 w g gk ck bp tp tb key T false) (Fr3 bp tp bp w) (OrF0 T) (OrG1 T) p a hp4 hp12 hpd h13 h19 had hok fill hfl hfb w hC.or0 (or0_ok hC.ne) (fun _ => orS1_ok hC.ne _) fr3_ok (orF0_good hC.tb) (fun x _ _ => orG1_good hC.tb x)
   (fun W hW => size_any 3 g (by omega) key (.pointer (some ⟨bp, 0, none⟩)) W ⟨gk, ck, hW.1.2.1, by rw [hC.kl]; exact hC.hc, hW.1.2.2, hW.1.2.2.lt hC.ne⟩) (or_stepA w g gk ck bp tp tb key T 16 hC.kl (by omega) hC.hc hC.kb hC.tl false hC.a) (fun x => or_stepB w g gk ck bp tp tb key T 16 hC.kl (by omega) hC.hc hC.kb hC.tl hC.tb false hC.a x)).mono ?_
  exact fun e w' h => h

theorem open14 (n g gk ck bp tp tb : Nat) (hn : n = 1 ∨ n = 3) (key T : List Nat) (b : List Nat) (hbl : b.length = 16) (hbb : Byt b) (A : Option Addr) (cb : Nat) (a : ByteArray) (h13 : 13 ≤ a.size) (h19 : a.size ≤ 19) (had : ∀ c ∈ a.data.toList, isDec c = true) (hok : decEr a.data.toList 13 19 = .ok)
    (w : World) (hA : At w A b) (hC : Ciph w n g gk ck bp tp tb key T) :
    Calls Tryz.prog 10 #[.pointer (some ⟨g, 0, none⟩), .slice A 16 cb, .string a] w fun e w' =>
     OpenOut w.heap.size (openR (kF0 n key T true) (kF1 n key T true) b a.data.toList) e w' ∧ Fr3 bp tp bp w w' := by
 rcases hn with rfl | rfl
 ·
  refine (openG_any g (AesS w g key (.pointer (some ⟨bp, 0, none⟩))) (fun _ => AesS w g key (.pointer (some ⟨bp, 0, none⟩))) (AesS w g key (.pointer (some ⟨bp, 0, none⟩))) (aesF key true) (fun _ => aesF key true) b hbl hbb A cb a h13 h19 had hok w hA ⟨Below.refl _ _, hC.at_⟩ (aesS_ok _ _ _ _) (fun _ => aesS_ok _ _ _ _) (aesS_ok _ _ _ _) (aesF_good hC.kb _) (fun _ _ _ => aesF_good hC.kb _)
   (fun W hW => size_any 1 g (by omega) key _ W hW.2) (aes_step w g key 16 10 (.inl ⟨rfl, rfl⟩) hC.kl hC.kb _ true _) (fun _ => aes_step w g key 16 10 (.inl ⟨rfl, rfl⟩) hC.kl hC.kb _ true _)).mono ?_
  rintro e w' ⟨h1, h2⟩
  exact ⟨h1, fr3_below h2.1⟩
 ·
  refine (openG_any g (Or0 w g gk ck bp tp tb key T) (OrS1 w g gk ck bp tp tb key T true) (Fr3 bp tp bp w) (OrF0 T) (OrG1 T) b hbl hbb A cb a h13 h19 had hok w hA hC.or0 (or0_ok hC.ne) (fun _ => orS1_ok hC.ne _) fr3_ok (orF0_good hC.tb) (fun x _ _ => orG1_good hC.tb x)
   (fun W hW => size_any 3 g (by omega) key (.pointer (some ⟨bp, 0, none⟩)) W ⟨gk, ck, hW.1.2.1, by rw [hC.kl]; exact hC.hc, hW.1.2.2, hW.1.2.2.lt hC.ne⟩) (or_stepA w g gk ck bp tp tb key T 16 hC.kl (by omega) hC.hc hC.kb hC.tl true hC.a) (fun x => or_stepB w g gk ck bp tp tb key T 16 hC.kl (by omega) hC.hc hC.kb hC.tl hC.tb true hC.a x)).mono ?_
  exact fun e w' h => h

theorem refFour14 (n : Nat) (hn : n = 1 ∨ n = 3) (key T : List Nat) (hkl : key.length = 16) (hkb : Byt key) (AK AT : Option Addr) (cK cT : Nat) (hcT : T.length ≤ cT) (hT : T.length ≤ 100000) (bT : Byt T) (p a : ByteArray) (hp12 : p.size ≤ 12) (hpd : ∀ c ∈ p.data.toList, isDec c = true) (h13 : 13 ≤ a.size) (h19 : a.size ≤ 19) (had : ∀ c ∈ a.data.toList, isDec c = true)
    (fill : List Nat) (hfl : fill.length = 8) (hfb : ∀ c ∈ fill, c < 256) (w : World) (hK : At w AK key) (hAT : At w AT T) :
    Calls Tryz.prog 14 #[.int .i64 (n : Int), .slice AK 16 cK, .agg #[.slice none 0 0, .slice AT T.length cT], .string p, .string a, .agg (byteCells fill)] w fun e w' =>
     RefOut (fourR (kF0 n key T false) (kF1 n key T false) p.data.toList a.data.toList fill) e w' ∧ Below w.heap.size w w' := by
 rcases hn with rfl | rfl
 ·
  exact refFourG_any 1 16 AK cK (RfA AK key) (fun _ => RfA AK key) (RfA AK key) (aesF key false) (fun _ => aesF key false) p a hp12 hpd h13 h19 had fill hfl hfb none AT 0 0 T.length cT w ⟨hK, _, _, _, _, _, _, rfl⟩ (rfA_ok _ _) (fun _ => rfA_ok _ _) (aesF_good hkb _)
   (rf_aes AK cK key 16 10 (.inl ⟨rfl, rfl⟩) hkl hkb false) (fun _ => rf_aes AK cK key 16 10 (.inl ⟨rfl, rfl⟩) hkl hkb false)
 ·
  exact refFourG_any 3 16 AK cK (Rf0 AK key T) (RfS1 AK key T false) (fun _ _ => True) (OrF0 T) (OrG1 T) p a hp12 hpd h13 h19 had fill hfl hfb none AT 0 0 T.length cT w ⟨hK, _, _, rfl, hcT, hAT⟩ (rf0_ok _ _ _) (fun _ => rfS1_ok _ _ _ _ _) (orF0_good bT)
   (rf_stepA 16 AK cK key T hkl (by omega) (by omega) hT false) (fun x => rf_stepB 16 AK cK key T hkl (by omega) (by omega) hkb hT bT false x)

theorem refOpen14 (n : Nat) (hn : n = 1 ∨ n = 3) (key T : List Nat) (hkl : key.length = 16) (hkb : Byt key) (AK AT : Option Addr) (cK cT : Nat) (hcT : T.length ≤ cT) (hT : T.length ≤ 100000) (bT : Byt T) (b : List Nat) (hbl : b.length = 16) (hbb : Byt b) (A : Option Addr) (cb : Nat) (a : ByteArray) (h13 : 13 ≤ a.size) (h19 : a.size ≤ 19) (had : ∀ c ∈ a.data.toList, isDec c = true)
    (w : World) (hA : At w A b) (hK : At w AK key) (hAT : At w AT T) :
    Calls Tryz.prog 17 #[.int .i64 (n : Int), .slice AK 16 cK, .agg #[.slice none 0 0, .slice AT T.length cT], .slice A 16 cb, .string a] w fun e w' =>
     e = .returned (RefOpenV (openR (kF0 n key T true) (kF1 n key T true) b a.data.toList)) ∧ Below w.heap.size w w' := by
 rcases hn with rfl | rfl
 ·
  exact refOpenG_any 1 16 AK cK (RfA AK key) (fun _ => RfA AK key) (RfA AK key) (aesF key true) (fun _ => aesF key true) b hbl hbb A cb a h13 h19 had none AT 0 0 T.length cT w hA ⟨hK, _, _, _, _, _, _, rfl⟩ (rfA_ok _ _) (fun _ => rfA_ok _ _) (aesF_good hkb _) (fun _ _ _ => aesF_good hkb _)
   (rf_aes AK cK key 16 10 (.inl ⟨rfl, rfl⟩) hkl hkb true) (fun _ => rf_aes AK cK key 16 10 (.inl ⟨rfl, rfl⟩) hkl hkb true)
 ·
  exact refOpenG_any 3 16 AK cK (Rf0 AK key T) (RfS1 AK key T true) (fun _ _ => True) (OrF0 T) (OrG1 T) b hbl hbb A cb a h13 h19 had none AT 0 0 T.length cT w hA ⟨hK, _, _, rfl, hcT, hAT⟩ (rf0_ok _ _ _) (fun _ => rfS1_ok _ _ _ _ _) (orF0_good bT) (fun x _ _ => orG1_good bT x)
   (rf_stepA 16 AK cK key T hkl (by omega) (by omega) hT true) (fun x => rf_stepB 16 AK cK key T hkl (by omega) (by omega) hkb hT bT true x)
end Go.Proofs.YthodpjcdmdbnoaaGreatDoor
