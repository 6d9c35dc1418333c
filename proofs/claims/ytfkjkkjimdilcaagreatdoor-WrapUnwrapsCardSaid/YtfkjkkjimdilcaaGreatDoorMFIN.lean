/- wrap.Unwrap and the document's Unwrap answer alike of whatever text. lockboxlaw11.WrapUnwraps: the walk. lockboxlaw11.WrapUnwraps: its cases. -/
import Derived.Test.YtfkjkkjimdilcaaGreatDoorMUN
import Derived.Test.YtfkjkkjimdilcaaGreatDoorMRU
import Derived.Test.YtfkjkkjimdilcaaGreatDoorMLaw11
set_option maxHeartbeats 8000000
set_option maxRecDepth 100000
/- wrap.Unwrap and the document's Unwrap answer alike of whatever text. -/
namespace Go.Proofs.YtfkjkkjimdilcaaGreatDoor
open Go Go.RowKit Pr

/-- the value of a named error, as a thing that later memory does not touch -/
theorem er_case (er : Er) : (∀ W W' u, (fun (W : World) (u : Value) => ∃ B, ErIs W B u er) W u → Below W.heap.size W W' → (fun (W : World) (u : Value) => ∃ B, ErIs W B u er) W' u)
    ∧ (∀ W u, EtOk W → (∃ B, ErIs W B u er) → Calls Tryz.prog 22 #[u] W fun e w' => e = .returned (.int .i64 (erCode er)) ∧ Below W.heap.size W w')
    ∧ (∀ W u, EtOk W → (∃ B, ErIs W B u er) → Calls Tryz.prog 23 #[u] W fun e w' => e = .returned (.int .i64 (erAt er)) ∧ Below W.heap.size W w') := by
 refine ⟨?_, ?_, ?_⟩
 ·
  rintro W W' u ⟨B, h⟩ hb; exact ⟨B, h.below hb (Nat.le_refl _)⟩
 ·
  rintro W u hG ⟨B, h⟩; exact code_any u er B W h hG
 ·
  rintro W u hG ⟨B, h⟩; exact at_any u er B W h hG

/-- wrap.Unwrap and the document's Unwrap answer alike of the text s, under the key wk -/
def Agree (s : ByteArray) (wk : List Nat) : Prop := ∃ (h : Hd) (L : List Nat) (LL : Nat) (why at_ : Int) (EV : World → Value → Prop), Byt L ∧ L.length = LL ∧ LL ≤ 1000
    ∧ (∀ W W' u, EV W u → Below W.heap.size W W' → EV W' u)
    ∧ (∀ A0 c0 W, At W A0 wk → EtOk W → Calls Tryz.prog 15 #[.slice A0 wk.length c0, .string s] W fun e w' => (∃ A c u, e = .returned (.tuple #[.agg h.cells, .slice A LL c, u]) ∧ At w' A L ∧ EV w' u) ∧ Below W.heap.size W w')
    ∧ (∀ A0 c0 W, wk.length ≤ c0 → At W A0 wk → Calls Tryz.prog 26 #[.slice A0 wk.length c0, .string s] W fun e w' => (∃ A c, e = .returned (.tuple #[.agg h.cells, .slice A LL c, .int .i64 why, .int .i64 at_]) ∧ At w' A L) ∧ Below W.heap.size W w')
    ∧ (∀ W u, EtOk W → EV W u → Calls Tryz.prog 22 #[u] W fun e w' => e = .returned (.int .i64 why) ∧ Below W.heap.size W w')
    ∧ (∀ W u, EtOk W → EV W u → Calls Tryz.prog 23 #[u] W fun e w' => e = .returned (.int .i64 at_) ∧ Below W.heap.size W w')

/-- what is wrong with no head and no key -/
theorem agree_no (s : ByteArray) (wk : List Nat) (er : Er)
    (hU : ∀ A0 c0 W, At W A0 wk → EtOk W → Calls Tryz.prog 15 #[.slice A0 wk.length c0, .string s] W fun e w' => (∃ u, e = .returned (.tuple #[.agg Hd.zero.cells, .slice none 0 0, u]) ∧ ErIs w' W.heap.size u er) ∧ Below W.heap.size W w')
    (hR : ∀ A0 c0 W, wk.length ≤ c0 → At W A0 wk → Calls Tryz.prog 26 #[.slice A0 wk.length c0, .string s] W fun e w' => e = .returned (.tuple #[.agg Hd.zero.cells, .slice none 0 0, .int .i64 (erCode er), .int .i64 (erAt er)]) ∧ Below W.heap.size W w') : Agree s wk := by
 obtain ⟨h1, h2, h3⟩ := er_case er; refine ⟨Hd.zero, [], 0, erCode er, erAt er, fun W u => ∃ B, ErIs W B u er, (fun c h => by cases h), rfl, by omega, h1, ?_, ?_, h2, h3⟩
 ·
  intro A0 c0 W hA hG; refine (hU A0 c0 W hA hG).mono ?_; rintro e w' ⟨⟨u, rfl, hu⟩, hb'⟩; exact ⟨⟨none, 0, u, rfl, fun h => absurd rfl h, _, hu⟩, hb'⟩
 ·
  intro A0 c0 W hc hA; refine (hR A0 c0 W hc hA).mono ?_; rintro e w' ⟨rfl, hb'⟩; exact ⟨⟨none, 0, rfl, fun h => absurd rfl h⟩, hb'⟩

theorem parseEr_no {s : ByteArray} (hs : 16 ≤ s.size) (h : parseEr s ≠ .ok) : ∃ p : Nat, parseEr s = .fa p 6 ∧ p ≤ 1500 := by
 unfold parseEr at h ⊢
 rw [if_neg (by omega)] at h ⊢
 unfold pE at h ⊢
 rcases rightEr_cases (hdOf s) with hr | ⟨k, hr, hk⟩
 ·
  rw [hr] at h ⊢
  split
  ·
   rename_i h1; cases h1
  ·
   split
   ·
    exact ⟨1, rfl, by omega⟩
   ·
    rename_i h1 h2
    rw [if_neg h1, if_neg h2] at h; rw [if_pos (show isOk Er.ok = true from rfl)] at h ⊢
    split
    ·
     rename_i h3; rw [if_pos h3] at h; exact absurd rfl h
    ·
     exact ⟨12, rfl, by omega⟩
 ·
  rw [hr]
  split
  ·
   exact ⟨k, rfl, by omega⟩
  ·
   split
   ·
    exact ⟨1, rfl, by omega⟩
   ·
    rw [if_neg (by intro hc; cases hc)]; exact ⟨k, rfl, by omega⟩

theorem no_case {s : ByteArray} {n c0 : Nat} {A0 : Option Addr} {w : World} {k : Nat} (h : Calls Tryz.prog 15 #[.slice A0 n c0, .string s] w fun e w' => e = .returned (.tuple #[.agg Hd.zero.cells, .slice none 0 0, .iface 64 (.int .i64 (k : Int))]) ∧ Below w.heap.size w w') :
    Calls Tryz.prog 15 #[.slice A0 n c0, .string s] w fun e w' => (∃ u, e = .returned (.tuple #[.agg Hd.zero.cells, .slice none 0 0, u]) ∧ ErIs w' w.heap.size u (.no k)) ∧ Below w.heap.size w w' := by
 refine h.mono ?_; rintro e w' ⟨rfl, hb⟩; exact ⟨⟨_, rfl, rfl⟩, hb⟩

theorem agree_any (s : ByteArray) (hs : s.size ≤ 400) (wk : List Nat) (gw : Byt wk) (hn1 : wk.length ≤ 100) : Agree s wk := by
 by_cases h16 : s.size < 16
 ·
  have hps : parseEr s = .no 2 := by unfold parseEr; rw [if_pos h16]
  exact agree_no s wk (.no 2) (fun A0 c0 W _ hG => unwrap_head_bad s (by omega) _ hps rfl A0 _ c0 W hG) (fun A0 c0 W _ _ => refUnwrap_short s h16 A0 _ c0 W)
 have h16 : 16 ≤ s.size := by omega
 by_cases hps : parseEr s = .ok
 rotate_left
 ·
  obtain ⟨p, hp, hp2⟩ := parseEr_no h16 hps; exact agree_no s wk (.fa p 6) (fun A0 c0 W _ hG => unwrap_head_bad s (by omega) _ hp rfl A0 _ c0 W hG) (fun A0 c0 W _ _ => refUnwrap_head_bad s h16 (by omega) p hp2 hp A0 _ c0 W)
 have hpn : parseN s = numOf s := by unfold parseN; rw [hps]; rfl
 obtain ⟨er, he⟩ : ∃ er, keysEr (hdOf s).ver.toNat wk.length = er := ⟨_, rfl⟩
 by_cases hne : er = .ok
 rotate_left
 ·
  obtain ⟨k, hk, -⟩ := keysEr_no he hne; refine agree_no s wk er (fun A0 c0 W _ hG => unwrap_keys_bad s (by omega) hps A0 _ c0 er he hne W hG) (fun A0 c0 W _ _ => ?_); have := refUnwrap_keys_bad s h16 (by omega) hps A0 wk.length c0 (by omega) er he hne W; subst hk; exact this
 subst hne; have hk := keysEr_ok gw he; obtain ⟨kind, hkd⟩ : ∃ kind, kindV (hdOf s).ver.toNat = kind := ⟨_, rfl⟩; rw [hkd] at hk; obtain ⟨z, hz⟩ : ∃ z, sizeN kind = z := ⟨_, rfl⟩
 have hz88 : z = 8 ∨ z = 16 := by
  have h := hz
  unfold sizeN at h
  split at h <;> omega
 obtain ⟨RL, hRL⟩ : ∃ RL, s.size = 16 + RL := ⟨s.size - 16, by omega⟩
 by_cases hbad : (numOf s != (s.size : Int)) = true ∨ ((numOf s != (s.size : Int)) = false ∧ (((RL : Int) % (2 * (z : Int)) != 0) = true)) ∨ ((numOf s != (s.size : Int)) = false ∧ (((RL : Int) % (2 * (z : Int)) != 0) = false) ∧ RL < 4 * z)
 ·
  exact agree_no s wk (.no 2) (fun A0 c0 W hA hG => no_case (unwrap_size_bad s (by omega) hps kind hkd wk _ hk rfl z hz RL hRL (by rw [hpn]; exact hbad) A0 c0 W hA hG)) (fun A0 c0 W hc0 hA => refUnwrap_size_bad s h16 (by omega) hps kind hkd wk _ hk rfl z hz RL hRL hbad A0 c0 hc0 W hA)
 have hnum : (numOf s != (s.size : Int)) = false := by
  cases h : (numOf s != (s.size : Int)) with
  | true => exact absurd (.inl h) hbad
  | false => rfl
 have hm : ((RL : Int) % (2 * (z : Int)) != 0) = false := by
  cases h : ((RL : Int) % (2 * (z : Int)) != 0) with
  | true => exact absurd (.inr (.inl ⟨hnum, h⟩)) hbad
  | false => rfl
 have hl : 4 * z ≤ RL := by
  by_cases h : 4 * z ≤ RL
  ·
   exact h
  ·
   exact absurd (.inr (.inr ⟨hnum, hm, by omega⟩)) hbad
 clear hbad; obtain ⟨hx, hhex⟩ : ∃ hx, badAt isHex (s.extract 16 s.size).data.toList = hx := ⟨_, rfl⟩
 cases hx with
 | some kb =>
  have hkb : kb ≤ 1500 := by
   have h1 := badAt_lt hhex
   have h2 : (s.extract 16 s.size).data.toList.length = s.size - 16 := by
    have : (s.extract 16 s.size).data.toList.length = (s.extract 16 s.size).size := by simp
    rw [this, ByteArray.size_extract]; omega
   omega
  refine ⟨Hd.zero, [], 0, 16, 16 + (kb : Int), fun W u => ∃ B, NestIs W B u (16 + (kb : Int)) 16, (fun c h => by cases h), rfl, by omega, ?_, ?_, ?_, ?_, ?_⟩
  ·
   rintro W W' u ⟨B, h⟩ hb; exact ⟨B, h.below hb (Nat.le_refl _)⟩
  ·
   intro A0 c0 W hA hG; refine (unwrap_hex_bad s (by omega) hps kind hkd wk _ hk rfl z hz RL hRL (by rw [hpn]; exact hnum) hm hl kb hhex hkb A0 c0 W hA hG).mono ?_; rintro e w' ⟨⟨u, rfl, hu⟩, hb'⟩; exact ⟨⟨none, 0, u, rfl, fun h => absurd rfl h, _, hu⟩, hb'⟩
  ·
   intro A0 c0 W hc0 hA; refine (refUnwrap_hex_bad s h16 (by omega) hps kind hkd wk _ hk rfl z hz RL hRL hnum hm hl kb hhex hkb A0 c0 hc0 W hA).mono ?_; rintro e w' ⟨rfl, hb'⟩; exact ⟨⟨none, 0, rfl, fun h => absurd rfl h⟩, hb'⟩
  ·
   rintro W u hG ⟨B, h⟩; exact code_nest u _ 16 B W h hG
  ·
   rintro W u hG ⟨B, h⟩; exact at_nest u _ 16 B W h hG
 | none =>
  obtain ⟨q, hq⟩ : ∃ q, RL = 2 * (q + z) := ⟨RL / 2 - z, by rw [bne_eq_false_iff_eq] at hm; rcases hz88 with rfl | rfl <;> omega⟩; have hqm : q % z = 0 := by rw [bne_eq_false_iff_eq] at hm; rcases hz88 with rfl | rfl <;> omega
  have hsz : s.size = 16 + 2 * (q + z) := by omega
  obtain ⟨oc, hoc⟩ : ∃ oc, openC kind (madeN kind wk 0) (madeN kind wk 1) (unhexL (s.extract 16 s.size).data.toList) (s.extract 0 16) q = oc := ⟨_, rfl⟩; obtain ⟨TX, hTX⟩ : ∃ TX, openT kind (madeN kind wk 0) (unhexL (s.extract 16 s.size).data.toList) q = TX := ⟨_, rfl⟩
  have hot : TX.length = q ∧ Byt TX := by
   have k0 := madeN_key hk (p := 0) (by omega)
   have hbl : (unhexL (s.extract 16 s.size).data.toList).length = q + sizeN kind := by
    rw [unhexL_len]
    have h2 : (s.extract 16 s.size).data.toList.length = s.size - 16 := by
     have : (s.extract 16 s.size).data.toList.length = (s.extract 16 s.size).size := by simp
     rw [this, ByteArray.size_extract]; omega
    omega
   rw [← hTX]; exact openT_ok k0.1 hbl (unhexL_lt (all_of_badAt hhex)) (by rw [hz]; exact hqm)
  obtain ⟨N, hN⟩ : ∃ N, 256 * TX.getD 0 0 + TX.getD 1 0 = N := ⟨_, rfl⟩; obtain ⟨kl, hkl⟩ : ∃ kl, N / 8 = kl := ⟨_, rfl⟩
  obtain ⟨fl, hfill, hfl⟩ : ∃ fl : Nat, fillW (hdOf s).ver.toNat (kl : Int) = (fl : Int) ∧ fl ≤ 16 := by
   have := hk.kind
   unfold fillW
   rw [hkd, if_neg (by omega), hz]; refine ⟨_, rfl, ?_⟩
   rcases hz88 with rfl | rfl <;> omega
  have hRE := fun A0 c0 W hc0 hA => refUnwrap_rest s (by omega) hps hnum kind hkd wk _ hk rfl q z hz hsz hqm (by omega) hhex oc hoc TX hTX N kl fl hN hkl hfill hfl A0 c0 hc0 W hA
  cases oc with
  | false =>
   exact agree_no s wk (.no 4) (fun A0 c0 W hA hG => no_case (unwrap_code_bad s (by omega) hps (by rw [hpn]; exact hnum) kind hkd wk _ hk rfl q z hz hsz hqm (by omega) hhex hoc A0 c0 W hA hG)) (fun A0 c0 W hc0 hA => (hRE A0 c0 W hc0 hA).mono (fun e w' h => ⟨h.1 rfl, h.2.2.2⟩))
  | true =>
   by_cases hbad : (((N : Int) % 8 != 0) = true) ∨ ((((N : Int) % 8 != 0) = false) ∧ fitsW (hdOf s).alg.toNat kl = false) ∨ ((((N : Int) % 8 != 0) = false) ∧ fitsW (hdOf s).alg.toNat kl = true ∧ q ≠ 2 + kl + fl)
   ·
    exact agree_no s wk (.no 6) (fun A0 c0 W hA hG => no_case (unwrap_form_bad s (by omega) hps (by rw [hpn]; exact hnum) kind hkd wk _ hk rfl q z hz hsz hqm (by omega) hhex hoc TX hTX N kl fl hN hkl hfill hfl hbad A0 c0 W hA hG)) (fun A0 c0 W hc0 hA => (hRE A0 c0 W hc0 hA).mono (fun e w' h => ⟨h.2.1 rfl hbad, h.2.2.2⟩))
   ·
    have h8 : ((N : Int) % 8 != 0) = false := by
     cases h : ((N : Int) % 8 != 0) with
     | true => exact absurd (.inl h) hbad
     | false => rfl
    have hfit : fitsW (hdOf s).alg.toNat kl = true := by
     cases h : fitsW (hdOf s).alg.toNat kl with
     | false => exact absurd (.inr (.inl ⟨h8, h⟩)) hbad
     | true => rfl
    have hlen : q = 2 + kl + fl := by
     by_cases h : q = 2 + kl + fl
     ·
      exact h
     ·
      exact absurd (.inr (.inr ⟨h8, hfit, h⟩)) hbad
    have hN8 : 256 * TX.getD 0 0 + TX.getD 1 0 = 8 * kl := by
     rw [bne_eq_false_iff_eq] at h8; omega
    have hkl0 := fits_len hfit; have hKL : ((TX.drop 2).take kl).length = kl := by rw [List.length_take, List.length_drop, hot.1]; omega
    have hn2 : numOf s = (s.size : Int) := by rw [bne_eq_false_iff_eq] at hnum; exact hnum
    obtain ⟨h1, h2, h3⟩ := er_case .ok; refine ⟨hdOf s, (TX.drop 2).take kl, kl, 0, -1, fun W u => ∃ B, ErIs W B u .ok, (fun c h => hot.2 c (List.mem_of_mem_drop (List.mem_of_mem_take h))), hKL, by omega, h1, ?_, ?_, h2, h3⟩
    ·
     intro A0 c0 W hA hG; refine (unwrap_ok s (by omega) hps hn2 kind hkd wk _ hk rfl q z kl fl hz hsz hqm hhex hoc TX hTX hN8 hfit hfill hlen A0 c0 W hA hG).mono ?_; rintro e w' ⟨⟨v, rfl, hv⟩, hb'⟩; obtain ⟨g, c, rfl, hAt, -, -⟩ := hv.at_ hKL (by omega); exact ⟨⟨_, c, _, rfl, hAt, 0, rfl⟩, hb'⟩
    ·
     intro A0 c0 W hc0 hA; refine (hRE A0 c0 W hc0 hA).mono ?_; rintro e w' ⟨-, -, h, hb'⟩; obtain ⟨gt, ct, rfl, -, hBs⟩ := h rfl h8 hfit hlen; exact ⟨⟨_, ct, rfl, fun _ => ⟨_, _, rfl, hBs⟩⟩, hb'⟩
end Go.Proofs.YtfkjkkjimdilcaaGreatDoor

/- lockboxlaw11.WrapUnwraps: the walk. -/
namespace Go.Proofs.YtfkjkkjimdilcaaGreatDoor
open Go Go.RowKit Pr

theorem unwraps_walk (s : ByteArray) (hs : s.size ≤ 400) (n c0 : Nat) (hn1 : n ≤ 100) (A0 : Option Addr) (w : World) (hG : EtOk w) (hT : TabOk w) (h : Hd) (L : List Nat) (gL : Byt L) (LL : Nat) (hL : L.length = LL) (hLL : LL ≤ 1000) (why at_ : Int) (EV : World → Value → Prop)
    (hEV : ∀ W W' u, EV W u → Below W.heap.size W W' → EV W' u)
    (hU : ∀ W, Below w.heap.size w W → Calls Tryz.prog 15 #[.slice A0 n c0, .string s] W fun e w' => (∃ A c u, e = .returned (.tuple #[.agg h.cells, .slice A LL c, u]) ∧ At w' A L ∧ EV w' u) ∧ Below W.heap.size W w')
    (hR : ∀ W, Below w.heap.size w W → Calls Tryz.prog 26 #[.slice A0 n c0, .string s] W fun e w' => (∃ A c, e = .returned (.tuple #[.agg h.cells, .slice A LL c, .int .i64 why, .int .i64 at_]) ∧ At w' A L) ∧ Below W.heap.size W w')
    (hC : ∀ W u, EtOk W → EV W u → Calls Tryz.prog 22 #[u] W fun e w' => e = .returned (.int .i64 why) ∧ Below W.heap.size W w')
    (hA : ∀ W u, EtOk W → EV W u → Calls Tryz.prog 23 #[u] W fun e w' => e = .returned (.int .i64 at_) ∧ Below W.heap.size W w') :
    Calls Tryz.prog 8 #[.slice A0 n c0, .string s] w fun e w' => e = .returned (.bool true) ∧ Below w.heap.size w w' := by
 have HAW := Lib.hid (fun W (hb : Below w.heap.size w W) => awake11_any W (hG.below hb (Nat.le_refl _)) (fun W' hb' => (hT.below hb).below hb')); have HG := Lib.hid (fun W (hb : Below w.heap.size w W) => hG.below hb (Nat.le_refl _)); have hsk := fun A B ca cb W hA hB => same_any L L A B ca cb gL gL (by omega) W hA hB; rw [hL, decide_eq_true rfl] at hsk; have HSK := Lib.hid hsk; have HEQ := Lib.hid (fun W => eqHead h W); have HEV := Lib.hid hEV; have HU := Lib.hid hU; have HR := Lib.hid hR; have HC := Lib.hid hC; have HA := Lib.hid hA; have hsz6 : h.cells.size = 6 := rfl; have hcob : h.cells.all (·.oneCell') = true := by simp [Hd.cells, Value.oneCell']
 generalize h.cells = cs at *; have HS6 := Lib.hid hsz6; have HCO := Lib.hid hcob; have i1 : (n : Int) ≤ 100 := by omega
 have i2 : (s.size : Int) ≤ 400 := by omega
 have j1 : ¬ 100 < (n : Int) := by omega
 have j2 : ¬ 400 < (s.size : Int) := by omega
 clear hG hT hsk hEV hU hR hC hA hsz6 hcob gL hL
 go_enter Tryz.func8, Tryz.ntmps8
 go_wp2_with fail
 refine (HAW.out _ (Below.refl _ _)).mono ?_; rintro e w1 ⟨rfl, hb1⟩; go_wp2_with fail
 refine (HU.out _ hb1).mono ?_; rintro e w2 ⟨⟨B, cB, u, rfl, hB, hu⟩, hb2⟩; have hbel2 := hb1.trans (hb2.mono hb1.size); have hbn := (Below.refl w2.heap.size w2).alloc (Nat.le_refl _) (.cells #[.int .u8 0, .string ⟨#[]⟩, .int .u8 0, .int .u8 0, .string ⟨#[]⟩, .int .u8 0] 24); clear hb1 hb2; go_wp2_with (refine wpList_store_all rfl 24 (.tmp 5) (.tmp 29) rfl w2.heap.size cs rfl rfl 24 #[.int .u8 0, .string ⟨#[]⟩, .int .u8 0, .int .u8 0, .string ⟨#[]⟩, .int .u8 0] (Blk.new w2 _ _) (by rw [info_head, HS6.out]) (by rw [HS6.out]; rfl) HCO.out ?_; intro w3 hX3 hO3)
 have hb3 := hO3.below hbn (Nat.le_refl _); have hu3 := HEV.out _ _ _ hu hb3; have hB3 := hB.below hb3 (Nat.le_refl _); have hbel3 := hbel2.trans (hb3.mono hbel2.size); clear hO3 hbn hu hB hb3 hbel2; refine (HR.out _ hbel3).mono ?_; rintro e w4 ⟨⟨D, cD, rfl, hD⟩, hb4⟩; have hu4 := HEV.out _ _ _ hu3 hb4; have hB4 := hB3.below hb4 (Nat.le_refl _); have hX4 := hX3.below hb4 hX3.lt; have hbel4 := hbel3.trans (hb4.mono hbel3.size); have hs4 := hX4.lt; have hbn := (Below.refl w4.heap.size w4).alloc (Nat.le_refl _) (.cells #[.int .u8 0, .string ⟨#[]⟩, .int .u8 0, .int .u8 0, .string ⟨#[]⟩, .int .u8 0] 24); clear hu3 hB3 hX3 hb4 hbel3
 go_wp2_with (first
  | (refine wpList_store_all rfl 24 (.tmp 8) (.tmp 36) rfl w4.heap.size cs rfl rfl 24 #[.int .u8 0, .string ⟨#[]⟩, .int .u8 0, .int .u8 0, .string ⟨#[]⟩, .int .u8 0] (Blk.new w4 _ _) (by rw [info_head, HS6.out]) (by rw [HS6.out]; rfl) HCO.out ?_; intro w5 hY5 hO5; have hb5 := hO5.below hbn (Nat.le_refl _); have hX5 := hX4.below hb5 hX4.lt; have hB5 := hB4.below hb5 (Nat.le_refl _); have hD5 := hD.below hb5 (Nat.le_refl _); have hu5 := HEV.out _ _ _ hu4 hb5; have hbel5 : Below w.heap.size w w5 := hbel4.trans (hb5.mono hbel4.size))
  | (refine wpList_load_rowG rfl 24 (.tmp 5) rfl w2.heap.size rfl 24 cs hX5 _ Tryz.underlying24 rfl (by rw [info_head, HS6.out]) ?_)
  | (refine wpList_load_rowG rfl 24 (.tmp 8) rfl w4.heap.size rfl 24 cs hY5 _ Tryz.underlying24 rfl (by rw [info_head, HS6.out]) ?_)
  | (refine wpList_eql_row rfl 24 24 (.tmp 40) (.tmp 41) rfl cs true rfl rfl (HEQ.out w5) (by unfold eqGuard; go_simp; done) ?_))
 refine (HSK.out _ _ _ _ _ hB5 hD5).mono ?_; rintro e w6 ⟨rfl, n6, rfl⟩; have hbel6 := below_drewN hbel5 n6; have hu6 : EV (w5.drewN n6) u := HEV.out _ _ _ hu5 (below_drewN (Below.refl w5.heap.size w5) n6); generalize w5.drewN n6 = w6 at *; clear hu4 hB4 hX4 hs4 hbn hX5 hY5 hB5 hD5 hu5 hbel5 hO5 hb5 hD hbel4; go_wp2_with fail
 refine (HC.out _ _ (HG.out _ hbel6) hu6).mono ?_; rintro e w7 ⟨rfl, hb7⟩; have hu7 := HEV.out _ _ _ hu6 hb7; have hbel7 := hbel6.trans (hb7.mono hbel6.size); clear hu6 hbel6 hb7; go_wp2_with fail
 refine (HA.out _ _ (HG.out _ hbel7) hu7).mono ?_; rintro e w8 ⟨rfl, hb8⟩; have hbel8 := hbel7.trans (hb8.mono hbel7.size); go_wp2
 go_ret
 exact ⟨rfl, hbel8⟩
end Go.Proofs.YtfkjkkjimdilcaaGreatDoor

/- lockboxlaw11.WrapUnwraps: its cases. -/
namespace Go.Proofs.YtfkjkkjimdilcaaGreatDoor
open Go Go.RowKit Pr

theorem unwraps_in (s : ByteArray) (hs : s.size ≤ 400) (wk : List Nat) (gw : Byt wk) (c0 : Nat) (hn1 : wk.length ≤ 100) (hc0 : wk.length ≤ c0) (A0 : Option Addr) (w : World) (hA0 : At w A0 wk) (hG : EtOk w) (hT : TabOk w) :
    Calls Tryz.prog 8 #[.slice A0 wk.length c0, .string s] w fun e w' => e = .returned (.bool true) ∧ Below w.heap.size w w' := by
 obtain ⟨h, L, LL, why, at_, EV, gL, hL, hLL, hEV, hU, hR, hC, hA⟩ := agree_any s hs wk gw hn1; exact unwraps_walk s hs wk.length c0 hn1 A0 w hG hT h L gL LL hL hLL why at_ EV hEV (fun W hb => hU A0 c0 W (hA0.below hb (Nat.le_refl _)) (hG.below hb (Nat.le_refl _))) (fun W hb => hR A0 c0 W hc0 (hA0.below hb (Nat.le_refl _))) hC hA

theorem unwraps11 (w : World) (wk : List Nat) (gw : ∀ c ∈ wk, c < 256) (A0 : Option Addr) (c0 : Nat) (hc0 : wk.length ≤ c0) (_h0 : wk.length ≤ 140737488351232) (hA0 : At w A0 wk) (s : ByteArray) (_hs : s.size ≤ 140737488351232) (hG : EtOk w) (hT : TabOk w) :
    Calls Tryz.prog 8 #[.slice A0 wk.length c0, .string s] w fun e w' => e = .returned (.bool true) ∧ Below w.heap.size w w' := by
 by_cases hall : wk.length ≤ 100 ∧ s.size ≤ 400
 ·
  exact unwraps_in s hall.2 wk gw c0 hall.1 hc0 A0 w hA0 hG hT
 ·
  have HAW := Lib.hid (fun W (hb : Below w.heap.size w W) => awake11_any W (hG.below hb (Nat.le_refl _)) (fun W' hb' => (hT.below hb).below hb')); generalize wk.length = n at *; have t0 : 100 < n ∨ (n ≤ 100 ∧ 400 < s.size) := by omega
  clear hA0 hall hG hT gw
  rcases t0 with t0 | ⟨t0, t1⟩
  ·
   have i0 : 100 < (n : Int) := by omega
   go_enter Tryz.func8, Tryz.ntmps8
   go_wp2_with fail
   refine (HAW.out _ (Below.refl _ _)).mono ?_; rintro e w1 ⟨rfl, hb1⟩; go_wp2_with fail
   refine (HAW.out _ hb1).mono ?_; rintro e w2 ⟨rfl, hb2⟩; have hb := hb1.trans (hb2.mono hb1.size); go_wp2
   go_ret
   exact ⟨rfl, hb⟩
  ·
   have i0 : ¬ 100 < (n : Int) := by omega
   have i1 : 400 < (s.size : Int) := by omega
   go_enter Tryz.func8, Tryz.ntmps8
   go_wp2_with fail
   refine (HAW.out _ (Below.refl _ _)).mono ?_; rintro e w1 ⟨rfl, hb1⟩; go_wp2_with fail
   refine (HAW.out _ hb1).mono ?_; rintro e w2 ⟨rfl, hb2⟩; have hb := hb1.trans (hb2.mono hb1.size); go_wp2
   go_ret
   exact ⟨rfl, hb⟩
end Go.Proofs.YtfkjkkjimdilcaaGreatDoor
