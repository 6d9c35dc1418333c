/- wrap.Unwrap and the document's Unwrap answer alike of whatever text. lockboxlaw11.WrapBack: the walk. A text as bytes that may be written; a key block of another length. lockboxlaw11.WrapSpoilt: the walk. -/
import Derived.Test.YtfkjkkjimdilcaaGreatDoorQUN
import Derived.Test.YtfkjkkjimdilcaaGreatDoorQRU
import Derived.Test.YtfkjkkjimdilcaaGreatDoorQLaw11
set_option maxHeartbeats 8000000
set_option maxRecDepth 100000
/- wrap.Unwrap and the document's Unwrap answer alike of whatever text. -/
namespace Go.Proofs.YtfkjkkjimdilcaaGreatDoor
open Go Go.RowKit Pr

/-- the value of a named error, as a thing that later memory does not touch -/
theorem er_case (er : Er) : (∀ W W' u, (fun (W : World) (u : Value) => ∃ B, ErIs W B u er) W u → Below W.heap.size W W' → (fun (W : World) (u : Value) => ∃ B, ErIs W B u er) W' u)
    ∧ (∀ W u, EtOk W → (∃ B, ErIs W B u er) → Calls Tryz.prog 22 #[u] W fun e w' => e = .returned (.int .i64 (erCode er)) ∧ Below W.heap.size W w')
    ∧ (∀ W u, EtOk W → (∃ B, ErIs W B u er) → Calls Tryz.prog 23 #[u] W fun e w' => e = .returned (.int .i64 (erAt er)) ∧ Below W.heap.size W w') := by
 refine ⟨?_, ?_, ?_⟩
 ·
  rintro W W' u ⟨B, h⟩ hb; exact ⟨B, h.below hb lr⟩
 ·
  rintro W u hG ⟨B, h⟩; exact code_any u er B W h hG
 ·
  rintro W u hG ⟨B, h⟩; exact at_any u er B W h hG

/-- wrap.Unwrap and the document's Unwrap answer alike of the text s, under the key wk -/
def Agree (s : ByteArray) (wk : List Nat) : Prop := ∃ (h : Hd) (L : List Nat) (LL : Nat) (why at_ : Int) (EV : World → Value → Prop), Byt L ∧ L.length = LL ∧ LL ≤ 1000
    ∧ (∀ W W' u, EV W u → Below W.heap.size W W' → EV W' u)
    ∧ (∀ A0 c0 W, At W A0 wk → EtOk W → Calls Tryz.prog 15 #[.slice A0 wk.length c0, .string s] W fun e w' => (∃ A c u, e = .returned (.tuple #[.agg h.cells, .slice A LL c, u]) ∧ At w' A L ∧ EV w' u) ∧ Below W.heap.size W w')
    ∧ (∀ A0 c0 W, wk.length ≤ c0 → At W A0 wk → Calls Tryz.prog 26 #[.slice A0 wk.length c0, .string s] W fun e w' => (∃ A c, e = .returned (.tuple #[.agg h.cells, .slice A LL c, .int .i64 why, .int .i64 at_]) ∧ At w' A L) ∧ Below W.heap.size W w')
    ∧ (∀ W u, EtOk W → EV W u → Calls Tryz.prog 22 #[u] W fun e w' => e = .returned (.int .i64 why) ∧ Below W.heap.size W w')
    ∧ (∀ W u, EtOk W → EV W u → Calls Tryz.prog 23 #[u] W fun e w' => e = .returned (.int .i64 at_) ∧ Below W.heap.size W w')

/-- what is wrong with no head and no key -/
theorem agree_no (s : ByteArray) (wk : List Nat) (er : Er)
    (hU : ∀ A0 c0 W, At W A0 wk → EtOk W → Calls Tryz.prog 15 #[.slice A0 wk.length c0, .string s] W fun e w' => (∃ u, e = .returned (.tuple #[.agg Hd.zero.cells, .slice none 0 0, u]) ∧ ErIs w' W.heap.size u er) ∧ Below W.heap.size W w')
    (hR : ∀ A0 c0 W, wk.length ≤ c0 → At W A0 wk → Calls Tryz.prog 26 #[.slice A0 wk.length c0, .string s] W fun e w' => e = .returned (.tuple #[.agg Hd.zero.cells, .slice none 0 0, .int .i64 (erCode er), .int .i64 (erAt er)]) ∧ Below W.heap.size W w') : Agree s wk := by
 obtain ⟨h1, h2, h3⟩ := er_case er; refine ⟨Hd.zero, [], 0, erCode er, erAt er, fun W u => ∃ B, ErIs W B u er, (fun c h => by cases h), rfl, by omega, h1, ?_, ?_, h2, h3⟩
 ·
  intro A0 c0 W hA hG; refine (hU A0 c0 W hA hG).mono ?_; rintro e w' ⟨⟨u, rfl, hu⟩, hb'⟩; exact ⟨⟨none, 0, u, rfl, fun h => absurd rfl h, _, hu⟩, hb'⟩
 ·
  intro A0 c0 W hc hA; refine (hR A0 c0 W hc hA).mono ?_; rintro e w' ⟨rfl, hb'⟩; exact ⟨⟨none, 0, rfl, fun h => absurd rfl h⟩, hb'⟩

theorem parseEr_no {s : ByteArray} (hs : 16 ≤ s.size) (h : parseEr s ≠ .ok) : ∃ p : Nat, parseEr s = .fa p 6 ∧ p ≤ 1500 := by
 unfold parseEr at h ⊢
 rw [if_neg (by omega)] at h ⊢
 unfold pE at h ⊢
 rcases rightEr_cases (hdOf s) with hr | ⟨k, hr, hk⟩
 ·
  rw [hr] at h ⊢
  split
  ·
   rename_i h1; cases h1
  ·
   split
   ·
    exact ⟨1, rfl, by omega⟩
   ·
    rename_i h1 h2
    rw [if_neg h1, if_neg h2] at h; rw [if_pos (show isOk Er.ok = true from rfl)] at h ⊢
    split
    ·
     rename_i h3; rw [if_pos h3] at h; exact absurd rfl h
    ·
     exact ⟨12, rfl, by omega⟩
 ·
  rw [hr]
  split
  ·
   exact ⟨k, rfl, by omega⟩
  ·
   split
   ·
    exact ⟨1, rfl, by omega⟩
   ·
    rw [if_neg (by intro hc; cases hc)]; exact ⟨k, rfl, by omega⟩

theorem no_case {s : ByteArray} {n c0 : Nat} {A0 : Option Addr} {w : World} {k : Nat} (h : Calls Tryz.prog 15 #[.slice A0 n c0, .string s] w fun e w' => e = .returned (.tuple #[.agg Hd.zero.cells, .slice none 0 0, .iface 64 (.int .i64 (k : Int))]) ∧ Below w.heap.size w w') :
    Calls Tryz.prog 15 #[.slice A0 n c0, .string s] w fun e w' => (∃ u, e = .returned (.tuple #[.agg Hd.zero.cells, .slice none 0 0, u]) ∧ ErIs w' w.heap.size u (.no k)) ∧ Below w.heap.size w w' := by
 refine h.mono ?_; rintro e w' ⟨rfl, hb⟩; exact ⟨⟨_, rfl, rfl⟩, hb⟩

theorem agree_any (s : ByteArray) (hs : s.size ≤ 400) (wk : List Nat) (gw : Byt wk) (hn1 : wk.length ≤ 100) : Agree s wk := by
 by_cases h16 : s.size < 16
 ·
  have hps : parseEr s = .no 2 := by unfold parseEr; rw [if_pos h16]
  exact agree_no s wk (.no 2) (fun A0 c0 W _ hG => unwrap_head_bad s (by omega) _ hps rfl A0 _ c0 W hG) (fun A0 c0 W _ _ => refUnwrap_short s h16 A0 _ c0 W)
 have h16 : 16 ≤ s.size := by omega
 by_cases hps : parseEr s = .ok
 rotate_left
 ·
  obtain ⟨p, hp, hp2⟩ := parseEr_no h16 hps; exact agree_no s wk (.fa p 6) (fun A0 c0 W _ hG => unwrap_head_bad s (by omega) _ hp rfl A0 _ c0 W hG) (fun A0 c0 W _ _ => refUnwrap_head_bad s h16 (by omega) p hp2 hp A0 _ c0 W)
 have hpn : parseN s = numOf s := by unfold parseN; rw [hps]; rfl
 obtain ⟨er, he⟩ : ∃ er, keysEr (hdOf s).ver.toNat wk.length = er := ⟨_, rfl⟩
 by_cases hne : er = .ok
 rotate_left
 ·
  obtain ⟨k, hk, -⟩ := keysEr_no he hne; refine agree_no s wk er (fun A0 c0 W _ hG => unwrap_keys_bad s (by omega) hps A0 _ c0 er he hne W hG) (fun A0 c0 W _ _ => ?_); have := refUnwrap_keys_bad s h16 (by omega) hps A0 wk.length c0 (by omega) er he hne W; subst hk; exact this
 subst hne; have hk := keysEr_ok gw he; obtain ⟨kind, hkd⟩ : ∃ kind, kindV (hdOf s).ver.toNat = kind := ⟨_, rfl⟩; rw [hkd] at hk; obtain ⟨z, hz⟩ : ∃ z, sizeN kind = z := ⟨_, rfl⟩
 have hz88 : z = 8 ∨ z = 16 := by
  have h := hz
  unfold sizeN at h
  split at h <;> omega
 obtain ⟨RL, hRL⟩ : ∃ RL, s.size = 16 + RL := ⟨s.size - 16, by omega⟩
 by_cases hbad : (numOf s != (s.size : Int)) = true ∨ ((numOf s != (s.size : Int)) = false ∧ (((RL : Int) % (2 * (z : Int)) != 0) = true)) ∨ ((numOf s != (s.size : Int)) = false ∧ (((RL : Int) % (2 * (z : Int)) != 0) = false) ∧ RL < 4 * z)
 ·
  exact agree_no s wk (.no 2) (fun A0 c0 W hA hG => no_case (unwrap_size_bad s (by omega) hps kind hkd wk _ hk rfl z hz RL hRL (by rw [hpn]; exact hbad) A0 c0 W hA hG)) (fun A0 c0 W hc0 hA => refUnwrap_size_bad s h16 (by omega) hps kind hkd wk _ hk rfl z hz RL hRL hbad A0 c0 hc0 W hA)
 have hnum : (numOf s != (s.size : Int)) = false := by
  cases h : (numOf s != (s.size : Int)) with
  | true => exact absurd (.inl h) hbad
  | false => rfl
 have hm : ((RL : Int) % (2 * (z : Int)) != 0) = false := by
  cases h : ((RL : Int) % (2 * (z : Int)) != 0) with
  | true => exact absurd (.inr (.inl ⟨hnum, h⟩)) hbad
  | false => rfl
 have hl : 4 * z ≤ RL := by
  by_cases h : 4 * z ≤ RL
  ·
   exact h
  ·
   exact absurd (.inr (.inr ⟨hnum, hm, by omega⟩)) hbad
 clear hbad; obtain ⟨hx, hhex⟩ : ∃ hx, badAt isHex (s.extract 16 s.size).data.toList = hx := ⟨_, rfl⟩
 cases hx with
 | some kb =>
  have hkb : kb ≤ 1500 := by
   have h1 := badAt_lt hhex
   have h2 : (s.extract 16 s.size).data.toList.length = s.size - 16 := by
    have : (s.extract 16 s.size).data.toList.length = (s.extract 16 s.size).size := by simp
    rw [this, ByteArray.size_extract]; omega
   omega
  refine ⟨Hd.zero, [], 0, 16, 16 + (kb : Int), fun W u => ∃ B, NestIs W B u (16 + (kb : Int)) 16, (fun c h => by cases h), rfl, by omega, ?_, ?_, ?_, ?_, ?_⟩
  ·
   rintro W W' u ⟨B, h⟩ hb; exact ⟨B, h.below hb lr⟩
  ·
   intro A0 c0 W hA hG; refine (unwrap_hex_bad s (by omega) hps kind hkd wk _ hk rfl z hz RL hRL (by rw [hpn]; exact hnum) hm hl kb hhex hkb A0 c0 W hA hG).mono ?_; rintro e w' ⟨⟨u, rfl, hu⟩, hb'⟩; exact ⟨⟨none, 0, u, rfl, fun h => absurd rfl h, _, hu⟩, hb'⟩
  ·
   intro A0 c0 W hc0 hA; refine (refUnwrap_hex_bad s h16 (by omega) hps kind hkd wk _ hk rfl z hz RL hRL hnum hm hl kb hhex hkb A0 c0 hc0 W hA).mono ?_; rintro e w' ⟨rfl, hb'⟩; exact ⟨⟨none, 0, rfl, fun h => absurd rfl h⟩, hb'⟩
  ·
   rintro W u hG ⟨B, h⟩; exact code_nest u _ 16 B W h hG
  ·
   rintro W u hG ⟨B, h⟩; exact at_nest u _ 16 B W h hG
 | none =>
  obtain ⟨q, hq⟩ : ∃ q, RL = 2 * (q + z) := ⟨RL / 2 - z, by rw [bne_eq_false_iff_eq] at hm; rcases hz88 with rfl | rfl <;> omega⟩; have hqm : q % z = 0 := by rw [bne_eq_false_iff_eq] at hm; rcases hz88 with rfl | rfl <;> omega
  have hsz : s.size = 16 + 2 * (q + z) := by omega
  obtain ⟨oc, hoc⟩ : ∃ oc, openC kind (madeN kind wk 0) (madeN kind wk 1) (unhexL (s.extract 16 s.size).data.toList) (s.extract 0 16) q = oc := ⟨_, rfl⟩; obtain ⟨TX, hTX⟩ : ∃ TX, openT kind (madeN kind wk 0) (unhexL (s.extract 16 s.size).data.toList) q = TX := ⟨_, rfl⟩
  have hot : TX.length = q ∧ Byt TX := by
   have k0 := madeN_key hk (p := 0) (by omega)
   have hbl : (unhexL (s.extract 16 s.size).data.toList).length = q + sizeN kind := by
    rw [unhexL_len]
    have h2 : (s.extract 16 s.size).data.toList.length = s.size - 16 := by
     have : (s.extract 16 s.size).data.toList.length = (s.extract 16 s.size).size := by simp
     rw [this, ByteArray.size_extract]; omega
    omega
   rw [← hTX]; exact openT_ok k0.1 hbl (unhexL_lt (all_of_badAt hhex)) (by rw [hz]; exact hqm)
  obtain ⟨N, hN⟩ : ∃ N, 256 * TX.getD 0 0 + TX.getD 1 0 = N := ⟨_, rfl⟩; obtain ⟨kl, hkl⟩ : ∃ kl, N / 8 = kl := ⟨_, rfl⟩
  obtain ⟨fl, hfill, hfl⟩ : ∃ fl : Nat, fillW (hdOf s).ver.toNat (kl : Int) = (fl : Int) ∧ fl ≤ 16 := by
   have := hk.kind
   unfold fillW
   rw [hkd, if_neg (by omega), hz]; refine ⟨_, rfl, ?_⟩
   rcases hz88 with rfl | rfl <;> omega
  have hRE := fun A0 c0 W hc0 hA => refUnwrap_rest s (by omega) hps hnum kind hkd wk _ hk rfl q z hz hsz hqm (by omega) hhex oc hoc TX hTX N kl fl hN hkl hfill hfl A0 c0 hc0 W hA
  cases oc with
  | false =>
   exact agree_no s wk (.no 4) (fun A0 c0 W hA hG => no_case (unwrap_code_bad s (by omega) hps (by rw [hpn]; exact hnum) kind hkd wk _ hk rfl q z hz hsz hqm (by omega) hhex hoc A0 c0 W hA hG)) (fun A0 c0 W hc0 hA => (hRE A0 c0 W hc0 hA).mono (fun e w' h => ⟨h.1 rfl, h.2.2.2⟩))
  | true =>
   by_cases hbad : (((N : Int) % 8 != 0) = true) ∨ ((((N : Int) % 8 != 0) = false) ∧ fitsW (hdOf s).alg.toNat kl = false) ∨ ((((N : Int) % 8 != 0) = false) ∧ fitsW (hdOf s).alg.toNat kl = true ∧ q ≠ 2 + kl + fl)
   ·
    exact agree_no s wk (.no 6) (fun A0 c0 W hA hG => no_case (unwrap_form_bad s (by omega) hps (by rw [hpn]; exact hnum) kind hkd wk _ hk rfl q z hz hsz hqm (by omega) hhex hoc TX hTX N kl fl hN hkl hfill hfl hbad A0 c0 W hA hG)) (fun A0 c0 W hc0 hA => (hRE A0 c0 W hc0 hA).mono (fun e w' h => ⟨h.2.1 rfl hbad, h.2.2.2⟩))
   ·
    have h8 : ((N : Int) % 8 != 0) = false := by
     cases h : ((N : Int) % 8 != 0) with
     | true => exact absurd (.inl h) hbad
     | false => rfl
    have hfit : fitsW (hdOf s).alg.toNat kl = true := by
     cases h : fitsW (hdOf s).alg.toNat kl with
     | false => exact absurd (.inr (.inl ⟨h8, h⟩)) hbad
     | true => rfl
    have hlen : q = 2 + kl + fl := by
     by_cases h : q = 2 + kl + fl
     ·
      exact h
     ·
      exact absurd (.inr (.inr ⟨h8, hfit, h⟩)) hbad
    have hN8 : 256 * TX.getD 0 0 + TX.getD 1 0 = 8 * kl := by
     rw [bne_eq_false_iff_eq] at h8; omega
    have hkl0 := fits_len hfit; have hKL : ((TX.drop 2).take kl).length = kl := by rw [List.length_take, List.length_drop, hot.1]; omega
    have hn2 : numOf s = (s.size : Int) := by rw [bne_eq_false_iff_eq] at hnum; exact hnum
    obtain ⟨h1, h2, h3⟩ := er_case .ok; refine ⟨hdOf s, (TX.drop 2).take kl, kl, 0, -1, fun W u => ∃ B, ErIs W B u .ok, (fun c h => hot.2 c (List.mem_of_mem_drop (List.mem_of_mem_take h))), hKL, by omega, h1, ?_, ?_, h2, h3⟩
    ·
     intro A0 c0 W hA hG; refine (unwrap_ok s (by omega) hps hn2 kind hkd wk _ hk rfl q z kl fl hz hsz hqm hhex hoc TX hTX hN8 hfit hfill hlen A0 c0 W hA hG).mono ?_; rintro e w' ⟨⟨v, rfl, hv⟩, hb'⟩; obtain ⟨g, c, rfl, hAt, -, -⟩ := hv.at_ hKL (by omega); exact ⟨⟨_, c, _, rfl, hAt, 0, rfl⟩, hb'⟩
    ·
     intro A0 c0 W hc0 hA; refine (hRE A0 c0 W hc0 hA).mono ?_; rintro e w' ⟨-, -, h, hb'⟩; obtain ⟨gt, ct, rfl, -, hBs⟩ := h rfl h8 hfit hlen; exact ⟨⟨_, ct, rfl, fun _ => ⟨_, _, rfl, hBs⟩⟩, hb'⟩

theorem ver_ofB {h : Hd} (hr : rightEr h = .ok) : h.ver.toNat = 66 ∨ h.ver.toNat = 68 := by
 unfold rightEr rE at hr
 split at hr
 ·
  rename_i b0
  rw [isIn_mem, decide_eq_true_eq] at b0; simp only [sBD, List.mem_cons, List.not_mem_nil, or_false] at b0
  rcases b0 with b0 | b0 <;> rw [b0]
  ·
   exact .inl rfl
  ·
   exact .inr rfl
 ·
  cases hr
theorem fill_of {h : Hd} (hr : rightEr h = .ok) (kl : Nat) (hk : kl = 16 ∨ kl = 24) : ∃ fl : Nat, fillW h.ver.toNat (kl : Int) = (fl : Int) ∧ 0 < fl ∧ fl ≤ 16 := by
 rcases hk with rfl | rfl <;> rcases ver_ofB hr with hv | hv <;> rw [hv]
 ·
  exact ⟨6, by decide, by decide, by decide⟩
 ·
  exact ⟨14, by decide, by decide, by decide⟩
 ·
  exact ⟨6, by decide, by decide, by decide⟩
 ·
  exact ⟨6, by decide, by decide, by decide⟩
theorem backIn (h : Hd) (hr : rightEr h = .ok) (l m r : List Nat) (gl : Byt l) (gm : Byt m) (gr : Byt r) (wl kl fl : Nat) (hw : wl = 16 ∨ wl = 24) (hk : kl = 16 ∨ kl = 24) (hf : fillW h.ver.toNat (kl : Int) = (fl : Int)) (h0 : 0 < fl) : WrapIn h (someN l wl) (someN m kl) (someN r fl) where
 hr := hr
 hk := by
  refine ⟨someN_byt gl wl, ?_⟩; rw [someN_len]
  rcases ver_ofB hr with hv | hv <;> rw [hv]
  ·
   exact .inl ⟨rfl, hw⟩
  ·
   exact .inr ⟨rfl, by omega⟩
 gk := someN_byt gm kl
 gf := someN_byt gr fl
 hfits := by
  rw [someN_len]
  rcases hk with rfl | rfl <;> rfl
 hfill := by rw [someN_len, someN_len, hf]
 hf0 := by rw [someN_len]; exact h0

section
variable {P : Program} {ops : Array Oper} {rest : List Oper} {op : Oper} {a : Act} {w : World} {Q : Exit → Act → World → Prop}
/-- a text as bytes that may be written -/
theorem wpList_to_free (hgd : op.guard = none) (src dst e : TypeId) (x : Operand) (ho : op.op = .convert src dst x) (s : ByteArray) (hx : a.eval x = .string s) {u : TypeDesc} (hs : P.underlying src = some u) (hd : P.underlying dst = some (.slice e)) (he : P.underlying e = some (.int .u8))
    (h : ∀ cap w', s.size ≤ cap → Below w.heap.size w w' → Bs w' w.heap.size 0 (sN s) → (∀ j, j < s.size → w'.frozen? ⟨w.heap.size, j, none⟩ = false) → w'.heap.size = w.heap.size + 1 → wpList P ops Q rest (a.put op.dst (.slice (some ⟨w.heap.size, 0, none⟩) s.size cap)) w') : wpList P ops Q (op :: rest) a w := by
 have hrun := Lib.run_convert_string_bytes (P := P) w src dst e s hs hd he; have hsz := Lib.bytesWorld_size w e s; have hcap := grownCap_ge w s.size 0 e; have hb : Below w.heap.size w (Lib.bytesWorld w e s) := ⟨rfl, rfl, rfl, by rw [hsz]; omega, fun i hi => Lib.bytesWorld_at_old w e s i hi⟩
 have hB : Bs (Lib.bytesWorld w e s) w.heap.size 0 (sN s) := by
  intro j v hv
  have hj : j < (sN s).length := by
   rcases Nat.lt_or_ge j (sN s).length with h | h
   ·
    exact h
   ·
    rw [List.getElem?_eq_none (by simp [byteCells]; exact h)] at hv; cases hv
  have hj' : j < s.size := by rwa [sN_len] at hj
  rw [Nat.zero_add, Lib.bytesWorld_cell w e s j hj']; rw [← hv]
  simp [byteCells, sN, List.getD_eq_getElem?_getD, hj']
 have hcs : (Lib.bytesCells w e s).size = grownCap w s.size 0 e := by
  unfold Lib.bytesCells
  rw [Array.size_append, Array.size_map, Array.size_replicate]
  show s.size + _ = _
  omega
 have hsp : ∀ j, j < s.size → (Lib.bytesWorld w e s).frozen? ⟨w.heap.size, j, none⟩ = false := fun j h2 => by
  have hn := Lib.bytesWorld_at_new w e s
  simp [World.frozen?, hn, hcs]; omega
 refine wpList_run hgd (v := .slice (some ⟨w.heap.size, 0, none⟩) s.size (grownCap w s.size 0 e)) (w' := Lib.bytesWorld w e s) ?_ (h _ _ hcap hb hB hsp hsz)
 unfold execOp
 simp only [ho, hx, Sem.run_bind, hrun, Result.andThen_ok]
 simp
theorem Bs.setAt {w : World} {g : Nat} {l : List Nat} (h : Bs w g 0 l) (k c : Nat) : Bs (w.setCell ⟨g, k, none⟩ (.int .u8 (c : Int))) g 0 (l.set k c) := by
 intro j v hv
 have hj : j < l.length := by
  rcases Nat.lt_or_ge j l.length with h | h
  ·
   exact h
  ·
   rw [List.getElem?_eq_none (by simp [byteCells]; exact h)] at hv; cases hv
 have hc := h.cell j hj; rw [Nat.zero_add] at hc ⊢
 by_cases hk : k = j
 ·
  subst hk; rw [World.cell?_setCell_same _ _ _ hc, ← hv]
  simp [byteCells, hj]
 ·
  have hne : (⟨g, k, none⟩ : Addr) ≠ ⟨g, j, none⟩ := fun e => hk (by injection e); rw [World.cell?_setCell_other _ _ _ _ hne, hc, ← hv]
  simp [byteCells, hk, hj]
end

/-- a key block of another length -/
theorem ends_bad (h : Hd) (hr : rightEr h = .ok) (wk : List Nat) (hk : KeyOk (kindV h.ver.toNat) wk) (hn : wk.length = 16) (N : Nat) (h16 : 16 ≤ N) (h99 : N ≤ 400) (t : ByteArray) (ht : t.size ≤ 500) (hne : t.size + 16 ≠ N) (A0 : Option Addr) (c0 : Nat) (w : World) (hA0 : At w A0 wk) (hG : EtOk w) :
    Calls Tryz.prog 15 #[.slice A0 16 c0, .string (str (printL h N) ++ t)] w fun e w' => e = .returned (.tuple #[.agg Hd.zero.cells, .slice none 0 0, .iface 64 (.int .i64 2)]) ∧ Below w.heap.size w w' := by
 obtain ⟨b1, b2, b3, b4⟩ := back_print hr h16 (by omega) t
 have hd : hdOf (str (printL h N) ++ t) = h := by
  unfold parseHd at b2
  rw [b1, if_pos (show isOk Er.ok = true from rfl)] at b2; exact b2
 have hz : (str (printL h N) ++ t).size = 16 + t.size := by rw [ByteArray.size_append, b4]
 refine unwrap_size_bad _ (by omega) b1 (kindV h.ver.toNat) (by rw [hd]) wk 16 hk hn _ rfl t.size hz (.inl ?_) A0 c0 w hA0 hG; rw [b3, hz, bne_iff_ne]; omega

theorem spoilt_in (h : Hd) (hr : rightEr h = .ok) (l m : List Nat) (L0 M0 : Nat) (hl : l.length = L0) (hm : m.length = M0) (gl : Byt l) (gm : Byt m) (hL : L0 ≤ 100) (hM : M0 ≤ 100) (A0 A1 : Option Addr) (c0 c1 at_ turn : Nat) (hat : at_ < 256) (htu : turn < 256) (w : World) (hA0 : At w A0 l) (hA1 : At w A1 m) (hG : EtOk w) (hT : TabOk w) :
    Calls Tryz.prog 9 #[.slice A0 L0 c0, .agg h.cells, .slice A1 M0 c1, .int .u8 at_, .int .u8 turn] w fun e w' => e = .returned (.bool true) ∧ Below w.heap.size w w' := by
 obtain ⟨fl, hfl, hf0, hf16⟩ := fill_of hr 16 (by omega); have hin := backIn h hr l m [] gl gm (fun c h => by cases h) 16 16 fl (by omega) (by omega) hfl hf0; obtain ⟨-, -, -, -, hu2, hs2⟩ := right_ok hr; have HAW := Hh (fun W (hb : Below w.heap.size w W) => awake11_any W (hG.below hb lr) (fun W' hb' => (hT.below hb).below hb')); have HWG := Hh (fun W => refWrong_any h (by omega) (by omega) W); rw [show erAt (rightEr h) = -1 by rw [hr]; rfl] at HWG; have hws := fun A0 A1 A2 c0 c1 c2 W h0 h1 h2 hTW => wrap_ok h hin.hr (someN l 16) 16 hin.hk (someN_len _ _) (someN m 16) (someN [] fl) 16 fl (someN_len _ _) (someN_len _ _) hin.gk hin.gf (by have := hin.hfits; rwa [someN_len] at this) hfl hf0 A0 A1 A2 c0 c1 c2 W h0 h1 h2 hTW; have HWR := Hh hws; clear hws; have HFL := Hh (fun W => fill_any h 16 (by omega) W); rw [show fillW h.ver.toNat 16 = (fl : Int) from hfl] at HFL; have HW16 := Hh (fun A c W hA => some_any l L0 hl (by omega) gl 16 (by omega) A c W hA); have HMK := Hh (fun A c W hA => some_any m M0 hm (by omega) gm 16 (by omega) A c W hA); have HNF := Hh (fun W => some_any [] 0 rfl (by omega) (fun c h => by cases h) fl (by omega) none 0 W (fun h => absurd rfl h)); have HLW := Hh (someN_len l 16); have HLK := Hh (someN_len m 16); have HLF := Hh (someN_len [] fl)
 -- the text
 obtain ⟨N, hN⟩ : ∃ N, lenW (kindV h.ver.toNat) (textW (someN m 16) (someN [] fl)).length = N := ⟨_, rfl⟩; have hz16 := size_le (kindV h.ver.toNat); have hz0 := size_pos (kindV h.ver.toNat)
 have hN2 : 16 ≤ N ∧ N ≤ 400 ∧ 48 ≤ N := by
  rw [← hN, textW_len, someN_len, someN_len]
  unfold lenW
  omega
 obtain ⟨S, hS⟩ : ∃ S, str (wrapS h (someN l 16) (someN m 16) (someN [] fl)) = S := ⟨_, rfl⟩; obtain ⟨R, hR⟩ : ∃ R, str (hexL (encW h (someN l 16) (someN m 16) (someN [] fl)) ++ hexL (codeW h (someN l 16) (someN m 16) (someN [] fl))) = R := ⟨_, rfl⟩
 have hSR : S = str (printL h N) ++ R := by
  rw [← hS, ← hR]
  unfold wrapS
  rw [hN, List.append_assoc, str_add]
 have hSZ : S.size = N := by
  rw [← hS, str_size, hin.len.1]; exact hN
 rw [hS] at HWR; have hPl : (str (printL h N)).size = 16 := by rw [str_size, printL_size h hu2 hs2 N]
 have hRz : R.size + 16 = N := by rw [← hSZ, hSR, ByteArray.size_append, hPl]; omega
 have HLG := Hh (fun A0 c0 W hA hG => ends_bad h hr (someN l 16) hin.hk (someN_len _ _) N hN2.1 hN2.2.1 (R ++ ⟨#[48]⟩) (by rw [ByteArray.size_append]; have : (⟨#[48]⟩ : ByteArray).size = 1 := rfl; omega) (by rw [ByteArray.size_append]; have : (⟨#[48]⟩ : ByteArray).size = 1 := rfl; omega) A0 c0 W hA hG); rw [← ByteArray.append_assoc, ← hSR] at HLG; obtain ⟨M, hM1⟩ : ∃ M, N = M + 1 := ⟨N - 1, by omega⟩
 have hSH : S.extract 0 M = str (printL h N) ++ R.extract 0 (M - 16) := by
  have hE : (str (printL h N)).extract 0 M = str (printL h N) := ByteArray.ext (by rw [ByteArray.data_extract]; exact Array.extract_eq_self_of_le (by show (str (printL h N)).size ≤ M; omega)); rw [hSR, ByteArray.extract_append, hPl, Nat.zero_sub, hE]
 have HSH := Hh (fun A0 c0 W hA hG => ends_bad h hr (someN l 16) hin.hk (someN_len _ _) N hN2.1 hN2.2.1 (R.extract 0 (M - 16)) (by rw [ByteArray.size_extract]; omega) (by rw [ByteArray.size_extract]; omega) A0 c0 W hA hG); rw [← hSH] at HSH
 -- which digit is turned
 obtain ⟨j, hj⟩ : ∃ j, M - at_ % 16 = j := ⟨_, rfl⟩; have hjN : j < S.size := by omega
 have e1 : IntKind.i64.wrap ((S.size : Int) - 1) = (M : Int) := by rw [IntWalk.i64_in _ (by omega)]; omega
 have e2 : IntKind.i64.wrap (at_ : Int) = (at_ : Int) := IntWalk.i64_in _ (by omega); have e3 : IntKind.i64.wrap ((M : Int) - (at_ : Int) % 16) = (j : Int) := by rw [IntWalk.i64_in _ (by omega)]; omega
 have hcell : ∀ W g, Bs W g 0 (sN S) → W.cell? ⟨g, j, none⟩ = some (.int .u8 ((sN S).getD j 0 : Nat)) := fun W g hB => by
  have := hB.cellD j (by rw [sN_len]; exact hjN)
  rwa [Nat.zero_add] at this
 have HCE := Hh hcell; obtain ⟨LT, hLT⟩ : ∃ LT, S.data.toList.set j (UInt8.ofNat turn) = LT := ⟨_, rfl⟩
 have hnat : (sN S).set j turn = natsOf LT := by
  rw [← hLT]
  unfold natsOf sN
  rw [List.map_set, UInt8.toNat_ofNat_of_lt' (show turn < 256 by omega)]
 have hLTl : LT.length = S.size := by rw [← hLT, List.length_set]; rfl
 have HNA := Hh hnat; have HLT := Hh hLTl; have HST := Hh (fun W g (hB : Bs W g 0 (sN S)) => Bs.setAt hB j turn); rw [hnat] at HST; obtain ⟨hd, LK, LL, why, atv, EV, gLK, hLK, hLL, hEV, hU, hRU, hC, hA⟩ := agree_any ⟨LT.toArray⟩ (by show LT.length ≤ 400; omega) (someN l 16) (someN_byt gl 16) (by rw [someN_len]; omega); rw [someN_len] at hU hRU; have HEV := Hh hEV; have HU := Hh hU; have HRU := Hh hRU; have HC := Hh hC; have hsk := fun A B ca cb W hA hB => same_any LK LK A B ca cb gLK gLK (by omega) W hA hB; rw [hLK, decide_eq_true rfl] at hsk; have HSK := Hh hsk; have HEQ := Hh (fun W => eqHead hd W); have HC2 := Hh (fun W hG => code_any (.iface 64 (.int .i64 2)) (.no 2) 0 W rfl hG); rw [show erCode (.no 2) = 2 from rfl] at HC2; have hcs6 : h.cells.size = 6 := rfl; have hds6 : hd.cells.size = 6 := rfl; have hdo : hd.cells.all (·.oneCell') = true := by simp [Hd.cells, Value.oneCell']
 have hzz : Hd.zero.cells = #[.int .u8 0, .string ⟨#[]⟩, .int .u8 0, .int .u8 0, .string ⟨#[]⟩, .int .u8 0] := rfl; rw [hzz] at HLG HSH; have hb0 : Below w.heap.size w (w.alloc (.cells h.cells 24)) := (Below.refl _ _).alloc lr _; have hB0 := Blk.new w 24 h.cells; have HG := Hh (fun W (hb : Below w.heap.size w W) => hG.below hb lr); have HT := Hh (fun W (hb : Below w.heap.size w W) => hT.below hb); have HA0 := Hh (fun W (hb : Below w.heap.size w W) => hA0.below hb lr); have HA1 := Hh (fun W (hb : Below w.heap.size w W) => hA1.below hb lr); have hS400 : S.size ≤ 400 := by omega
 have hSM : (M : Int) ≤ 400 := by omega
 have hMS : M ≤ S.size := by omega
 clear hin hfl hN hS hR hSR hN2 hPl hRz hSH hz16 hz0 hSZ hM1 hj hcell hnat hLT hEV hU hRU hC hA hsk hLK gLK hzz hLL hA0 hA1 hG hT hr hu2 hs2 hl hm gl gm; generalize someN l 16 = WN at *; generalize someN m 16 = KN at *; generalize someN [] fl = FN at *; generalize h.cells = cs at *; generalize hd.cells = ds at *; generalize h.ver.toNat = ver at *; generalize (sN S).getD j 0 = x0 at *; have HS6 := Hh hcs6; clear hcs6; have HD6 := Hh hds6; clear hds6
 have HDO := Hh hdo; clear hdo
 have HB0 := Hh hB0; clear hB0; have H0 := Hh hb0; clear hb0; have hL1 : ¬ 100 < (L0 : Int) := by omega
 have hM2 : ¬ 100 < (M0 : Int) := by omega
 go_enter Tryz.func9, Tryz.ntmps9
 go_wp2_with fail
 refine (HAW.out _ H0.out).mono ?_; rintro e w1 ⟨rfl, hb1⟩; have hH1 := HB0.out.below hb1 HB0.out.lt; have hb1 := H0.out.trans (hb1.mono H0.out.size); clear HB0 H0
 go_wp2_with (first
  | (refine wpList_load_rowG (by go_simp) 24 (.tmp 6) rfl w.heap.size rfl 24 cs hH1 _ Tryz.underlying24 rfl (by rw [info_head, HS6.out]) ?_))
 refine (HWG.out _).mono ?_; rintro e w2 ⟨rfl, hb2⟩; have hH2 := hH1.below hb2 hH1.lt; have hbel2 := hb1.trans (hb2.mono hb1.size); clear hb1 hb2 hH1; go_wp2_with fail
 refine (HW16.out _ _ _ (HA0.out _ hbel2)).mono ?_; rintro e w3 ⟨⟨v, rfl, hv⟩, hb3⟩; have hbel3 := hbel2.trans (hb3.mono hbel2.size); have hH3 := hH2.below hb3 hH2.lt; obtain ⟨g3, c3, rfl, hA3, hc3, -⟩ := hv.at_ HLW.out (by omega); clear hv hb3 hH2 hbel2; go_wp2_with fail
 refine (HMK.out _ _ _ (HA1.out _ hbel3)).mono ?_; rintro e w4 ⟨⟨v, rfl, hv⟩, hb4⟩; have hbel4 := hbel3.trans (hb4.mono hbel3.size); have hH4 := hH3.below hb4 hH3.lt; have hA34 := hA3.below hb4 lr; obtain ⟨gk, ck, rfl, hAk, -, -⟩ := hv.at_ HLK.out (by omega); clear hv hb4 hH3 hbel3 hA3; go_wp2_with fail
 refine wp_region_tree (.q 0 (.q 1 (.q 2 (.q 3 (.e [4] fun _ => .e [5] fun _ => .e [6] fun _ => .q 7 (.q 8 (.q 9 (.q 10 (.q 11 (.done)))))))))) (fun W => Blk W w.heap.size 24 cs ∧ At W (some ⟨g3, 0, none⟩) WN ∧ At W (some ⟨gk, 0, none⟩) KN ∧ Below w.heap.size w W) rfl (by kernel_rfl) (fun _ _ d _ _ h => by cases d <;> exact h) ?_; have hS : Blk w4.drew w.heap.size 24 cs ∧ At w4.drew (some ⟨g3, 0, none⟩) WN ∧ At w4.drew (some ⟨gk, 0, none⟩) KN ∧ Below w.heap.size w w4.drew := ⟨hH4, hA34, hAk, below_drewN hbel4 1⟩
 change wpT _ _ _ _ _ _ w4.drew
 clear hH4 hA34 hAk hbel4; generalize w4.drew = w5 at *; refine t_q rfl rfl hS _ (fun W hW => by (go_simp; rfl)) ?_; go_simp
 refine t_load_row rfl rfl 24 (.tmp 6) rfl w.heap.size rfl 24 cs hS (fun W hW => hW.1) _ Tryz.underlying24 rfl (by rw [info_head, HS6.out]) ?_; go_simp
 refine t_q rfl rfl hS _ (fun W hW => by (go_simp; rfl)) ?_; go_simp
 refine t_load_row rfl rfl 24 (.tmp 6) rfl w.heap.size rfl 24 cs hS (fun W hW => hW.1) _ Tryz.underlying24 rfl (by rw [info_head, HS6.out]) ?_; go_simp
 refine t_e rfl rfl fun K hK => ?_; go_simp
 refine (HFL.out _).mono ?_; rintro e w6 ⟨rfl, hb6⟩; have hS6 : Blk w6 w.heap.size 24 cs ∧ At w6 (some ⟨g3, 0, none⟩) WN ∧ At w6 (some ⟨gk, 0, none⟩) KN ∧ Below w.heap.size w w6 := ⟨hS.1.below hb6 hS.1.lt, hS.2.1.below hb6 lr, hS.2.2.1.below hb6 lr, hS.2.2.2.trans (hb6.mono hS.2.2.2.size)⟩; refine hK _ _ hS6 ?_; clear hK K hS hb6; refine t_e rfl rfl fun K hK => ?_; go_simp
 refine (HNF.out _).mono ?_; rintro e w7 ⟨⟨v, rfl, hv⟩, hb7⟩; obtain ⟨g7, c7, rfl, hA7, -, -⟩ := hv.at_ HLF.out hf0; have hS7 : Blk w7 w.heap.size 24 cs ∧ At w7 (some ⟨g3, 0, none⟩) WN ∧ At w7 (some ⟨gk, 0, none⟩) KN ∧ Below w.heap.size w w7 := ⟨hS6.1.below hb7 hS6.1.lt, hS6.2.1.below hb7 lr, hS6.2.2.1.below hb7 lr, hS6.2.2.2.trans (hb7.mono hS6.2.2.2.size)⟩; refine hK _ _ hS7 ?_; clear hK K hS6 hb7 hv; refine t_e rfl rfl fun K hK => ?_; go_simp
 refine (HWR.out _ _ _ _ _ _ w7 hS7.2.1 hS7.2.2.1 hA7 (fun W hW => HT.out _ (hS7.2.2.2.trans (hW.mono hS7.2.2.2.size)))).mono ?_; rintro e w8 ⟨rfl, hb8⟩; have hS8 : Blk w8 w.heap.size 24 cs ∧ At w8 (some ⟨g3, 0, none⟩) WN ∧ At w8 (some ⟨gk, 0, none⟩) KN ∧ Below w.heap.size w w8 := ⟨hS7.1.below hb8 hS7.1.lt, hS7.2.1.below hb8 lr, hS7.2.2.1.below hb8 lr, hS7.2.2.2.trans (hb8.mono hS7.2.2.2.size)⟩; refine hK _ _ hS8 ?_; clear hK K hS7 hb8 hA7; go_simp
 iterate 5 (refine t_q rfl rfl hS8 _ (fun W hW => by (go_simp; rfl)) ?_; go_simp)
 refine t_done ?_; obtain ⟨-, hA38, -, hbel8⟩ := hS8; have hjI : (j : Int) < (S.size : Int) := by omega
 have hj0 : (0 : Int) ≤ (j : Int) := by omega
 have HNE := Hh (show natsOf LT ≠ [] from ne_nil (n := S.size) (by unfold natsOf; rw [List.length_map, HLT.out]) (by omega))
 by_cases hx : turn = x0
 ·
  have t9 : ((turn : Int) == (x0 : Int)) = true := by rw [beq_iff_eq, hx]
  clear hx; go_wp2_with (refine wpList_to_free rfl 9 22 5 (.tmp 64) rfl S rfl Tryz.underlying9 Tryz.underlying22 Tryz.underlying5 ?_; intro cap9 w9 hcap9 hb9 hB9 hfz9 hs9; have hc9 := HCE.out _ _ hB9; have hf9 := hfz9 j hjN)
  go_ret
  exact ⟨rfl, hbel8.trans (hb9.mono hbel8.size)⟩
 ·
  have t9 : ((turn : Int) == (x0 : Int)) = false := by rw [beq_eq_false_iff_ne]; omega
  clear hx
  go_wp2_with (first
   | (refine wpList_to_free rfl 9 22 5 (.tmp 64) rfl S rfl Tryz.underlying9 Tryz.underlying22 Tryz.underlying5 ?_; intro cap9 w9 hcap9 hb9 hB9 hfz9 hs9; have hc9 := HCE.out _ _ hB9; have hf9 := hfz9 j hjN)
   | (refine wpList_to_text rfl 22 9 5 (.tmp 85) rfl (some ⟨w8.heap.size, 0, none⟩) LT S.size cap9 rfl HLT.out ⟨_, _, rfl, HST.out _ _ hB9⟩ Tryz.underlying22 Tryz.underlying5 Tryz.underlying9 rfl ?_))
  have hb10 : Below w8.heap.size w8 (w9.setCell ⟨w8.heap.size, j, none⟩ (.int .u8 (turn : Int))) := below_setCell (Below.refl _ _) hb9 lr ⟨w8.heap.size, j, none⟩ lr _; have hT10 := HST.out _ _ hB9; clear hB9 hfz9 hs9 hc9 hf9 hb9; generalize w9.setCell ⟨w8.heap.size, j, none⟩ (.int .u8 (turn : Int)) = w10 at *; have hA10 := hA38.below hb10 lr; have hbel10 := hbel8.trans (hb10.mono hbel8.size); clear hA38 hbel8 hb10; refine (HU.out _ _ _ hA10 (HG.out _ hbel10)).mono ?_; rintro e w11 ⟨⟨B, cB, u, rfl, hB11, hu11⟩, hb11⟩; have hA11 := hA10.below hb11 lr; have hT11 := hT10.below hb11 (hT10.lt HNE.out); have hbel11 := hbel10.trans (hb11.mono hbel10.size); clear hA10 hT10 hbel10 hb11; have hbn := (Below.refl w11.heap.size w11).alloc lr (.cells #[.int .u8 0, .string ⟨#[]⟩, .int .u8 0, .int .u8 0, .string ⟨#[]⟩, .int .u8 0] 24)
  go_wp2_with (first
   | (refine wpList_store_all rfl 24 (.tmp 17) (.tmp 88) rfl w11.heap.size ds rfl rfl 24 #[.int .u8 0, .string ⟨#[]⟩, .int .u8 0, .int .u8 0, .string ⟨#[]⟩, .int .u8 0] (Blk.new w11 _ _) (by rw [info_head, HD6.out]) (by rw [HD6.out]; rfl) HDO.out ?_; intro w12 hX12 hO; have hb := hO.below hbn lr; have hA12 := hA11.below hb lr; have hT12 := hT11.below hb (hT11.lt HNE.out); have hB12 := hB11.below hb lr; have hu12 := HEV.out _ _ _ hu11 hb; have hbel12 : Below w.heap.size w w12 := hbel11.trans (hb.mono hbel11.size); clear hO hbn hb hA11 hT11 hB11 hu11 hbel11)
   | (refine wpList_to_text rfl 22 9 5 (.tmp 93) rfl (some ⟨w8.heap.size, 0, none⟩) LT S.size cap9 rfl HLT.out ⟨_, _, rfl, hT12⟩ Tryz.underlying22 Tryz.underlying5 Tryz.underlying9 rfl ?_))
  refine (HRU.out _ _ _ hc3 hA12).mono ?_; rintro e w13 ⟨⟨D, cD, rfl, hD13⟩, hb⟩; have hA13 := hA12.below hb lr; have hB13 := hB12.below hb lr; have hu13 := HEV.out _ _ _ hu12 hb; have hX13 := hX12.below hb hX12.lt; have hbel13 := hbel12.trans (hb.mono hbel12.size); have hs13 := hX13.lt; clear hb hA12 hT12 hB12 hu12 hX12 hbel12; have hbn := (Below.refl w13.heap.size w13).alloc lr (.cells #[.int .u8 0, .string ⟨#[]⟩, .int .u8 0, .int .u8 0, .string ⟨#[]⟩, .int .u8 0] 24); go_wp2_with (refine wpList_store_all rfl 24 (.tmp 20) (.tmp 96) rfl w13.heap.size ds rfl rfl 24 #[.int .u8 0, .string ⟨#[]⟩, .int .u8 0, .int .u8 0, .string ⟨#[]⟩, .int .u8 0] (Blk.new w13 _ _) (by rw [info_head, HD6.out]) (by rw [HD6.out]; rfl) HDO.out ?_; intro w14 hY14 hO; have hb := hO.below hbn lr; have hA14 := hA13.below hb lr; have hB14 := hB13.below hb lr; have hD14 := hD13.below hb lr; have hX14 := hX13.below hb hs13; have hu14 := HEV.out _ _ _ hu13 hb; have hbel14 : Below w.heap.size w w14 := hbel13.trans (hb.mono hbel13.size); clear hO hbn hb hA13 hB13 hD13 hX13 hu13 hbel13)
  have hs14 := hX14.lt; have hy14 := hY14.lt; refine (HLG.out _ _ _ hA14 (HG.out _ hbel14)).mono ?_; rintro e w15 ⟨rfl, hb⟩; have hA15 := hA14.below hb lr; have hB15 := hB14.below hb lr; have hD15 := hD14.below hb lr; have hX15 := hX14.below hb hs14; have hY15 := hY14.below hb hy14; have hu15 := HEV.out _ _ _ hu14 hb; have hbel15 := hbel14.trans (hb.mono hbel14.size); have hs15 := hX15.lt; have hy15 := hY15.lt; clear hb hA14 hB14 hD14 hX14 hY14 hu14 hbel14 hs14 hy14 hs13; have hbn := (Below.refl w15.heap.size w15).alloc lr (.cells #[.int .u8 0, .string ⟨#[]⟩, .int .u8 0, .int .u8 0, .string ⟨#[]⟩, .int .u8 0] 24); go_wp2_with (refine wpList_store_all rfl 24 (.tmp 24) (.tmp 105) rfl w15.heap.size #[.int .u8 0, .string ⟨#[]⟩, .int .u8 0, .int .u8 0, .string ⟨#[]⟩, .int .u8 0] rfl rfl 24 #[.int .u8 0, .string ⟨#[]⟩, .int .u8 0, .int .u8 0, .string ⟨#[]⟩, .int .u8 0] (Blk.new w15 _ _) (by first | (rw [info_head]; rfl) | rw [info_head]) rfl (by simp [Value.oneCell']) ?_; intro w16 hV16 hO; have hb := hO.below hbn lr; have hA16 := hA15.below hb lr; have hB16 := hB15.below hb lr; have hD16 := hD15.below hb lr; have hX16 := hX15.below hb hs15; have hY16 := hY15.below hb hy15; have hu16 := HEV.out _ _ _ hu15 hb; have hbel16 : Below w.heap.size w w16 := hbel15.trans (hb.mono hbel15.size); clear hO hbn hb hV16 hA15 hB15 hD15 hX15 hY15 hu15 hbel15 hs15 hy15)
  have hs16 := hX16.lt; have hy16 := hY16.lt; refine (HSH.out _ _ _ hA16 (HG.out _ hbel16)).mono ?_; rintro e w17 ⟨rfl, hb⟩; have hB17 := hB16.below hb lr; have hD17 := hD16.below hb lr; have hX17 := hX16.below hb hs16; have hY17 := hY16.below hb hy16; have hu17 := HEV.out _ _ _ hu16 hb; have hbel17 := hbel16.trans (hb.mono hbel16.size); have hs17 := hX17.lt; have hy17 := hY17.lt; clear hb hA16 hB16 hD16 hX16 hY16 hu16 hbel16 hs16 hy16; have hbn := (Below.refl w17.heap.size w17).alloc lr (.cells #[.int .u8 0, .string ⟨#[]⟩, .int .u8 0, .int .u8 0, .string ⟨#[]⟩, .int .u8 0] 24)
  go_wp2_with (first
   | (refine wpList_store_all rfl 24 (.tmp 27) (.tmp 116) rfl w17.heap.size #[.int .u8 0, .string ⟨#[]⟩, .int .u8 0, .int .u8 0, .string ⟨#[]⟩, .int .u8 0] rfl rfl 24 #[.int .u8 0, .string ⟨#[]⟩, .int .u8 0, .int .u8 0, .string ⟨#[]⟩, .int .u8 0] (Blk.new w17 _ _) (by first | (rw [info_head]; rfl) | rw [info_head]) rfl (by simp [Value.oneCell']) ?_; intro w18 hV18 hO; have hb := hO.below hbn lr; have hB18 := hB17.below hb lr; have hD18 := hD17.below hb lr; have hX18 := hX17.below hb hs17; have hY18 := hY17.below hb hy17; have hu18 := HEV.out _ _ _ hu17 hb; have hbel18 : Below w.heap.size w w18 := hbel17.trans (hb.mono hbel17.size); clear hO hbn hb hV18 hB17 hD17 hX17 hY17 hu17 hbel17 hs17 hy17)
   | (refine wpList_load_rowG rfl 24 (.tmp 17) rfl w11.heap.size rfl 24 ds hX18 _ Tryz.underlying24 rfl (by rw [info_head, HD6.out]) ?_)
   | (refine wpList_load_rowG rfl 24 (.tmp 20) rfl w13.heap.size rfl 24 ds hY18 _ Tryz.underlying24 rfl (by rw [info_head, HD6.out]) ?_)
   | (refine wpList_eql_row rfl 24 24 (.tmp 119) (.tmp 120) rfl ds true rfl rfl (HEQ.out w18) (by unfold eqGuard; go_simp; done) ?_))
  refine (HSK.out _ _ _ _ _ hB18 hD18).mono ?_; rintro e w19 ⟨rfl, n19, rfl⟩; have hbel19 := below_drewN hbel18 n19; have hu19 : EV (w18.drewN n19) u := HEV.out _ _ _ hu18 (below_drewN (Below.refl w18.heap.size w18) n19); generalize w18.drewN n19 = w19 at *; clear hB18 hD18 hX18 hY18 hu18 hbel18; go_wp2_with fail
  refine (HC.out _ _ (HG.out _ hbel19) hu19).mono ?_; rintro e w20 ⟨rfl, hb⟩; have hbel20 := hbel19.trans (hb.mono hbel19.size); clear hb hu19 hbel19; go_wp2_with fail
  refine (HC2.out _ (HG.out _ hbel20)).mono ?_; rintro e w21 ⟨rfl, hb⟩; have hbel21 := hbel20.trans (hb.mono hbel20.size); clear hb hbel20; go_wp2_with fail
  refine (HC2.out _ (HG.out _ hbel21)).mono ?_; rintro e w22 ⟨rfl, hb⟩; have hbel22 := hbel21.trans (hb.mono hbel21.size); clear hb hbel21; go_wp2
  go_ret
  exact ⟨rfl, hbel22⟩

theorem spoilt11 (w : World) (l : List Nat) (gl : ∀ c ∈ l, c < 256) (A0 : Option Addr) (c0 : Nat) (_hc0 : l.length ≤ c0) (_hl : l.length ≤ 140737488351232) (hA0 : At w A0 l) (h : Hd) (hu : h.usage.size ≤ 140737488351232) (hs : h.serial.size ≤ 140737488351232)
    (m : List Nat) (gm : ∀ c ∈ m, c < 256) (A1 : Option Addr) (c1 : Nat) (_hc1 : m.length ≤ c1) (_hm : m.length ≤ 140737488351232) (hA1 : At w A1 m) (at_ : Nat) (hat : at_ < 256) (turn : Nat) (htu : turn < 256) (hG : EtOk w) (hT : TabOk w) :
    Calls Tryz.prog 9 #[.slice A0 l.length c0, .agg h.cells, .slice A1 m.length c1, .int .u8 at_, .int .u8 turn] w fun e w' => e = .returned (.bool true) ∧ Below w.heap.size w w' := by
 by_cases hall : l.length ≤ 100 ∧ m.length ≤ 100 ∧ rightEr h = .ok
 ·
  exact spoilt_in h hall.2.2 l m _ _ rfl rfl gl gm hall.1 hall.2.1 A0 A1 c0 c1 at_ turn hat htu w hA0 hA1 hG hT
 ·
  have HAW := Hh (fun W (hb : Below w.heap.size w W) => awake11_any W (hG.below hb lr) (fun W' hb' => (hT.below hb).below hb')); have HWG := Hh (fun W => refWrong_any h hu hs W); have hcs6 : h.cells.size = 6 := rfl; have hb0 : Below w.heap.size w (w.alloc (.cells h.cells 24)) := (Below.refl _ _).alloc lr _; have hB0 := Blk.new w 24 h.cells
  have t0 : 100 < l.length ∨ (l.length ≤ 100 ∧ 100 < m.length) ∨ (l.length ≤ 100 ∧ m.length ≤ 100 ∧ ∃ k : Nat, erAt (rightEr h) = (k : Int)) := by
   rcases Nat.lt_or_ge 100 l.length with h0 | h0
   ·
    exact .inl h0
   ·
    rcases Nat.lt_or_ge 100 m.length with h1 | h1
    ·
     exact .inr (.inl ⟨h0, h1⟩)
    ·
     refine .inr (.inr ⟨h0, h1, ?_⟩)
     rcases rightEr_cases h with hr | ⟨k, hr, -⟩
     ·
      exact absurd ⟨h0, h1, hr⟩ hall
     ·
      exact ⟨k, by rw [hr]; rfl⟩
  generalize h.cells = cs at *; generalize l.length = L0 at *; generalize m.length = M0 at *; generalize erAt (rightEr h) = z at *; have HS6 := Hh hcs6; clear hcs6; have HB0 := Hh hB0; clear hB0; have H0 := Hh hb0; clear hb0; clear hA0 hA1 hall _hl _hm _hc0 _hc1 hu hs hG hT gl gm hat htu
  rcases t0 with t0 | ⟨t0, t1⟩ | ⟨t0, t1, k, rfl⟩
  ·
   have h0 : 100 < (L0 : Int) := by omega
   go_enter Tryz.func9, Tryz.ntmps9
   go_wp2_with fail
   refine (HAW.out _ H0.out).mono ?_; rintro e w1 ⟨rfl, hb1⟩; have hb1 := H0.out.trans (hb1.mono H0.out.size); go_wp2_with fail
   refine (HAW.out _ hb1).mono ?_; rintro e w2 ⟨rfl, hb2⟩; have hb := hb1.trans (hb2.mono hb1.size); go_wp2
   go_ret
   exact ⟨rfl, hb⟩
  ·
   have h0 : (L0 : Int) ≤ 100 := by omega
   have h1 : 100 < (M0 : Int) := by omega
   go_enter Tryz.func9, Tryz.ntmps9
   go_wp2_with fail
   refine (HAW.out _ H0.out).mono ?_; rintro e w1 ⟨rfl, hb1⟩; have hb1 := H0.out.trans (hb1.mono H0.out.size); go_wp2_with fail
   refine (HAW.out _ hb1).mono ?_; rintro e w2 ⟨rfl, hb2⟩; have hb := hb1.trans (hb2.mono hb1.size); go_wp2
   go_ret
   exact ⟨rfl, hb⟩
  ·
   have h0 : (L0 : Int) ≤ 100 := by omega
   have h1 : (M0 : Int) ≤ 100 := by omega
   have hk : (0 : Int) ≤ (k : Int) := by omega
   go_enter Tryz.func9, Tryz.ntmps9
   go_wp2_with fail
   refine (HAW.out _ H0.out).mono ?_; rintro e w1 ⟨rfl, hb1⟩; have hH1 := HB0.out.below hb1 HB0.out.lt; have hb1 := H0.out.trans (hb1.mono H0.out.size)
   go_wp2_with (first
    | (refine wpList_load_rowG (by go_simp) 24 (.tmp 6) rfl w.heap.size rfl 24 cs hH1 _ Tryz.underlying24 rfl (by rw [info_head, HS6.out]) ?_))
   refine (HWG.out _).mono ?_; rintro e w2 ⟨rfl, hb2⟩; have hbel2 := hb1.trans (hb2.mono hb1.size); clear hb2 hH1; go_wp2_with fail
   refine (HAW.out _ hbel2).mono ?_; rintro e w3 ⟨rfl, hb3⟩; have hb := hbel2.trans (hb3.mono hbel2.size); go_wp2
   go_ret
   exact ⟨rfl, hb⟩
end Go.Proofs.YtfkjkkjimdilcaaGreatDoor
