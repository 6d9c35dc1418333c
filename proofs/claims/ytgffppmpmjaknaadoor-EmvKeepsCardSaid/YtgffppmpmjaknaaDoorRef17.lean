/- The contract of lockboxref17.Of. -/
import Derived.Test.YtgffppmpmjaknaaDoorRef3G
import Derived.Test.YtgffppmpmjaknaaDoorRef8E
import Derived.Test.YtgffppmpmjaknaaDoorCvvC
import Derived.Deep.LoopGhost
namespace Go.Proofs.YtgffppmpmjaknaaDoor
open Go Go.RowKit Pr

theorem decEr_cases (s : List UInt8) (lo hi : Nat) : decEr s lo hi = .no 2 ∨ (∃ k : Nat, decEr s lo hi = .fa k 16) ∨ decEr s lo hi = .ok := by
  unfold decEr
  split
  · exact .inl rfl
  · split
    · exact .inr (.inl ⟨_, rfl⟩)
    · exact .inr (.inr rfl)
theorem badAt_append (p : UInt8 → Bool) : ∀ (s t : List UInt8), badAt p (s ++ t) = match badAt p s with | some k => some k | none => (badAt p t).map (· + s.length)
  | [], t => by simp [badAt]
  | c :: s, t => by
    rw [List.cons_append, badAt, badAt, badAt_append p s t]
    cases p c with
    | true =>
      simp only [if_true]
      rcases badAt p s with _ | k
      · simp only [Option.map_none, List.length_cons, Option.map_map]
        congr 1
      · simp
    | false => simp
theorem app_list (s t : ByteArray) : (s ++ t).data.toList = s.data.toList ++ t.data.toList := by rw [ByteArray.data_append]; simp
theorem app_size (s t : ByteArray) : (s ++ t).size = s.size + t.size := ByteArray.size_append
theorem str_extract (L : List UInt8) (n : Nat) : (str L).extract 0 n = str (L.take n) := by
  apply ByteArray.ext
  simp [str]
def strLen : Value → Nat | .string s => s.size | _ => 0
theorem rep_snoc (n : Nat) : (Lib.repeatL [48] (n + 1) : List UInt8) = Lib.repeatL [48] n ++ [48] := by rw [Lib.repeatL_add, Lib.repeatL_one]

/-- the way to the answer, of what is right -/
theorem refOf_ok (pan date service : ByteArray) (key : List Nat) (hk : key.length = 16) (gk : ∀ c ∈ key, c < 256) (hok : cvvEr 16 pan.data.toList date.data.toList service.data.toList = .ok) (b o cp : Nat) (hcp : 16 ≤ cp) (w : World) (hB : Bs w b o key) :
    Calls Tryd.prog 27 #[.slice (some ⟨b, o, none⟩) 16 cp, .string pan, .string date, .string service] w fun e w' =>
      e = .returned (.tuple #[.string (str (cvvVal (key.take 8) (key.drop 8) pan.data.toList date.data.toList service.data.toList)), .int .i64 0, .int .i64 (-1)]) ∧ Below w.heap.size w w' := by
  obtain ⟨_, e2, e3, p1, p2, d1, d2, d3⟩ := cvvEr_ok hok
  have lp : pan.data.toList.length = pan.size := by simp
  have ld : date.data.toList.length = date.size := by simp
  have ls : service.data.toList.length = service.size := by simp
  rw [lp] at p1 p2
  rw [ld] at e2
  rw [ls] at e3
  have HW := Lib.hid (fun W => wrongR_any pan (by omega) 13 19 (by omega) (by omega) W)
  have hde : decEr pan.data.toList 13 19 = .ok := by unfold decEr; rw [if_neg (by rw [lp]; omega), badAt_none d1]
  rw [hde] at HW
  have hz : badZ (fun c => decide (valR c < 10)) (date ++ service).data.toList = -1 := by
    unfold badZ
    rw [badAt_congr valR_dec, app_list, badAt_none (fun c hc => by
      rcases List.mem_append.1 hc with h | h
      · exact d2 c h
      · exact d3 c h)]
  have hDSs := app_size date service
  have hPDs := app_size pan date
  have hT0s := app_size (pan ++ date) service
  have hT0l := app_list (pan ++ date) service
  rw [app_list pan date] at hT0l
  have HF := Lib.hid (fun W => refFirst_any (date ++ service) (by omega) 10 (by omega) W)
  rw [hz] at HF
  have hth := cvvText_hex _ _ _ d1 d2 d3
  have htl := cvvText_len pan.data.toList date.data.toList service.data.toList (by omega)
  have htd : cvvText pan.data.toList date.data.toList service.data.toList = (pan.data.toList ++ date.data.toList ++ service.data.toList) ++ Lib.repeatL [48] (32 - (pan.data.toList ++ date.data.toList ++ service.data.toList).length) := rfl
  have HV : Hid (cvvVal (key.take 8) (key.drop 8) pan.data.toList date.data.toList service.data.toList = (pickL (hexL (cvvN (key.take 8) (key.drop 8) ((unhexL (cvvText pan.data.toList date.data.toList service.data.toList)).take 8) ((unhexL (cvvText pan.data.toList date.data.toList service.data.toList)).drop 8)))).take 3) := rfl
  generalize cvvVal (key.take 8) (key.drop 8) pan.data.toList date.data.toList service.data.toList = VAL at *
  generalize cvvText pan.data.toList date.data.toList service.data.toList = TX at *
  rw [← hT0l] at htd
  generalize hDS : date ++ service = DS at *
  generalize hPD : pan ++ date = PD at *
  generalize hT0 : PD ++ service = T0 at *
  have HDS := Lib.hid hDS; clear hDS
  have HPD := Lib.hid hPD; clear hPD
  have HT0 := Lib.hid hT0; clear hT0
  have lt0 : T0.data.toList.length = T0.size := by simp
  have hst0 : str T0.data.toList = T0 := rfl
  generalize T0.data.toList = L0 at *
  have HST0 := Lib.hid hst0; clear hst0
  have HTD := Lib.hid htd; clear htd
  clear hz hde d1 d2 d3 hok hT0l lp ld ls
  -- the bytes
  have HU := Lib.hid (fun W => unhexR_any (str TX) (by rw [str_size, htl]; decide) hth (by rw [str_size, htl]) W)
  rw [str_list] at HU
  have hul := unhexL_len TX
  rw [htl] at hul
  have hut := unhexL_lt hth
  generalize unhexL TX = U at *
  have hu0 : (U.take 8).length = 8 := by rw [List.length_take, hul]; rfl
  have hu1 : (U.drop 8).length = 8 := by rw [List.length_drop, hul]
  have gu0 : ∀ c ∈ U.take 8, c < 256 := fun c h => hut c (List.mem_of_mem_take h)
  have gu1 : ∀ c ∈ U.drop 8, c < 256 := fun c h => hut c (List.mem_of_mem_drop h)
  have h0 : (key.take 8).length = 8 := by rw [List.length_take, hk]; rfl
  have h1 : (key.drop 8).length = 8 := by rw [List.length_drop, hk]
  have n0 : Bs w b o (key.take 8) := by have := hB.sub 0 8; simpa using this
  have n1 : Bs w b (o + 8) (key.drop 8) := by have := hB.sub 8 8; rwa [List.take_of_length_le (by rw [h1]; decide)] at this
  have hbl := hB.lt (by intro h; rw [h] at hk; cases hk)
  have g0 : ∀ c ∈ key.take 8, c < 256 := fun c h => gk c (List.mem_of_mem_take h)
  have g1 : ∀ c ∈ key.drop 8, c < 256 := fun c h => gk c (List.mem_of_mem_drop h)
  have hUs : ∀ W g, Bs W g 0 U → Bs W g 0 (U.take 8) ∧ Bs W g 8 (U.drop 8) := fun W g h => ⟨by have := h.sub 0 8; simpa using this, by have := h.sub 8 8; rwa [Nat.zero_add, List.take_of_length_le (by rw [hu1]; decide)] at this⟩
  have HUS := Lib.hid hUs; clear hUs
  have hN : ∀ b0 b1, cvvN (key.take 8) (key.drop 8) b0 b1 = blockN (key.take 8) (blockN (key.drop 8) (blockN (key.take 8) (xorN (blockN (key.take 8) b0 false) b1) false) true) false := fun _ _ => rfl
  rw [hN] at HV
  clear hN hB hk gk
  generalize key.take 8 = k0 at *
  generalize key.drop 8 = k1 at *
  generalize U.take 8 = u0 at *
  generalize U.drop 8 = u1 at *
  have HBK := Lib.hid (fun (x : List Nat) hx gx back B cb W a c => block3_any k0 x back h0 g0 hx gx (some ⟨b, o, none⟩) B cp cb W a c)
  have HBK1 := Lib.hid (fun (x : List Nat) hx gx back B cb W a c => block3_any k1 x back h1 g1 hx gx (some ⟨b, o + 8, none⟩) B (cp - 8) cb W a c)
  have hx0 := blockN_len k0 u0 false
  have gx0 := blockN_lt k0 u0 false
  have H1 := Lib.hid (HBK.out u0 hu0 gu0 false)
  generalize blockN k0 u0 false = x0 at *
  have hx1 : (xorN x0 u1).length = 8 := by unfold xorN; rw [xorTo_len, hx0]
  have gx1 : ∀ c ∈ xorN x0 u1, c < 256 := xorTo_lt x0 u1 gx0 gu1 8
  have H2 := Lib.hid (fun A B ca cb W a c => xorR_any x0 u1 hx0 hu1 gx0 gu1 A B ca cb W a c)
  generalize xorN x0 u1 = x1 at *
  have hx2 := blockN_len k0 x1 false
  have gx2 := blockN_lt k0 x1 false
  have H3 := Lib.hid (HBK.out x1 hx1 gx1 false)
  generalize blockN k0 x1 false = x2 at *
  have hx3 := blockN_len k1 x2 true
  have gx3 := blockN_lt k1 x2 true
  have H4 := Lib.hid (HBK1.out x2 hx2 gx2 true)
  generalize blockN k1 x2 true = x3 at *
  have hx4 := blockN_len k0 x3 false
  have gx4 := blockN_lt k0 x3 false
  have H5 := Lib.hid (HBK.out x3 hx3 gx3 false)
  generalize blockN k0 x3 false = x4 at *
  have H6 := Lib.hid (fun A c W a => hexR_any x4 gx4 (by omega) A c W a)
  rw [hx4] at H6
  have hhl := hexL_len x4
  rw [hx4] at hhl
  have H7 := Lib.hid (fun W => pickR_any (str (hexL x4)) (by rw [str_size, hhl]; decide) (hexL_hex x4 gx4) W)
  rw [str_list] at H7
  have hpl := pickL_len (hexL x4)
  rw [hhl] at hpl
  generalize hexL x4 = HX at *
  generalize pickL HX = PK at *
  have hps := str_size PK
  rw [hpl] at hps
  have hpx := str_extract PK 3
  rw [← HV.out] at hpx
  have HPX := Lib.hid hpx; clear hpx
  have HUL := Lib.hid hul; clear hul
  have HX0 := Lib.hid hx0; clear hx0
  have HX1 := Lib.hid hx1; clear hx1
  have HX2 := Lib.hid hx2; clear hx2
  have HX3 := Lib.hid hx3; clear hx3
  have HX4 := Lib.hid hx4; clear hx4
  have HTL := Lib.hid htl; clear htl
  clear HBK HBK1 h0 h1 g0 g1 gx0 gx1 gx2 gx3 gx4 gu0 gu1 hut hth hhl hpl HV hu0 hu1
  generalize str HX = SHX at *
  generalize str PK = SPK at *
  have t1 : ((date.size : Int) != 4) = false := by rw [bne_eq_false_iff_eq]; omega
  have t2 : ((service.size : Int) != 3) = false := by rw [bne_eq_false_iff_eq]; omega
  have hci : (8 : Int) ≤ (cp : Int) := by omega
  have hci2 : (16 : Int) ≤ (cp : Int) := by omega
  have hci3 : ¬ cp = 8 := by omega
  have b1 : ¬ 9223372036854775807 < date.size + service.size := by omega
  have b2 : ¬ 9223372036854775807 < pan.size + date.size := by omega
  have b3 : ¬ 9223372036854775807 < PD.size + service.size := by omega
  have f1 : erCode .ok = 0 := rfl
  have f2 : erAt .ok = -1 := rfl
  go_enter Tryd.func27, Tryd.ntmps27
  go_wp2_with fail
  refine (HW.out _).mono ?_
  rintro e w1 ⟨rfl, rfl⟩
  rw [f1, f2]
  go_wp2_with fail
  rw [HDS.out]
  refine (HF.out _).mono ?_
  rintro e w1 ⟨rfl, rfl⟩
  go_wp2_with fail
  rw [HPD.out, HT0.out]
  have hstart : T0 = str (L0 ++ Lib.repeatL [48] 0) := by rw [show (Lib.repeatL [48] 0 : List UInt8) = [] from rfl, List.append_nil, HST0.out]
  have hlen0 : L0.length = pan.size + 7 := by omega
  clear hT0s hPDs hDSs lt0
  go_loop [14] (fun v => ∃ k : Nat, L0.length + k ≤ 32 ∧ v = .string (str (L0 ++ Lib.repeatL [48] k))) (fun v => 32 - strLen v)
  case atStart => exact ⟨0, by omega, by rw [← hstart]⟩
  case round =>
    obtain ⟨k, hk32, rfl⟩ := hrel
    have hsz := str_size (L0 ++ Lib.repeatL [48] k)
    rw [List.length_append, Lib.repeatL_length] at hsz
    by_cases hlt : L0.length + k < 32
    · have hadd := str_add (L0 ++ Lib.repeatL [48] k) [48]
      rw [List.append_assoc, ← rep_snoc, ← str_one] at hadd
      have hsz2 := str_size (L0 ++ Lib.repeatL [48] (k + 1))
      rw [List.length_append, Lib.repeatL_length] at hsz2
      generalize hY0 : str (L0 ++ Lib.repeatL [48] k) = Y0 at *
      generalize hY1 : str (L0 ++ Lib.repeatL [48] (k + 1)) = Y1 at *
      have HY1 := Lib.hid hY1; clear hY1 hY0
      have HADD := Lib.hid hadd; clear hadd
      have hq1 : (Y0.size : Int) < 32 := by simp at hsz; omega
      have hq2 : ¬ 9223372036854775807 < Y0.size + 1 := by omega
      go_wp2
      go_round
      case rel => exact ⟨k + 1, by omega, by rw [HADD.out, HY1.out]⟩
      case measure => rw [HADD.out]; simp [strLen]; simp at hsz hsz2; omega
    · have hk : k = 32 - L0.length := by omega
      rw [hk, ← HTD.out]
      rw [hk, ← HTD.out] at hsz
      have hq1 : ¬ ((str TX).size : Int) < 32 := by rw [str_size, HTL.out]; decide
      clear hk hsz
      generalize str TX = STX at *
      go_wp2_with fail
      refine (HU.out _).mono ?_
      rintro e w2 ⟨⟨v, rfl, hv⟩, hb2⟩
      obtain ⟨gu, cu, rfl, -, hcu, hgu, hNU⟩ := hv.form (by intro h; have := HUL.out; rw [h] at this; cases this)
      rw [HUL.out] at hcu ⊢
      obtain ⟨hNu0, hNu1⟩ := HUS.out _ _ hNU
      have hcu1 : (8 : Int) ≤ (cu : Int) := by omega
      have hcu2 : (16 : Int) ≤ (cu : Int) := by omega
      have hcu3 : ¬ cu = 8 := by omega
      clear hv hNU
      go_wp2_with fail
      refine wp_region_tree (.q 0 (.q 1 (.q 2 (.q 3 (.q 5 (.q 6 (.e [4] fun _ => .e [7] fun _ => .e [8] fun _ => .q 9 (.done)))))))) (fun _ => True) rfl (by kernel_rfl) (fun _ _ d _ _ h => by cases d <;> exact h) ?_
      iterate 3 (refine t_q rfl rfl trivial _ (fun W hW => by (go_simp; rfl)) ?_; go_simp)
      refine t_q rfl rfl trivial (.slice (some ⟨gu, 0, none⟩) 8 cu) (fun W hW => by (go_simp; try omega)) ?_
      go_simp
      refine t_q rfl rfl trivial _ (fun W hW => by (go_simp; rfl)) ?_
      go_simp
      refine t_q rfl rfl trivial (.slice (some ⟨gu, 8, none⟩) 8 (cu - 8)) (fun W hW => by (go_simp; try omega)) ?_
      go_simp
      refine t_e rfl rfl fun K hK => ?_
      go_simp
      refine (H1.out _ _ _ (fun _ => ⟨_, _, rfl, (n0.below hb2 hbl).drewN 1⟩) (fun _ => ⟨_, _, rfl, hNu0.drewN 1⟩)).mono ?_
      rintro e w3 ⟨⟨v, rfl, hv⟩, hb3⟩
      obtain ⟨g3, c3, rfl, -, -, hg3, hN3⟩ := hv.form (by intro h; have := HX0.out; rw [h] at this; cases this)
      rw [HX0.out]
      have hb23 : Below w2.heap.size w2 w3 := (below_drewN (Below.refl _ _) 1).trans hb3
      refine hK _ _ trivial ?_
      clear hK K hv
      go_simp
      refine t_e rfl rfl fun K hK => ?_
      go_simp
      refine (H2.out _ _ _ _ _ (fun _ => ⟨_, _, rfl, hN3⟩) (fun _ => ⟨_, _, rfl, hNu1.below hb23 hgu⟩)).mono ?_
      rintro e w4 ⟨⟨v, rfl, hv⟩, hb4⟩
      obtain ⟨g4, c4, rfl, -, -, hg4, hN4⟩ := hv.form (by intro h; have := HX1.out; rw [h] at this; cases this)
      rw [HX1.out]
      have hb24 : Below w2.heap.size w2 w4 := hb23.trans (hb4.mono hb23.size)
      have hbw4 : Below w.heap.size w w4 := hb2.trans (hb24.mono hb2.size)
      refine hK _ _ trivial ?_
      clear hK K hv
      go_simp
      refine t_e rfl rfl fun K hK => ?_
      go_simp
      refine (H3.out _ _ _ (fun _ => ⟨_, _, rfl, n0.below hbw4 hbl⟩) (fun _ => ⟨_, _, rfl, hN4⟩)).mono ?_
      rintro e w5 ⟨⟨v, rfl, hv⟩, hb5⟩
      obtain ⟨g5, c5, rfl, -, -, hg5, hN5⟩ := hv.form (by intro h; have := HX2.out; rw [h] at this; cases this)
      rw [HX2.out]
      have hbw5 : Below w.heap.size w w5 := hbw4.trans (hb5.mono hbw4.size)
      refine hK _ _ trivial ?_
      clear hK K hv
      go_simp
      refine t_q rfl rfl trivial _ (fun W hW => by (go_simp; rfl)) ?_
      go_simp
      refine t_done ?_
      clear H1 H2 H3 hb23 hb24 hbw4 hb3 hb4 hb5 hN3 hN4 hNu0 hNu1
      go_wp2_with fail
      refine (H4.out _ _ _ (fun _ => ⟨_, _, rfl, n1.below hbw5 hbl⟩) (fun _ => ⟨_, _, rfl, hN5⟩)).mono ?_
      rintro e w6 ⟨⟨v, rfl, hv⟩, hb6⟩
      obtain ⟨g6, c6, rfl, -, -, hg6, hN6⟩ := hv.form (by intro h; have := HX3.out; rw [h] at this; cases this)
      rw [HX3.out]
      have hbw6 : Below w.heap.size w w6 := hbw5.trans (hb6.mono hbw5.size)
      go_wp2_with fail
      refine (H5.out _ _ _ (fun _ => ⟨_, _, rfl, n0.below hbw6 hbl⟩) (fun _ => ⟨_, _, rfl, hN6⟩)).mono ?_
      rintro e w7 ⟨⟨v, rfl, hv⟩, hb7⟩
      obtain ⟨g7, c7, rfl, -, -, hg7, hN7⟩ := hv.form (by intro h; have := HX4.out; rw [h] at this; cases this)
      rw [HX4.out]
      have hbw7 : Below w.heap.size w w7 := hbw6.trans (hb7.mono hbw6.size)
      go_wp2_with fail
      refine (H6.out _ _ _ (fun _ => ⟨_, _, rfl, hN7⟩)).mono ?_
      rintro e w8 ⟨rfl, hb8⟩
      have hbw8 : Below w.heap.size w w8 := hbw7.trans (hb8.mono hbw7.size)
      go_wp2_with fail
      refine (H7.out _).mono ?_
      rintro e w9 ⟨rfl, hb9⟩
      have hbw9 : Below w.heap.size w w9 := hbw8.trans (hb9.mono hbw8.size)
      go_wp2
      go_ret3
      rw [HPX.out]
      exact ⟨rfl, hbw9⟩
end Go.Proofs.YtgffppmpmjaknaaDoor
