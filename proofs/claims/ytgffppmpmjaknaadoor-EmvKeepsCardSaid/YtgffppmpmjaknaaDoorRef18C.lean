/- The contract of lockboxref18.Card. -/
import Derived.Test.YtgffppmpmjaknaaDoorRef18S
import Derived.Test.YtgffppmpmjaknaaDoorRef17B
import Derived.Test.YtgffppmpmjaknaaDoorRef8D
namespace Go.Proofs.YtgffppmpmjaknaaDoor
open Go Go.RowKit Pr

theorem str_extract2 (L : List UInt8) (a b : Nat) (hb : b = L.length) : (str L).extract a b = str (L.drop a) := by
  apply ByteArray.ext
  subst hb
  simp [str]
  exact List.take_of_length_le (by simp)
theorem drop_left_add (A B : List UInt8) (m : Nat) : (A ++ B).drop (A.length + m) = B.drop m := by
  rw [List.drop_append]; simp
theorem cardTail_of (k : Nat) (hk : k ≤ 16) (pan seq : List UInt8) (h : 16 ≤ k + (pan ++ seq).length) : (Lib.repeatL [48] k ++ (pan ++ seq)).drop (k + (pan ++ seq).length - 16) = cardTail pan seq := by
  unfold cardTail
  have e : (Lib.repeatL [48] 16 : List UInt8) = Lib.repeatL [48] (16 - k) ++ Lib.repeatL [48] k := by rw [← Lib.repeatL_add]; congr 1; omega
  rw [e, List.append_assoc, List.append_assoc]
  have e2 : 16 + pan.length + seq.length - 16 = (Lib.repeatL [48] (16 - k) : List UInt8).length + (k + (pan ++ seq).length - 16) := by rw [Lib.repeatL_length, List.length_append] at *; simp; omega
  rw [e2, drop_left_add]
theorem rep_cons (n : Nat) : (Lib.repeatL [48] (n + 1) : List UInt8) = [48] ++ Lib.repeatL [48] n := by rw [Nat.add_comm, Lib.repeatL_add, Lib.repeatL_one]
theorem cardTail_hex (pan seq : List UInt8) (h1 : ∀ c ∈ pan, isDec c = true) (h2 : ∀ c ∈ seq, isDec c = true) : ∀ c ∈ cardTail pan seq, isHex c = true := by
  intro c hc
  unfold cardTail at hc
  have hc := List.mem_of_mem_drop hc
  simp only [List.mem_append] at hc
  rcases hc with (h | h) | h
  · have := mem_repeat _ _ _ h
    simp at this
    subst this
    decide
  · exact isHex_of_dec (h1 c h)
  · exact isHex_of_dec (h2 c h)
theorem cardTail_len (pan seq : List UInt8) : (cardTail pan seq).length = 16 := by
  unfold cardTail
  rw [List.length_drop, List.length_append, List.length_append, Lib.repeatL_length]
  simp; omega
theorem notN_take (U : List Nat) (j : Nat) (h : j < U.length) : (notN U).take (j + 1) = (notN U).take j ++ [255 - U[j]] := by
  unfold notN
  rw [List.take_succ_eq_append_getElem (by rw [List.length_map]; exact h)]
  simp

set_option maxHeartbeats 4000000 in
set_option maxRecDepth 100000 in
/-- the way to the answer, of what is right -/
theorem refCard_ok (pan seq : ByteArray) (key : List Nat) (hk : key.length = 16) (gk : ∀ c ∈ key, c < 256) (hok : cardEr 16 pan.data.toList seq.data.toList = .ok) (b o cp : Nat) (hcp : 16 ≤ cp) (w : World) (hB : Bs w b o key) :
    Calls Tryd.prog 19 #[.slice (some ⟨b, o, none⟩) 16 cp, .string pan, .string seq] w fun e w' =>
      (∃ v, e = .returned (.tuple #[v, .int .i64 0, .int .i64 (-1)]) ∧ Own w' w.heap.size v (cardN key pan.data.toList seq.data.toList)) ∧ Below w.heap.size w w' := by
  have lp : pan.data.toList.length = pan.size := by simp
  have ls : seq.data.toList.length = seq.size := by simp
  obtain ⟨hs2, hde, hsd⟩ : seq.size = 2 ∧ decEr pan.data.toList 13 19 = .ok ∧ ∀ c ∈ seq.data.toList, isDec c = true := by
    unfold cardEr at hok
    split at hok
    · cases hok
    · rename_i h1
      split at hok
      · rename_i h2
        split at hok
        · cases hok
        · rename_i h3
          exact ⟨by omega, h2, all_of_badAt h3⟩
      · rename_i e he; exact absurd hok (by intro h'; exact he h')
  obtain ⟨p1, p2, hpd⟩ := decEr_ok hde
  rw [lp] at p1 p2
  have HW := Lib.hid (fun W => wrongR_any pan (by omega) 13 19 (by omega) (by omega) W)
  rw [hde] at HW
  have hz : badZ (fun c => decide (valR c < 10)) seq.data.toList = -1 := by
    unfold badZ
    rw [badAt_congr valR_dec, badAt_none hsd]
  have HF := Lib.hid (fun W => refFirst_any seq (by omega) 10 (by omega) W)
  rw [hz] at HF
  have hth := cardTail_hex _ _ hpd hsd
  have htl := cardTail_len pan.data.toList seq.data.toList
  have hct := fun k hk h => cardTail_of k hk pan.data.toList seq.data.toList h
  have hcn : cardN key pan.data.toList seq.data.toList = (pairN key (unhexL (cardTail pan.data.toList seq.data.toList)) (notN (unhexL (cardTail pan.data.toList seq.data.toList)))).map oddN := rfl
  have hPSs := app_size pan seq
  have hPSl := app_list pan seq
  rw [hcn]
  rw [← hPSl] at hct
  generalize cardTail pan.data.toList seq.data.toList = TX at *
  generalize hPS : pan ++ seq = PS at *
  have HPS := Lib.hid hPS; clear hPS
  have hst0 : str PS.data.toList = PS := rfl
  have lps : PS.data.toList.length = PS.size := by simp
  generalize PS.data.toList = L0 at *
  have HST0 := Lib.hid hst0; clear hst0
  have HCT := Lib.hid hct; clear hct
  have HU := Lib.hid (fun W => unhexR_any (str TX) (by rw [str_size, htl]; decide) hth (by rw [str_size, htl]) W)
  rw [str_list] at HU
  have hul := unhexL_len TX
  rw [htl] at hul
  have hut := unhexL_lt hth
  generalize unhexL TX = U at *
  have hnl : (notN U).length = 8 := by unfold notN; rw [List.length_map, hul]
  have hnt : ∀ c ∈ notN U, c < 256 := by
    intro c hc
    unfold notN at hc
    obtain ⟨x, _, rfl⟩ := List.mem_map.1 hc
    omega
  have hns : ∀ j (h : j < U.length), (notN U).take (j + 1) = (notN U).take j ++ [255 - U[j]] := fun j h => notN_take U j h
  have hP : pairN key U (notN U) = triple16 (key.take 8) (key.drop 8) U false ++ triple16 (key.take 8) (key.drop 8) (notN U) false := rfl
  have hpl := pairN_len key U (notN U)
  have hplt := pairN_lt key U (notN U)
  have hlx := triple16_len (key.take 8) (key.drop 8) U false
  have hly := triple16_len (key.take 8) (key.drop 8) (notN U) false
  have HX := Lib.hid (fun B cb W a b' => triple3_any key U hk gk hul hut (some ⟨b, o, none⟩) B cp cb hcp W a b')
  have HY := Lib.hid (fun B cb W a b' => triple3_any key (notN U) hk gk hnl hnt (some ⟨b, o, none⟩) B cp cb hcp W a b')
  have hbl := hB.lt (by intro h; rw [h] at hk; cases hk)
  generalize triple16 (key.take 8) (key.drop 8) U false = tx at *
  generalize triple16 (key.take 8) (key.drop 8) (notN U) false = ty at *
  generalize notN U = NU at *
  generalize pairN key U NU = PR at *
  have HODD := Lib.hid (fun A c W a => oddR_any PR hplt (by omega) A c W a)
  rw [hpl] at HODD
  have HUL := Lib.hid hul; clear hul
  have HUT := Lib.hid hut; clear hut
  have HNL := Lib.hid hnl; clear hnl
  have HNS := Lib.hid hns; clear hns
  have HPP := Lib.hid hP; clear hP
  have HPL := Lib.hid hpl; clear hpl
  have HLX := Lib.hid hlx; clear hlx
  have HLY := Lib.hid hly; clear hly
  have HTL := Lib.hid htl; clear htl
  clear hk gk hok hde hpd hsd hz hcn hPSl hplt hnt lp ls hth
  have t2 : ((seq.size : Int) != 2) = false := by rw [bne_eq_false_iff_eq]; omega
  have b1 : ¬ 9223372036854775807 < pan.size + seq.size := by omega
  have f1 : erCode .ok = 0 := rfl
  have f2 : erAt .ok = -1 := rfl
  go_enter Tryd.func19, Tryd.ntmps19
  go_wp2_with fail
  refine (HW.out _).mono ?_
  rintro e w1 ⟨rfl, rfl⟩
  rw [f1, f2]
  go_wp2_with fail
  refine (HF.out _).mono ?_
  rintro e w1 ⟨rfl, rfl⟩
  go_wp2_with fail
  rw [HPS.out]
  have hstart : Hid (PS = str (Lib.repeatL [48] 0 ++ L0)) := by show PS = _; rw [show (Lib.repeatL [48] 0 : List UInt8) = [] from rfl, List.nil_append, HST0.out]
  have hL1 : 15 ≤ L0.length := by omega
  have hL2 : L0.length ≤ 21 := by omega
  clear lps hPSs
  go_loop [11] (fun v => ∃ k : Nat, k ≤ 16 ∧ (k = 0 ∨ k + L0.length ≤ 16) ∧ v = .string (str (Lib.repeatL [48] k ++ L0))) (fun v => 16 - strLen v)
  case atStart => exact ⟨0, by omega, .inl rfl, by rw [← hstart.out]⟩
  case round =>
    obtain ⟨k, hk16, hkL, rfl⟩ := hrel
    have hsz := str_size (Lib.repeatL [48] k ++ L0)
    rw [List.length_append, Lib.repeatL_length] at hsz
    by_cases hlt : k + L0.length < 16
    · have hadd := str_add [48] (Lib.repeatL [48] k ++ L0)
      rw [← List.append_assoc, ← rep_cons, ← str_one] at hadd
      have hsz2 := str_size (Lib.repeatL [48] (k + 1) ++ L0)
      rw [List.length_append, Lib.repeatL_length] at hsz2
      generalize hY0 : str (Lib.repeatL [48] k ++ L0) = Y0 at *
      generalize hY1 : str (Lib.repeatL [48] (k + 1) ++ L0) = Y1 at *
      have HY1 := Lib.hid hY1; clear hY1 hY0
      have HADD := Lib.hid hadd; clear hadd
      have hq1 : (Y0.size : Int) < 16 := by simp at hsz; omega
      have hq2 : ¬ 9223372036854775807 < 1 + Y0.size := by omega
      have hk1 : k + 1 ≤ 16 ∧ (k + 1 = 0 ∨ k + 1 + L0.length ≤ 16) := by omega
      go_wp2
      go_round
      case rel => exact ⟨k + 1, hk1.1, hk1.2, by rw [HADD.out, HY1.out]⟩
      case measure => rw [HADD.out]; simp [strLen]; simp at hsz hsz2; omega
    · have hsz' : (str (Lib.repeatL [48] k ++ L0)).size = k + L0.length := by rw [hsz]; simp
      have hex : (str (Lib.repeatL [48] k ++ L0)).extract (k + L0.length - 16) (k + L0.length) = str TX := by
        rw [str_extract2 _ _ _ (by rw [List.length_append, Lib.repeatL_length]; simp), HCT.out k hk16 (by omega)]
      have hkb : k + L0.length ≤ 1000 := by omega
      clear hsz
      generalize str (Lib.repeatL [48] k ++ L0) = Y0 at *
      have hq1 : ¬ (Y0.size : Int) < 16 := by omega
      generalize hm : k + L0.length = m at *
      have HEX := Lib.hid hex; clear hex hm
      have hm1 : ¬ m < 16 := by omega
      have hm2 : (16 : Int) ≤ (m : Int) := by omega
      have hm3 : ((m : Int) - 16).toNat = m - 16 := by omega
      go_wp2_with fail
      rw [HEX.out]
      refine (HU.out _).mono ?_
      rintro e w2 ⟨⟨v, rfl, hv⟩, hb2⟩
      obtain ⟨gu, cu, rfl, -, hcu, hgu, hNU⟩ := hv.form (by intro h; have := HUL.out; rw [h] at this; cases this)
      rw [HUL.out] at hcu ⊢
      have hUc : ∀ W, Below w2.heap.size w2 W → ∀ j (hj : j < U.length), W.cell? ⟨gu, j, none⟩ = some (.int .u8 (U[j] : Nat)) := fun W hW j hj => by
        have := (hNU.below hW hgu).cell j hj
        rwa [Nat.zero_add] at this
      have HUC := Lib.hid hUc; clear hUc
      clear hv
      go_wp2
      go_loopw [13, 14] (fun v i wr => ∃ j : Nat, j ≤ 8 ∧ i = .int .i64 j ∧ Own wr w2.heap.size v (NU.take j) ∧ Below w2.heap.size w2 wr) (fun _ i _ => 8 - (intOf i).toNat)
      case atStart => exact ⟨0, by omega, rfl, Own.nil _ _, Below.refl _ _⟩
      case round =>
        obtain ⟨j, hj, rfl, hown, hbel⟩ := hrel
        by_cases hj8 : j < 8
        · have hji : (j : Int) < 8 := by omega
          have hju : j < U.length := by rw [HUL.out]; exact hj8
          have hst := HNS.out j hju
          have hc1 := HUC.out _ hbel j hju
          have hlt := HUT.out U[j] (List.getElem_mem _)
          obtain ⟨x, hx⟩ : ∃ x, U[j] = x := ⟨_, rfl⟩
          rw [hx] at hst hc1 hlt
          clear hx
          have e1 : IntKind.u8.wrap (255 - (x : Int)) = ((255 - x : Nat) : Int) := by simp [IntKind.wrap, IntKind.bits, IntKind.signed]; omega
          have e2 : 255 - (x : Int) = ((255 - x : Nat) : Int) := by omega
          obtain ⟨d, hd⟩ : ∃ d, 255 - x = d := ⟨_, rfl⟩
          rw [hd] at e1 e2 hst
          clear hd
          have E2 := Lib.hid e2; clear e2
          have HST := Lib.hid hst; clear hst
          have hl4 : (NU.take j).length ≤ 8 := by rw [List.length_take]; omega
          generalize NU.take j = T at *
          have hszr := hbel.size
          go_wp2_with (at_builtin; refine wpList_append_nums rfl (.tmp 56) (.tmp 62) 22 rfl .u8 5 1 Tryd.underlying22 info_byte w2.heap.size w2 _ T rfl (OwnN.below hown ((Below.refl wr.heap.size wr).alloc (Nat.le_refl _) _) (Nat.le_refl _)) (hbel.alloc hszr _) (by simp; omega) _ 1 1 [d] rfl rfl ⟨_, _, rfl, by first | exact Ns.new .u8 wr 5 d | (rw [E2.out]; exact Ns.new .u8 wr 5 d)⟩ (by omega) (by omega) ?_; intro v5 w5 hown5 hbel5 hsz5)
          rw [← HST.out] at hown5
          go_wp2
          go_roundw
          case rel => exact ⟨j + 1, by omega, by go_num, hown5, hbel5⟩
          case measure => simp [intOf]; omega
        · obtain rfl : j = 8 := by omega
          have hN : NU.take 8 = NU := List.take_of_length_le (by rw [HNL.out]; exact Nat.le_refl _)
          rw [hN] at hown
          clear hN
          obtain ⟨wo, rfl⟩ : ∃ wo, wo = wr := ⟨_, rfl⟩
          obtain ⟨gn, cn, rfl, -, -, hgn, hNN⟩ := hown.form (by intro h; have := HNL.out; rw [h] at this; cases this)
          rw [HNL.out]
          have hUw := hNU.below hbel hgu
          have hbw : Below w.heap.size w wo := hb2.trans (hbel.mono hb2.size)
          have hguo := Nat.lt_of_lt_of_le hgu hbel.size
          have hmE : OwnN 5 .u8 (wo.alloc (.cells #[] 5)) wo.heap.size (.slice (some ⟨wo.heap.size, 0, none⟩) 0 0) [] := OwnN.made _ _ wo _ (Nat.le_refl _)
          have hbE : Below wo.heap.size wo (wo.alloc (.cells #[] 5)) := (Below.refl _ _).alloc (Nat.le_refl _) _
          clear hown
          go_wp2_with fail
          refine (HX.out _ _ _ (fun _ => ⟨_, _, rfl, (hB.below hbw hbl).alloc _⟩) (fun _ => ⟨_, _, rfl, hUw.alloc _⟩)).mono ?_
          rintro e w3 ⟨⟨v, rfl, hv⟩, hb3⟩
          obtain ⟨g3, c3, rfl, -, -, hg3, hN3⟩ := hv.form (by intro h; have := HLX.out; rw [h] at this; cases this)
          rw [HLX.out]
          have hbo3 : Below wo.heap.size wo w3 := hbE.trans (hb3.mono (by simp))
          have hmE3 : OwnN 5 .u8 w3 wo.heap.size (.slice (some ⟨wo.heap.size, 0, none⟩) 0 0) [] := OwnN.below hmE hb3 (Nat.le_refl _)
          clear hv hmE hbE
          go_wp2_with (at_builtin; refine wpList_append_nums rfl (.tmp 64) (.tmp 67) 22 rfl .u8 5 1 Tryd.underlying22 info_byte wo.heap.size wo _ [] rfl hmE3 hbo3 hbo3.size _ 8 _ tx rfl HLX.out ⟨_, _, rfl, hN3⟩ (by simp) (by omega) ?_; intro x4 w4 hx4 hy4 hz4)
          rw [List.nil_append] at hx4
          have hbw4 : Below w.heap.size w w4 := hbw.trans (hy4.mono hbw.size)
          refine (HY.out _ _ _ (fun _ => ⟨_, _, rfl, hB.below hbw4 hbl⟩) (fun _ => ⟨_, _, rfl, hNN.below hy4 hgn⟩)).mono ?_
          rintro e w5 ⟨⟨v, rfl, hv⟩, hb5⟩
          obtain ⟨g5, c5, rfl, -, -, hg5, hN5⟩ := hv.form (by intro h; have := HLY.out; rw [h] at this; cases this)
          rw [HLY.out]
          have hx5 := OwnN.below hx4 hb5 (Nat.le_refl _)
          have hy5 : Below wo.heap.size wo w5 := hy4.trans (hb5.mono hy4.size)
          clear hv hx4
          go_wp2_with (at_builtin; refine wpList_append_nums rfl (.tmp 68) (.tmp 71) 22 rfl .u8 5 1 Tryd.underlying22 info_byte wo.heap.size wo _ tx rfl hx5 hy5 hy5.size _ 8 _ ty rfl HLY.out ⟨_, _, rfl, hN5⟩ (by rw [HLX.out]; decide) (by omega) ?_; intro x6 w6 hx6 hy6 hz6)
          rw [← HPP.out] at hx6
          obtain ⟨g6, c6, rfl, -, -, hg6, hN6⟩ := OwnN.at_ hx6 (by intro h; have := HPL.out; rw [h] at this; cases this)
          rw [HPL.out]
          clear hx6 hx5
          refine (HODD.out _ _ _ (fun _ => ⟨_, _, rfl, hN6⟩)).mono ?_
          rintro e w7 ⟨⟨v, rfl, hv⟩, hb7⟩
          have hbw6 : Below w.heap.size w w6 := hbw.trans (hy6.mono hbw.size)
          go_wp2
          go_ret3
          exact ⟨⟨_, rfl, hv.more hbw6.size⟩, hbw6.trans (hb7.mono hbw6.size)⟩

set_option maxHeartbeats 2000000 in
set_option maxRecDepth 100000 in
/-- of every key and text -/
theorem refCard_any (key : List Nat) (hkb : ∀ c ∈ key, c < 256) (A : Option Addr) (cp : Nat) (hcp : key.length ≤ cp) (pan seq : ByteArray) (hp : pan.size ≤ 140737488351232) (_hs : seq.size ≤ 100) (w : World) (hA : At w A key) :
    Calls Tryd.prog 19 #[.slice A key.length cp, .string pan, .string seq] w fun e w' =>
      (∃ v, e = .returned (.tuple #[v, .int .i64 (erCode (cardEr key.length pan.data.toList seq.data.toList)), .int .i64 (erAt (cardEr key.length pan.data.toList seq.data.toList))]) ∧ Own w' w.heap.size v (cardVal key pan.data.toList seq.data.toList)) ∧ Below w.heap.size w w' := by
  have lp : pan.data.toList.length = pan.size := by simp
  have ls : seq.data.toList.length = seq.size := by simp
  by_cases hok : cardEr key.length pan.data.toList seq.data.toList = .ok
  · rw [cardVal_ok hok, hok]
    have hl : key.length = 16 := by
      unfold cardEr at hok
      split at hok
      · cases hok
      · rename_i h; omega
    obtain ⟨b, o, rfl, hB⟩ := hA (by intro h; rw [h] at hl; cases hl)
    rw [hl] at hok ⊢
    exact refCard_ok pan seq key hl hkb hok b o cp (by omega) w hB
  · rw [cardVal_bad hok]
    clear hA
    by_cases hbad : key.length ≠ 16 ∨ seq.size ≠ 2
    · have hr : cardEr key.length pan.data.toList seq.data.toList = .no 2 := cardEr_size (by rw [ls]; exact hbad)
      rw [hr]
      have f1 : erCode (.no 2) = 2 := rfl
      have f2 : erAt (.no 2) = -1 := rfl
      rw [f1, f2]
      clear hr lp ls hok
      generalize key.length = n at *
      by_cases h1 : n = 16
      · have h3 : seq.size ≠ 2 := by omega
        have t1 : ((n : Int) != 16) = false := by rw [bne_eq_false_iff_eq]; omega
        have t3 : ((seq.size : Int) != 2) = true := by rw [bne_iff_ne]; omega
        clear h1 h3 hbad
        go_enter Tryd.func19, Tryd.ntmps19
        go_wp2
        go_ret3
        exact ⟨⟨_, rfl, Own.nil _ _⟩, Below.refl _ _⟩
      · have t1 : ((n : Int) != 16) = true := by rw [bne_iff_ne]; omega
        clear h1 hbad
        go_enter Tryd.func19, Tryd.ntmps19
        go_wp2
        go_ret3
        exact ⟨⟨_, rfl, Own.nil _ _⟩, Below.refl _ _⟩
    · have hr : cardEr key.length pan.data.toList seq.data.toList = match decEr pan.data.toList 13 19 with
          | .ok => (match badAt isDec seq.data.toList with | some k => .fa k 16 | none => .ok)
          | e => e := by
        unfold cardEr
        rw [if_neg (by rw [ls]; exact hbad)]
        cases decEr pan.data.toList 13 19 <;> rfl
      have hk16 : key.length = 16 := by omega
      have hs2 : seq.size = 2 := by omega
      have t2 : ((seq.size : Int) != 2) = false := by rw [bne_eq_false_iff_eq]; omega
      have HW := Lib.hid (fun W => wrongR_any pan (by omega) 13 19 (by omega) (by omega) W)
      rcases decEr_cases pan.data.toList 13 19 with h | ⟨k, h⟩ | h
      · rw [h] at HW hr
        rw [show cardEr key.length pan.data.toList seq.data.toList = .no 2 from hr, hk16]
        have f1 : erCode (.no 2) = 2 := rfl
        have f2 : erAt (.no 2) = -1 := rfl
        rw [f1, f2] at HW ⊢
        clear hr h hok hbad hk16 hs2 lp ls
        go_enter Tryd.func19, Tryd.ntmps19
        go_wp2_with fail
        refine (HW.out _).mono ?_
        rintro e w1 ⟨rfl, rfl⟩
        go_wp2
        go_ret3
        exact ⟨⟨_, rfl, Own.nil _ _⟩, Below.refl _ _⟩
      · rw [h] at HW hr
        rw [show cardEr key.length pan.data.toList seq.data.toList = .fa k 16 from hr, hk16]
        have f1 : erCode (.fa (k : Int) 16) = 16 := rfl
        have f2 : erAt (.fa (k : Int) 16) = k := rfl
        rw [f1, f2] at HW ⊢
        clear hr h hok hbad hk16 hs2 lp ls
        go_enter Tryd.func19, Tryd.ntmps19
        go_wp2_with fail
        refine (HW.out _).mono ?_
        rintro e w1 ⟨rfl, rfl⟩
        go_wp2
        go_ret3
        exact ⟨⟨_, rfl, Own.nil _ _⟩, Below.refl _ _⟩
      · rw [h] at HW hr
        simp only at hr
        rcases hbz : badAt isDec seq.data.toList with _ | k
        · rw [hbz] at hr; exact absurd hr hok
        · rw [hbz] at hr
          have HF := Lib.hid (fun W => refFirst_any seq (by omega) 10 (by omega) W)
          have hz : badZ (fun c => decide (valR c < 10)) seq.data.toList = k := by
            unfold badZ
            rw [badAt_congr valR_dec, hbz]
          rw [hz] at HF
          rw [show cardEr key.length pan.data.toList seq.data.toList = .fa k 16 from hr, hk16]
          have f1 : erCode .ok = 0 := rfl
          have f2 : erAt .ok = -1 := rfl
          rw [f1, f2] at HW
          have f3 : erCode (.fa (k : Int) 16) = 16 := rfl
          have f4 : erAt (.fa (k : Int) 16) = k := rfl
          rw [f3, f4]
          have hk0 : (0 : Int) ≤ (k : Int) := by omega
          clear hr h hok hbad hk16 hs2 lp ls hz hbz f3 f4 f1 f2
          go_enter Tryd.func19, Tryd.ntmps19
          go_wp2_with fail
          refine (HW.out _).mono ?_
          rintro e w1 ⟨rfl, rfl⟩
          go_wp2_with fail
          refine (HF.out _).mono ?_
          rintro e w1 ⟨rfl, rfl⟩
          go_wp2_with fail
          refine (HF.out _).mono ?_
          rintro e w1 ⟨rfl, rfl⟩
          go_wp2
          go_ret3
          exact ⟨⟨_, rfl, Own.nil _ _⟩, Below.refl _ _⟩
end Go.Proofs.YtgffppmpmjaknaaDoor
