/- The contract of emv.Card, of what is right. -/
import Derived.Test.YtgffppmpmjaknaaDoorEmvC
namespace Go.Proofs.YtgffppmpmjaknaaDoor
open Go Go.RowKit Pr

def mapTo (f : Nat → Nat) (l : List Nat) (k : Nat) : List Nat := (l.take k).map f ++ l.drop k
theorem mapTo_len (f : Nat → Nat) (l : List Nat) (k : Nat) : (mapTo f l k).length = l.length := by unfold mapTo; simp; omega
theorem mapTo_get (f : Nat → Nat) (l : List Nat) (k : Nat) (h : k < l.length) : (mapTo f l k)[k]'(by rw [mapTo_len]; exact h) = l[k] := by
  unfold mapTo
  rw [List.getElem_append_right (by simp; omega)]
  simp [show min k l.length = k by omega]
theorem mapTo_step (f : Nat → Nat) (l : List Nat) (k : Nat) (h : k < l.length) : (mapTo f l k).set k (f l[k]) = mapTo f l (k + 1) := by
  unfold mapTo
  rw [List.take_succ_eq_append_getElem h, List.map_append, List.set_append_right _ _ (by simp; omega)]
  have e : l.drop k = l[k] :: l.drop (k + 1) := List.drop_eq_getElem_cons h
  have hz : k - ((l.take k).map f).length = 0 := by simp; omega
  rw [e, hz, List.set_cons_zero, List.append_assoc]
  rfl
theorem mapTo_end (f : Nat → Nat) (l : List Nat) (k : Nat) (h : l.length ≤ k) : mapTo f l k = l.map f := by
  unfold mapTo
  rw [List.take_of_length_le h, List.drop_of_length_le h, List.append_nil]

theorem not_u8 (c : Nat) (h : c < 256) : bits .xor .u8 (if IntKind.u8.signed = true then -1 else IntKind.u8.max) (c : Int) = ((255 - c : Nat) : Int) := by
  have : ∀ c : Nat, c < 256 → bits .xor .u8 (if IntKind.u8.signed = true then -1 else IntKind.u8.max) (c : Int) = ((255 - c : Nat) : Int) := by decide +kernel
  exact this c h

set_option maxHeartbeats 2000000 in
set_option maxRecDepth 100000 in
theorem card_ok (key : List Nat) (hkl : key.length = 16) (hkb : ∀ c ∈ key, c < 256) (b o cp : Nat) (hcp : 16 ≤ cp) (pan seq : ByteArray) (hok : cardEr 16 pan.data.toList seq.data.toList = .ok) (w : World) (hB : Bs w b o key) :
    Calls Tryd.prog 17 #[.slice (some ⟨b, o, none⟩) 16 cp, .string pan, .string seq] w fun e w' => (∃ v, e = .returned (.tuple #[v, .nilIface]) ∧ Own w' w.heap.size v (cardN key pan.data.toList seq.data.toList)) ∧ Below w.heap.size w w' := by
  have hbl := hB.lt (by intro h; rw [h] at hkl; cases hkl)
  have lp : pan.data.toList.length = pan.size := by simp
  have ls : seq.data.toList.length = seq.size := by simp
  obtain ⟨hs, hde, hsd⟩ : seq.size = 2 ∧ decEr pan.data.toList 13 19 = .ok ∧ ∀ c ∈ seq.data.toList, isDec c = true := by
    unfold cardEr at hok
    split at hok
    · cases hok
    · rename_i h1
      split at hok
      · rename_i h2
        split at hok
        · cases hok
        · rename_i h3
          exact ⟨by omega, h2, all_of_badAt h3⟩
      · rename_i e he; exact absurd hok (by intro h'; exact he h')
  obtain ⟨p1, p2, hpd⟩ := decEr_ok hde
  rw [lp] at p1 p2
  have HA := Lib.hid (fun W => account_any pan (by omega) W)
  rw [hde] at HA
  have t2 : ((seq.size : Int) != 2) = false := by rw [bne_eq_false_iff_eq]; omega
  have HSD := Lib.hid hsd; clear hsd
  have hs1 : seq.size ≤ 2 := by omega
  have hs2 : 2 ≤ seq.size := by omega
  have HS := Lib.hid hs
  clear hok hde hs
  have hpi1 : (13 : Int) ≤ (pan.size : Int) := by omega
  have hpi2 : (pan.size : Int) ≤ 19 := by omega
  obtain ⟨Z, hZ⟩ : ∃ Z : ByteArray, (⟨(Lib.repeatL (⟨#[48]⟩ : ByteArray).data.toList 16).toArray⟩ : ByteArray) = Z := ⟨_, rfl⟩
  have hZs : Z.size = 16 := by rw [← hZ]; rfl
  have HZ := Lib.hid hZ
  have hz1 : Z.size ≤ 16 := by omega
  have hz2 : 16 ≤ Z.size := by omega
  have HZS := Lib.hid hZs; clear hZs hZ
  have harr : ∀ a c W, (Instr.arrayAt 57 (.slice a 8 c)).run Tryd.prog W = .ok (.pointer a) W := fun a c W => run_arrayAt _ 5 8 Tryd.underlying57 a 8 c (Nat.le_refl _) W
  go_enter Tryd.func17, Tryd.ntmps17
  go_wp2_with fail
  refine (HA.out _).mono ?_
  rintro e w1 ⟨⟨v, rfl, hv⟩, hb⟩
  obtain rfl : v = _ := hv
  go_wp2_with fail
  go_loopw [33] (fun i wr => ∃ k : Nat, k ≤ seq.size ∧ i = .int .i64 k ∧ w1 = wr) (fun i _ => seq.size - (intOf i).toNat)
  case atStart => exact ⟨0, by omega, rfl, rfl⟩
  case round =>
    obtain ⟨k, hk, rfl, rfl⟩ := hrel
    by_cases hlt : k < seq.size
    · have hd := fun W => decimal_one seq k hlt W
      have hcd : isDec seq[k] = true := HSD.out _ (by rw [← get_list seq k hlt]; exact List.getElem_mem _)
      rw [hcd] at hd
      have HD := Lib.hid hd; clear hd hcd
      go_wp2_with (go_at_call 32; refine (HD.out _).mono ?_; rintro e w' ⟨rfl, rfl⟩)
      go_roundw
      case rel => exact ⟨k + 1, by omega, by go_num, by trivial⟩
      case measure => simp [intOf]; omega
    · go_wp2_with fail
      refine (repeat_at ⟨#[48]⟩ Z 16 HZ.out 16 rfl (by omega) (by decide) _).mono ?_
      rintro e w2 ⟨rfl, hb2⟩
      have hb12 := hb.trans (hb2.mono hb.size)
      go_wp2_with fail
      obtain ⟨X, hX⟩ : ∃ X : ByteArray, (Z ++ pan ++ seq).extract (Z.size + pan.size + seq.size - 16) (Z.size + pan.size + seq.size) = X := ⟨_, rfl⟩
      rw [hX]
      have hTs : (Z ++ pan ++ seq).size = Z.size + pan.size + seq.size := by rw [ByteArray.size_append, ByteArray.size_append]
      have hXs : X.size = 16 := by rw [← hX, ByteArray.size_extract, hTs]; omega
      have hXl : X.data.toList = cardTail pan.data.toList seq.data.toList := by
        rw [← hX, Lib.extract_data]
        unfold cardTail
        have e1 : (Z ++ pan ++ seq).data.toList = Lib.repeatL [48] 16 ++ pan.data.toList ++ seq.data.toList := by
          rw [ByteArray.data_append, ByteArray.data_append, Array.toList_append, Array.toList_append, ← HZ.out]
        rw [e1, lp, ls, HZS.out]
        refine List.take_of_length_le ?_
        rw [List.length_drop, List.length_append, List.length_append, Lib.repeatL_length, lp, ls]
        simp only [List.length_cons, List.length_nil]
        omega
      have hhex : ∀ c ∈ X.data.toList, isHex c = true := by
        rw [hXl]
        intro c hc
        unfold cardTail at hc
        have hc := List.mem_of_mem_drop hc
        simp only [List.mem_append] at hc
        rcases hc with (h | h) | h
        · have := mem_repeat _ _ _ h
          simp at this
          subst this
          decide
        · exact isHex_of_dec (hpd c h)
        · exact isHex_of_dec (HSD.out c h)
      have HU := Lib.hid (fun W => unhex_ok X (by omega) (badAt_none hhex) (by omega) W)
      have HV : Hid (cardN key pan.data.toList seq.data.toList = (pairN key (unhexL X.data.toList) (notN (unhexL X.data.toList))).map oddN) := by rw [hXl]; exact rfl
      have u1 := unhexL_lt hhex
      have u2 := unhexL_len X.data.toList
      rw [show X.data.toList.length = 16 by simpa using hXs, show 16 / 2 = 8 from rfl] at u2
      generalize unhexL X.data.toList = U at *
      have U2 := Lib.hid u2
      clear u2 hhex hXl hXs hTs hX
      refine (HU.out _).mono ?_
      rintro e w3 ⟨⟨v, rfl, hv⟩, hb3⟩
      obtain ⟨g, cap, rfl, hg, hcap, hgl, hBU⟩ := hv.form (by intro h; have := U2.out; rw [h] at this; cases this)
      have hb13 := hb12.trans (hb3.mono hb12.size)
      rw [U2.out] at hcap ⊢
      clear hb3 hv HU hb2 hb12
      go_wp2_with (first
        | (refine wpList_load_bs rfl 57 (.tmp 67) rfl g 0 rfl U hBU _ Tryd.underlying57 rfl (by rw [info_8u8, U2.out]) ?_)
        | (refine wpList_store_all rfl 57 (.tmp 13) (.tmp 68) rfl w3.heap.size (byteCells U) rfl rfl 57 _ (Blk.new w3 _ _) (by rw [info_8u8, size_byteCells, U2.out]) (by rw [size_byteCells, U2.out]; rfl) (bytes_one _) ?_; intro w4 hY4 hO4)
        | (refine wpList_load_bs rfl 57 (.tmp 13) rfl w3.heap.size 0 rfl U (Bs.of_blk hY4 (fun j c hj => by rw [Nat.zero_add]; exact hj)) _ Tryd.underlying57 rfl (by rw [info_8u8, U2.out]) ?_)
        | (refine wpList_store_all rfl 57 (.tmp 14) (.tmp 69) rfl w4.heap.size (byteCells U) rfl rfl 57 _ (Blk.new w4 _ _) (by rw [info_8u8, size_byteCells, U2.out]) (by rw [size_byteCells, U2.out]; rfl) (bytes_one _) ?_; intro w5 hN5 hO5))
      have hs3 : w3.heap.size < w4.heap.size := hY4.lt
      have hY5 : Blk w5 w3.heap.size 57 (byteCells U) := (hY4.alloc _).only hO5 (by omega)
      have hbel5 : Below w.heap.size w w5 := hO5.below ((hO4.below (hb13.alloc hb13.size _) hb13.size).alloc (by have := hb13.size; omega) _) (by have := hb13.size; omega)
      have hsz13 := hb13.size
      clear hO4 hO5 hY4
      go_loopw [70] (fun i wr => ∃ k : Nat, k ≤ 8 ∧ i = .int .i64 k ∧ Blk wr w3.heap.size 57 (byteCells U) ∧ Blk wr w4.heap.size 57 (byteCells (mapTo (fun c => 255 - c) U k)) ∧ Below w.heap.size w wr) (fun i _ => 8 - (intOf i).toNat)
      case atStart => exact ⟨0, by omega, rfl, hY5, by simpa [mapTo] using hN5, hbel5⟩
      case round =>
        obtain ⟨j, hj, rfl, hYr, hNr, hbr⟩ := hrel
        by_cases hlt8 : j < 8
        · have hju : j < U.length := by rw [U2.out]; exact hlt8
          have hjm : j < (mapTo (fun c => 255 - c) U j).length := by rw [mapTo_len]; exact hju
          have hcell := hNr.cell j
          rw [get_byteCells _ j hjm, mapTo_get _ U j hju] at hcell
          have hfr := hNr.frozen j
          have hc := u1 U[j] (List.getElem_mem _)
          have hst := mapTo_step (fun c => 255 - c) U j hju
          generalize U[j] = c at *
          have hnx := hNr.set_ j (.int .u8 ((255 - c : Nat) : Int))
          rw [show (byteCells (mapTo (fun c => 255 - c) U j)).setIfInBounds j (.int .u8 ((255 - c : Nat) : Int)) = byteCells ((mapTo (fun c => 255 - c) U j).set j (255 - c)) from set_numCells .u8 _ _ _, hst] at hnx
          rw [← not_u8 c hc] at hnx
          have HNX := Lib.hid hnx; clear hnx hst
          go_wp2_with fail
          go_roundw
          case rel => exact ⟨j + 1, by omega, by go_num, hYr.far (by show w3.heap.size ≠ w4.heap.size; omega) _, HNX.out, hbr.setCell (by show w.heap.size ≤ w4.heap.size; omega) _⟩
          case measure => simp [intOf]; omega
        · obtain rfl : j = 8 := by omega
          rw [mapTo_end _ U 8 (by rw [U2.out]; exact Nat.le_refl _)] at hNr
          have hnot : U.map (fun c => 255 - c) = notN U := rfl
          rw [hnot] at hNr
          have n2 : (notN U).length = 8 := by unfold notN; rw [List.length_map, U2.out]
          have n1 : ∀ c ∈ notN U, c < 256 := by
            intro c hc
            unfold notN at hc
            obtain ⟨x, _, rfl⟩ := List.mem_map.1 hc
            omega
          have f0 : Bs wr b o (key.take 8) := by have := (hB.below hbr hbl).sub 0 8; simpa using this
          have f1 : Bs wr b (o + 8) (key.drop 8) := by have := (hB.below hbr hbl).sub 8 8; rw [List.take_of_length_le (by rw [List.length_drop, hkl]; exact Nat.le_refl _)] at this; exact this
          have HP := Lib.hid (pair_any (key.take 8) (key.drop 8) U (notN U) (by rw [List.length_take, hkl]; rfl) (by rw [List.length_drop, hkl]) U2.out n2 (fun c h => hkb c (List.mem_of_mem_take h)) (fun c h => hkb c (List.mem_of_mem_drop h)) u1 n1 b o cp hcp wr f0 f1)
          have hpl : (pairN key U (notN U)).length = 16 := by unfold pairN; rw [List.length_append, triple16_len, triple16_len]
          have hplt : ∀ c ∈ pairN key U (notN U), c < 256 := by
            intro c hc
            unfold pairN at hc
            rcases List.mem_append.1 hc with h | h
            · exact triple16_lt _ _ _ _ c h
            · exact triple16_lt _ _ _ _ c h
          rw [show triple16 (key.take 8) (key.drop 8) U false ++ triple16 (key.take 8) (key.drop 8) (notN U) false = pairN key U (notN U) from rfl] at HP
          generalize pairN key U (notN U) = K16 at *
          have HPL := Lib.hid hpl; clear hpl
          generalize notN U = NU at *
          have N2 := Lib.hid n2; clear n2 hnot f0 f1
          have hsr := hbr.size
          go_wp2_with (first
            | (refine wpList_load_bs rfl 57 (.tmp 13) rfl w3.heap.size 0 rfl U (Bs.of_blk hYr (fun j c hj => by rw [Nat.zero_add]; exact hj)) _ Tryd.underlying57 rfl (by rw [info_8u8, U2.out]) ?_)
            | (refine wpList_load_bs rfl 57 (.tmp 14) rfl w4.heap.size 0 rfl NU (Bs.of_blk hNr (fun j c hj => by rw [Nat.zero_add]; exact hj)) _ Tryd.underlying57 rfl (by rw [info_8u8, N2.out]) ?_))
          refine HP.out.mono ?_
          rintro e w6 ⟨⟨v6, rfl, hv6⟩, hb6⟩
          obtain ⟨g6, cap6, rfl, hg6, hcap6, hgl6, hB6⟩ := hv6.form (by intro h; have := HPL.out; rw [h] at this; cases this)
          have hbel6 := hbr.trans (hb6.mono hbr.size)
          have HO := Lib.hid (partOdd_any K16 (by intro h; have := HPL.out; rw [h] at this; cases this) hplt (by rw [HPL.out]; decide) g6 0 cap6 w6 hB6)
          rw [HPL.out] at HO hcap6 ⊢
          clear hv6 hB6
          go_wp2_with fail
          refine HO.out.mono ?_
          rintro e w7 ⟨⟨v7, rfl, hv7⟩, hb7⟩
          have hbel7 := hbel6.trans (hb7.mono hbel6.size)
          have hv7' := hv7.more hbel6.size
          clear hv7
          go_wp2
          go_ret2
          rw [HV.out]
          exact ⟨⟨_, rfl, hv7'⟩, hbel7⟩

theorem cardEr_size {n : Nat} {pan seq : List UInt8} (h : n ≠ 16 ∨ seq.length ≠ 2) : cardEr n pan seq = .no 2 := by unfold cardEr; rw [if_pos h]

/-- of every key, account and sequence number -/
theorem card_any (key : List Nat) (hkb : ∀ c ∈ key, c < 256) (A : Option Addr) (cp : Nat) (hcp : key.length ≤ cp) (pan seq : ByteArray) (hp : pan.size ≤ 140737488351232) (w : World) (hA : At w A key) :
    Calls Tryd.prog 17 #[.slice A key.length cp, .string pan, .string seq] w fun e w' =>
      (∃ v u, e = .returned (.tuple #[v, u]) ∧ Own w' w.heap.size v (cardVal key pan.data.toList seq.data.toList) ∧ ErIs w' w.heap.size u (cardEr key.length pan.data.toList seq.data.toList)) ∧ Below w.heap.size w w' := by
  have ls : seq.data.toList.length = seq.size := by simp
  by_cases h1 : key.length ≠ 16 ∨ seq.size ≠ 2
  · have hE := cardEr_size (n := key.length) (pan := pan.data.toList) (seq := seq.data.toList) (by rw [ls]; exact h1)
    have hV := cardVal_bad (key := key) (pan := pan.data.toList) (seq := seq.data.toList) (by rw [hE]; simp)
    rw [hE, hV]
    refine (card_size A key.length cp pan seq h1 w).mono ?_
    rintro e w' ⟨rfl, rfl⟩
    exact ⟨⟨_, _, rfl, Own.nil _ _, rfl⟩, Below.refl _ _⟩
  · have hk : key.length = 16 := by omega
    have hs : seq.size = 2 := by omega
    have hE : cardEr key.length pan.data.toList seq.data.toList = match decEr pan.data.toList 13 19 with
        | .ok => (match badAt isDec seq.data.toList with | some k => .fa k 16 | none => .ok)
        | e => e := by unfold cardEr; rw [if_neg (by rw [ls]; exact h1)]; first | rfl | (cases decEr pan.data.toList 13 19 <;> rfl)
    by_cases hde : decEr pan.data.toList 13 19 = .ok
    · rw [hde] at hE
      simp only at hE
      cases hb : badAt isDec seq.data.toList with
      | some q =>
        rw [hb] at hE
        simp only at hE
        have hV := cardVal_bad (key := key) (pan := pan.data.toList) (seq := seq.data.toList) (by rw [hE]; simp)
        rw [hE, hV, hk]
        refine (card_seq A cp pan seq hp hs hde q hb w).mono ?_
        rintro e w' ⟨⟨v, rfl, hv⟩, hbel⟩
        exact ⟨⟨_, _, rfl, Own.nil _ _, hv⟩, hbel⟩
      | none =>
        rw [hb] at hE
        simp only at hE
        rw [cardVal_ok hE, hE, hk]
        rw [hk] at hE hcp
        obtain ⟨b, o, rfl, hB⟩ := hA (by intro h; rw [h] at hk; cases hk)
        refine (card_ok key hk hkb b o cp hcp pan seq hE w hB).mono ?_
        rintro e w' ⟨⟨v, rfl, hv⟩, hbel⟩
        exact ⟨⟨_, _, rfl, hv, rfl⟩, hbel⟩
    · have hE2 : cardEr key.length pan.data.toList seq.data.toList = decEr pan.data.toList 13 19 := by
        rw [hE]
        split
        · rename_i h; exact absurd h hde
        · rfl
      have hV := cardVal_bad (key := key) (pan := pan.data.toList) (seq := seq.data.toList) (by rw [hE2]; exact hde)
      rw [hE2, hV, hk]
      refine (card_pan A cp pan seq hp hs hde w).mono ?_
      rintro e w' ⟨⟨v, rfl, hv⟩, hbel⟩
      exact ⟨⟨_, _, rfl, Own.nil _ _, hv⟩, hbel⟩
end Go.Proofs.YtgffppmpmjaknaaDoor
