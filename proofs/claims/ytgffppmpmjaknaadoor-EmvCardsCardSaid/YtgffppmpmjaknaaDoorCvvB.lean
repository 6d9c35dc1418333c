/- The contract of cvv.Of. -/
import Derived.Test.YtgffppmpmjaknaaDoorKit
import Derived.Test.YtgffppmpmjaknaaDoorPinAll
import Derived.Test.YtgffppmpmjaknaaDoorPureAll
import Derived.Test.YtgffppmpmjaknaaDoorDesAll
import Derived.Deep.Cut
import Derived.StillTailTactics
namespace Go.Proofs.YtgffppmpmjaknaaDoor
open Go Go.RowKit Pr

theorem repeat_at (s Z : ByteArray) (c : Nat) (hZ : (⟨(Lib.repeatL s.data.toList c).toArray⟩ : ByteArray) = Z) (i : Int) (hi : i = c) (hc : c ≤ 1000) (hs : s.size ≤ 1000) (w : World) :
    Calls Tryd.prog 33 #[.string s, .int .i64 i] w fun e w' => e = .returned (.string Z) ∧ Below w.heap.size w w' := by
  subst hi
  subst hZ
  exact Tryd.strings_Repeat s c w (by omega) (by have := Nat.mul_le_mul hs hc; omega)

theorem decEr_ok {s : List UInt8} {lo hi : Nat} (h : decEr s lo hi = .ok) : lo ≤ s.length ∧ s.length ≤ hi ∧ ∀ c ∈ s, isDec c = true := by
  unfold decEr at h
  split at h
  · cases h
  · rename_i h1
    refine ⟨by omega, by omega, ?_⟩
    split at h
    · cases h
    · rename_i h2
      exact all_of_badAt h2
theorem wrEr_ok {s : List UInt8} {a : Nat} (h : wrEr s a = .ok) : ∀ c ∈ s, isDec c = true := by
  unfold wrEr at h
  split at h
  · cases h
  · rename_i h2
    exact all_of_badAt h2
theorem cvvEr_ok {n : Nat} {pan date service : List UInt8} (h : cvvEr n pan date service = .ok) :
    n = 16 ∧ date.length = 4 ∧ service.length = 3 ∧ 13 ≤ pan.length ∧ pan.length ≤ 19 ∧ (∀ c ∈ pan, isDec c = true) ∧ (∀ c ∈ date, isDec c = true) ∧ ∀ c ∈ service, isDec c = true := by
  unfold cvvEr at h
  split at h
  · cases h
  · rename_i h1
    split at h
    · rename_i h2
      split at h
      · rename_i h3
        obtain ⟨q1, q2, q3⟩ := decEr_ok h2
        exact ⟨by omega, by omega, by omega, q1, q2, q3, wrEr_ok h3, wrEr_ok h⟩
      · rename_i e he; exact absurd h (by intro h'; exact he h')
    · rename_i e he; exact absurd h (by intro h'; exact he h')

set_option maxHeartbeats 1000000 in
/-- of what is wrong -/
theorem cvvOf_bad (A : Option Addr) (n cp : Nat) (pan date service : ByteArray) (hp : pan.size ≤ 140737488351232) (hd : date.size ≤ 140737488351232) (hs : service.size ≤ 140737488351232)
    (hne : cvvEr n pan.data.toList date.data.toList service.data.toList ≠ .ok) (w : World) :
    Calls Tryd.prog 22 #[.slice A n cp, .string pan, .string date, .string service] w fun e w' => (∃ v, e = .returned (.tuple #[.string ⟨#[]⟩, v]) ∧ ErIs w' w.heap.size v (cvvEr n pan.data.toList date.data.toList service.data.toList)) ∧ Below w.heap.size w w' := by
  have HR := Lib.hid (fun W => cvvRight_any A n cp pan date service hp hd hs W)
  generalize cvvEr n pan.data.toList date.data.toList service.data.toList = er at *
  cases er with
  | ok => exact absurd rfl hne
  | no m =>
    clear hne
    go_enter Tryd.func22, Tryd.ntmps22
    go_wp2_with fail
    refine (HR.out _).mono ?_
    rintro e w1 ⟨⟨v, rfl, hv⟩, hb⟩
    obtain rfl : v = _ := hv
    go_wp2
    go_ret2
    exact ⟨⟨_, rfl, rfl⟩, hb⟩
  | fa p m =>
    clear hne
    go_enter Tryd.func22, Tryd.ntmps22
    go_wp2_with fail
    refine (HR.out _).mono ?_
    rintro e w1 ⟨⟨v, rfl, hv⟩, hb⟩
    have hv' := hv
    obtain ⟨g, rfl, _⟩ := hv'
    go_wp2
    go_ret2
    exact ⟨⟨_, rfl, hv⟩, hb⟩

set_option maxHeartbeats 2000000 in
set_option maxRecDepth 100000 in
theorem cvvOf_ok (pan date service : ByteArray) (k0 k1 : List Nat) (h0 : k0.length = 8) (h1 : k1.length = 8) (g0 : ∀ c ∈ k0, c < 256) (g1 : ∀ c ∈ k1, c < 256)
    (hok : cvvEr 16 pan.data.toList date.data.toList service.data.toList = .ok) (b o cp : Nat) (hcp : 16 ≤ cp) (w : World) (hB0 : Bs w b o k0) (hB1 : Bs w b (o + 8) k1) :
    Calls Tryd.prog 22 #[.slice (some ⟨b, o, none⟩) 16 cp, .string pan, .string date, .string service] w
      fun e w' => e = .returned (.tuple #[.string ⟨(cvvVal k0 k1 pan.data.toList date.data.toList service.data.toList).toArray⟩, .nilIface]) ∧ Below w.heap.size w w' := by
  have hbl : b < w.heap.size := hB0.lt (by intro h; rw [h] at h0; cases h0)
  obtain ⟨_, e2, e3, p1, p2, d1, d2, d3⟩ := cvvEr_ok hok
  have lp : pan.data.toList.length = pan.size := by simp
  have ld : date.data.toList.length = date.size := by simp
  have ls : service.data.toList.length = service.size := by simp
  rw [lp] at p1 p2
  rw [ld] at e2
  rw [ls] at e3
  have HR := Lib.hid (fun W => cvvRight_any (some ⟨b, o, none⟩) 16 cp pan date service (by omega) (by omega) (by omega) W)
  rw [hok] at HR
  clear hok
  have HV : Hid (cvvVal k0 k1 pan.data.toList date.data.toList service.data.toList = (pickL (hexL (cvvN k0 k1 ((unhexL (cvvText pan.data.toList date.data.toList service.data.toList)).take 8) ((unhexL (cvvText pan.data.toList date.data.toList service.data.toList)).drop 8)))).take 3) := rfl
  have hth := cvvText_hex _ _ _ d1 d2 d3
  have htl := cvvText_len pan.data.toList date.data.toList service.data.toList (by omega)
  obtain ⟨Z, hZ⟩ : ∃ Z : ByteArray, (⟨(Lib.repeatL (⟨#[48]⟩ : ByteArray).data.toList (32 - (pan.size + date.size + service.size))).toArray⟩ : ByteArray) = Z := ⟨_, rfl⟩
  have hZs : Z.size = 32 - (pan.size + date.size + service.size) := by
    rw [← hZ]
    show ((Lib.repeatL [48] _).toArray).size = _
    simp [Lib.repeatL_length]
  have htt : cvvText pan.data.toList date.data.toList service.data.toList = ((pan ++ date ++ service) ++ Z).data.toList := by
    unfold cvvText
    rw [← hZ]
    simp [ByteArray.data_append, Nat.add_assoc]
  have HZ := Lib.hid hZ; clear hZ
  have hZ1 : Z.size ≤ 12 := by omega
  have hZ2 : 6 ≤ Z.size := by omega
  clear hZs
  have u1 := unhexL_lt hth
  have u2 := unhexL_len (cvvText pan.data.toList date.data.toList service.data.toList)
  obtain ⟨T, hT⟩ : ∃ T : ByteArray, (pan ++ date ++ service) ++ Z = T := ⟨_, rfl⟩
  rw [hT] at htt
  have hTs : T.data.toList.length = T.size := by simp
  rw [htt] at hth htl HV u1 u2
  rw [htl] at hTs
  rw [htl, show 32 / 2 = 16 from rfl] at u2
  have HU := Lib.hid (fun W => unhex_ok T (by omega) (badAt_none hth) (by omega) W)
  clear d1 d2 d3 lp ld ls htt hth htl
  have HTT := Lib.hid hT; clear hT
  have E2 := Lib.hid e2
  have E3 := Lib.hid e3
  obtain ⟨e2a, e2b⟩ : 4 ≤ date.size ∧ date.size ≤ 4 := by omega
  obtain ⟨e3a, e3b⟩ : 3 ≤ service.size ∧ service.size ≤ 3 := by omega
  clear e2 e3 hTs
  obtain ⟨U, hU⟩ : ∃ U, unhexL T.data.toList = U := ⟨_, rfl⟩
  rw [hU] at u1 u2 HV
  simp only [hU] at HU
  clear hU
  have HH0 := Lib.hid h0; clear h0
  have HH1 := Lib.hid h1; clear h1
  have U2 := Lib.hid u2; clear u2
  go_enter Tryd.func22, Tryd.ntmps22
  go_wp2_with fail
  refine (HR.out _).mono ?_
  rintro e w1 ⟨⟨v, rfl, hv⟩, hb⟩
  obtain rfl : v = _ := hv
  go_wp2_with fail
  refine (repeat_at ⟨#[48]⟩ Z (32 - (pan.size + date.size + service.size)) HZ.out _ (by omega) (by omega) (by decide) _).mono ?_
  rintro e w2 ⟨rfl, hb2⟩
  have hb12 := hb.trans (hb2.mono hb.size)
  clear hb hb2
  go_wp2_with fail
  rw [HTT.out]
  refine (HU.out _).mono ?_
  rintro e w3 ⟨⟨v, rfl, hv⟩, hb3⟩
  obtain ⟨g, cap, rfl, hg, hcap, hgl, hBU⟩ := hv.form (by intro h; have := U2.out; rw [h] at this; cases this)
  have hb13 := hb12.trans (hb3.mono hb12.size)
  clear hb3 hv HR HTT HU
  rw [U2.out] at hcap ⊢
  have hB0' := hB0.below hb13 hbl
  have hB1' := hB1.below hb13 hbl
  have hsz3 := hb13.size
  -- the two keys, copied
  obtain ⟨S, hSd⟩ : ∃ S : World → Prop, S = fun W => Bs W b o k0 ∧ Bs W b (o + 8) k1 ∧ Bs W g 0 U ∧ Below w3.heap.size w3 W := ⟨_, rfl⟩
  go_wp2_with fail
  go_cut [14, 15] from 44 (fun p q wx => ∃ ga gb, p = .pointer (some ⟨ga, 0, none⟩) ∧ q = .pointer (some ⟨gb, 0, none⟩) ∧ w3.heap.size ≤ ga ∧ w3.heap.size ≤ gb ∧ ga ≠ gb ∧ Blk wx ga 57 (byteCells k0) ∧ Blk wx gb 57 (byteCells k1) ∧ S wx)
  case first =>
    have hS0 : S w3.drew := by rw [hSd]; exact ⟨hB0', hB1', hBU, below_drewN (Below.refl _ _) 1⟩
    have f0 : ∀ W, S W → Bs W b o k0 := fun W h => by rw [hSd] at h; exact h.1
    have f1 : ∀ W, S W → Bs W b (o + 8) k1 := fun W h => by rw [hSd] at h; exact h.2.1
    have F0 := Lib.hid f0; clear f0
    have F1 := Lib.hid f1; clear f1
    have hbl3 : b < w3.heap.size := by omega
    have fA : ∀ W ob, S W → S (W.alloc ob) := fun W ob h => by
      rw [hSd] at h ⊢
      exact ⟨h.1.alloc _, h.2.1.alloc _, h.2.2.1.alloc _, h.2.2.2.alloc h.2.2.2.size _⟩
    have fO : ∀ W W' q, S W → Only q W W' → w3.heap.size ≤ q → S W' := fun W W' q h ho hq => by
      rw [hSd] at h ⊢
      exact ⟨h.1.only ho (by omega), h.2.1.only ho (by omega), h.2.2.1.only ho (by omega), ho.below h.2.2.2 hq⟩
    have FA := Lib.hid fA; clear fA
    have FO := Lib.hid fO; clear fO
    have HSD := Lib.hid hSd; clear hSd
    refine wp_region_tree (.q 0 (.q 1 (.q 2 (.q 3 (.q 4 (.q 5 (.q 6 (.q 7 (.e [8, 9] fun i => bif i == 8 then .e [9] fun _ => .e [10] fun _ => .e [11] fun _ => .done else .e [8] fun _ => .e [10] fun _ => .e [11] fun _ => .done))))))))) S rfl (by kernel_rfl) (fun _ _ d _ _ h => by cases d <;> exact h) ?_
    have c8 : (8 : Int) ≤ (cp : Int) := by omega
    have c9 : ¬ cp = 8 := by omega
    refine t_q rfl rfl hS0 _ (fun W hW => by (go_simp; rfl)) ?_
    go_simp
    refine t_q rfl rfl hS0 _ (fun W hW => by (go_simp; rfl)) ?_
    go_simp
    refine t_q rfl rfl hS0 _ (fun W hW => by (go_simp; rfl)) ?_
    go_simp
    refine t_load_bs rfl rfl 57 (.tmp 46) rfl b o rfl k0 hS0 F0.out _ Tryd.underlying57 rfl (by rw [info_8u8, HH0.out]) ?_
    go_simp
    iterate 3 (refine t_q rfl rfl hS0 _ (fun W hW => by (go_simp; rfl)) ?_; go_simp)
    refine t_load_bs rfl rfl 57 (.tmp 50) rfl b (o + 8) rfl k1 hS0 F1.out _ Tryd.underlying57 rfl (by rw [info_8u8, HH1.out]) ?_
    go_simp
    refine t_two ?_ ?_
    · refine t_op rfl rfl fun K hK => ?_
      go_simp
      have hS1 := FA.out _ (.cells #[Value.int .u8 0, Value.int .u8 0, Value.int .u8 0, Value.int .u8 0, Value.int .u8 0, Value.int .u8 0, Value.int .u8 0, Value.int .u8 0] 57) hS0
      refine hK _ _ hS1 ?_
      clear hK K
      refine t_e rfl rfl fun K hK => ?_
      go_simp
      have hS2 := FA.out _ (.cells #[Value.int .u8 0, Value.int .u8 0, Value.int .u8 0, Value.int .u8 0, Value.int .u8 0, Value.int .u8 0, Value.int .u8 0, Value.int .u8 0] 57) hS1
      refine hK _ _ hS2 ?_
      clear hK K
      have hA := (Blk.new w3.drew 57 #[Value.int .u8 0, Value.int .u8 0, Value.int .u8 0, Value.int .u8 0, Value.int .u8 0, Value.int .u8 0, Value.int .u8 0, Value.int .u8 0]).alloc (.cells #[Value.int .u8 0, Value.int .u8 0, Value.int .u8 0, Value.int .u8 0, Value.int .u8 0, Value.int .u8 0, Value.int .u8 0, Value.int .u8 0] 57)
      have hC := Blk.new2 w3.drew (.cells #[Value.int .u8 0, Value.int .u8 0, Value.int .u8 0, Value.int .u8 0, Value.int .u8 0, Value.int .u8 0, Value.int .u8 0, Value.int .u8 0] 57) 57 #[Value.int .u8 0, Value.int .u8 0, Value.int .u8 0, Value.int .u8 0, Value.int .u8 0, Value.int .u8 0, Value.int .u8 0, Value.int .u8 0]
      have hdr : w3.drew.heap.size = w3.heap.size := rfl
      rw [hdr] at hA hC
      refine t_e rfl rfl fun K hK => ?_
      refine op_store_row 57 (.tmp 14) (.tmp 47) rfl w3.heap.size (byteCells k0) rfl rfl 57 _ hA (by rw [info_8u8, size_byteCells, HH0.out]) (by rw [size_byteCells, HH0.out]; rfl) (bytes_one _) fun w4 hB4 hO4 => ?_
      have hS4 := FO.out _ _ _ hS2 hO4 (by omega)
      refine hK _ _ hS4 ?_
      clear hK K
      refine t_e rfl rfl fun K hK => ?_
      refine op_store_row 57 (.tmp 15) (.tmp 51) rfl (w3.heap.size + 1) (byteCells k1) rfl rfl 57 _ (hC.only hO4 (by omega)) (by rw [info_8u8, size_byteCells, HH1.out]) (by rw [size_byteCells, HH1.out]; rfl) (bytes_one _) fun w5 hB5 hO5 => ?_
      have hS5 := FO.out _ _ _ hS4 hO5 (by omega)
      refine hK _ _ hS5 ?_
      clear hK K
      refine t_done ?_
      go_wp2_with fail
      go_meet
      exact ⟨w3.heap.size, (w3.heap.size + 1), rfl, rfl, by omega, by omega, by omega, hB4.only hO5 (by omega), hB5, hS5⟩
    · refine t_op rfl rfl fun K hK => ?_
      go_simp
      have hS1 := FA.out _ (.cells #[Value.int .u8 0, Value.int .u8 0, Value.int .u8 0, Value.int .u8 0, Value.int .u8 0, Value.int .u8 0, Value.int .u8 0, Value.int .u8 0] 57) hS0
      refine hK _ _ hS1 ?_
      clear hK K
      refine t_e rfl rfl fun K hK => ?_
      go_simp
      have hS2 := FA.out _ (.cells #[Value.int .u8 0, Value.int .u8 0, Value.int .u8 0, Value.int .u8 0, Value.int .u8 0, Value.int .u8 0, Value.int .u8 0, Value.int .u8 0] 57) hS1
      refine hK _ _ hS2 ?_
      clear hK K
      have hA := (Blk.new w3.drew 57 #[Value.int .u8 0, Value.int .u8 0, Value.int .u8 0, Value.int .u8 0, Value.int .u8 0, Value.int .u8 0, Value.int .u8 0, Value.int .u8 0]).alloc (.cells #[Value.int .u8 0, Value.int .u8 0, Value.int .u8 0, Value.int .u8 0, Value.int .u8 0, Value.int .u8 0, Value.int .u8 0, Value.int .u8 0] 57)
      have hC := Blk.new2 w3.drew (.cells #[Value.int .u8 0, Value.int .u8 0, Value.int .u8 0, Value.int .u8 0, Value.int .u8 0, Value.int .u8 0, Value.int .u8 0, Value.int .u8 0] 57) 57 #[Value.int .u8 0, Value.int .u8 0, Value.int .u8 0, Value.int .u8 0, Value.int .u8 0, Value.int .u8 0, Value.int .u8 0, Value.int .u8 0]
      have hdr : w3.drew.heap.size = w3.heap.size := rfl
      rw [hdr] at hA hC
      refine t_e rfl rfl fun K hK => ?_
      refine op_store_row 57 (.tmp 14) (.tmp 47) rfl (w3.heap.size + 1) (byteCells k0) rfl rfl 57 _ hC (by rw [info_8u8, size_byteCells, HH0.out]) (by rw [size_byteCells, HH0.out]; rfl) (bytes_one _) fun w4 hB4 hO4 => ?_
      have hS4 := FO.out _ _ _ hS2 hO4 (by omega)
      refine hK _ _ hS4 ?_
      clear hK K
      refine t_e rfl rfl fun K hK => ?_
      refine op_store_row 57 (.tmp 15) (.tmp 51) rfl w3.heap.size (byteCells k1) rfl rfl 57 _ (hA.only hO4 (by omega)) (by rw [info_8u8, size_byteCells, HH1.out]) (by rw [size_byteCells, HH1.out]; rfl) (bytes_one _) fun w5 hB5 hO5 => ?_
      have hS5 := FO.out _ _ _ hS4 hO5 (by omega)
      refine hK _ _ hS5 ?_
      clear hK K
      refine t_done ?_
      go_wp2_with fail
      go_meet
      exact ⟨(w3.heap.size + 1), w3.heap.size, rfl, rfl, by omega, by omega, by omega, hB4.only hO5 (by omega), hB5, hS5⟩
  case rest =>
  obtain ⟨ga, gb, rfl, rfl, hga, hgb, hab, hBa, hBb, hS⟩ := hcut
  rw [hSd] at hS
  obtain ⟨-, -, hBU1, hbel⟩ := hS
  have u1a : ∀ c ∈ U.take 8, c < 256 := fun c h => u1 c (List.mem_of_mem_take h)
  have u1b : ∀ c ∈ U.drop 8, c < 256 := fun c h => u1 c (List.mem_of_mem_drop h)
  have l0 : (U.take 8).length = 8 := by rw [List.length_take, U2.out]; rfl
  have l1 : (U.drop 8).length = 8 := by rw [List.length_drop, U2.out]
  have hBU0 : Bs wc g 0 (U.take 8) := by have := hBU1.sub 0 8; simpa using this
  have hBU8 : Bs wc g 8 (U.drop 8) := by have := hBU1.sub 8 8; rw [List.take_of_length_le (by rw [l1]; exact Nat.le_refl _)] at this; simpa using this
  clear hSd S hBU1 hB0' hB1' hBU u1
  have HV1 : Hid (cvvN k0 k1 (U.take 8) (U.drop 8) = blockN k0 (blockN k1 (blockN k0 (xorN (blockN k0 (U.take 8) false) (U.drop 8)) false) true) false) := rfl
  generalize U.take 8 = Ua at *
  generalize U.drop 8 = Ub at *
  have L0 := Lib.hid l0; clear l0
  have L1 := Lib.hid l1; clear l1
  obtain ⟨S, hSd⟩ : ∃ S : World → Prop, S = fun W => Blk W ga 57 (byteCells k0) ∧ Blk W gb 57 (byteCells k1) ∧ Bs W g 0 Ua ∧ Bs W g 8 Ub ∧ Below w3.heap.size w3 W := ⟨_, rfl⟩
  have hS : S wc := by rw [hSd]; exact ⟨hBa, hBb, hBU0, hBU8, hbel⟩
  have f0 : ∀ W, S W → Bs W ga 0 k0 := fun W h => by rw [hSd] at h; exact Bs.of_blk h.1 (fun j c hj => by rw [Nat.zero_add]; exact hj)
  have f1 : ∀ W, S W → Bs W gb 0 k1 := fun W h => by rw [hSd] at h; exact Bs.of_blk h.2.1 (fun j c hj => by rw [Nat.zero_add]; exact hj)
  have fa : ∀ W, S W → Bs W g 0 Ua := fun W h => by rw [hSd] at h; exact h.2.2.1
  have fb : ∀ W, S W → Bs W g 8 Ub := fun W h => by rw [hSd] at h; exact h.2.2.2.1
  have fbel : ∀ W, S W → Below w3.heap.size w3 W := fun W h => by rw [hSd] at h; exact h.2.2.2.2
  have flt : ∀ W, S W → ga < W.heap.size ∧ gb < W.heap.size ∧ g < W.heap.size := fun W h => by
    rw [hSd] at h
    exact ⟨h.1.lt, h.2.1.lt, by have := h.2.2.2.2.size; omega⟩
  have fkeep : ∀ W W', S W → Below W.heap.size W W' → S W' := fun W W' h hb => by
    have h5 := flt W h
    rw [hSd] at h ⊢
    obtain ⟨q1, q2, q3, q4, q5⟩ := h
    exact ⟨q1.below hb h5.1, q2.below hb h5.2.1, q3.below hb h5.2.2, q4.below hb h5.2.2, q5.trans (hb.mono q5.size)⟩
  have fO : ∀ W W' q, S W → Only q W W' → w3.heap.size ≤ q → q ≠ ga → q ≠ gb → S W' := fun W W' q h ho hq n1 n2 => by
    rw [hSd] at h ⊢
    obtain ⟨q1, q2, q3, q4, q5⟩ := h
    exact ⟨q1.only ho (Ne.symm n1), q2.only ho (Ne.symm n2), q3.only ho (by omega), q4.only ho (by omega), ho.below q5 hq⟩
  have fdrew : ∀ W, S W → S W.drew := fun W h => by
    rw [hSd] at h ⊢
    obtain ⟨q1, q2, q3, q4, q5⟩ := h
    exact ⟨q1.drewN 1, q2.drewN 1, q3.drewN 1, q4.drewN 1, below_drewN q5 1⟩
  have F0 := Lib.hid f0; clear f0
  have F1 := Lib.hid f1; clear f1
  have FUa := Lib.hid fa; clear fa
  have FUb := Lib.hid fb; clear fb
  have FBEL := Lib.hid fbel; clear fbel
  have FLT := Lib.hid flt; clear flt
  have FK := Lib.hid fkeep; clear fkeep
  have FO := Lib.hid fO; clear fO
  have FD := Lib.hid fdrew; clear fdrew
  have HSD := Lib.hid hSd; clear hSd
  clear hBa hBb hBU0 hBU8 hbel
  obtain ⟨x1, hx1⟩ : ∃ x1, blockN k0 Ua false = x1 := ⟨_, rfl⟩
  have hx1l : x1.length = 8 := by rw [← hx1]; exact blockN_len _ _ _
  have hx1b : ∀ c ∈ x1, c < 256 := by rw [← hx1]; exact blockN_lt _ _ _
  have HX1L := Lib.hid hx1l; clear hx1l
  have HBLK := Lib.hid (fun W => block_any k0 Ua false HH0.out g0 L0.out u1a W)
  rw [hx1] at HBLK HV1
  clear hx1
  go_wp2_with fail
  go_cut [16] from 44 (fun p wx => ∃ gx, p = .pointer (some ⟨gx, 0, none⟩) ∧ w3.heap.size ≤ gx ∧ gx ≠ ga ∧ gx ≠ gb ∧ Blk wx gx 57 (byteCells x1) ∧ S wx)
  case first =>
    have hS0 := FD.out _ hS
    refine wp_region_tree (.q 0 (.q 1 (.q 2 (.q 3 (.q 4 (.e [5, 6] fun i => bif i == 5 then .e [6] fun _ => .e [7] fun _ => .done else .e [5] fun _ => .e [7] fun _ => .done)))))) S rfl (by kernel_rfl) (fun _ _ d _ _ h => by cases d <;> exact h) ?_
    have c8 : (8 : Int) ≤ (cap : Int) := by omega
    refine t_load_bs rfl rfl 57 (.tmp 14) rfl ga 0 rfl k0 hS0 F0.out _ Tryd.underlying57 rfl (by rw [info_8u8, HH0.out]) ?_
    go_simp
    iterate 3 (refine t_q rfl rfl hS0 _ (fun W hW => by (go_simp; rfl)) ?_; go_simp)
    refine t_load_bs rfl rfl 57 (.tmp 55) rfl g 0 rfl Ua hS0 FUa.out _ Tryd.underlying57 rfl (by rw [info_8u8, L0.out]) ?_
    go_simp
    refine t_two ?_ ?_
    · refine t_op rfl rfl fun K hK => ?_
      go_simp
      refine (HBLK.out _).mono ?_
      rintro e w4 ⟨rfl, hb4⟩
      have hS4 := FK.out _ _ hS0 hb4
      refine hK _ _ hS4 ?_
      clear hK K
      refine t_e rfl rfl fun K hK => ?_
      go_simp
      have hS5 := FK.out _ _ hS4 ((Below.refl _ _).alloc (Nat.le_refl _) (.cells #[Value.int .u8 0, Value.int .u8 0, Value.int .u8 0, Value.int .u8 0, Value.int .u8 0, Value.int .u8 0, Value.int .u8 0, Value.int .u8 0] 57))
      refine hK _ _ hS5 ?_
      clear hK K
      obtain ⟨l5a, l5b, l5c⟩ := FLT.out _ hS4
      have l5d := (FBEL.out _ hS4).size
      refine t_e rfl rfl fun K hK => ?_
      refine op_store_row 57 (.tmp 16) (.tmp 57) rfl w4.heap.size (byteCells x1) rfl rfl 57 _ (Blk.new w4 57 #[Value.int .u8 0, Value.int .u8 0, Value.int .u8 0, Value.int .u8 0, Value.int .u8 0, Value.int .u8 0, Value.int .u8 0, Value.int .u8 0]) (by rw [info_8u8, size_byteCells, HX1L.out]) (by rw [size_byteCells, HX1L.out]; rfl) (bytes_one _) fun w6 hB6 hO6 => ?_
      have hS6 := FO.out _ _ _ hS5 hO6 (by omega) (by omega) (by omega)
      refine hK _ _ hS6 ?_
      clear hK K
      refine t_done ?_
      go_wp2_with fail
      go_meet
      exact ⟨_, rfl, by omega, by omega, by omega, hB6, hS6⟩
    · refine t_op rfl rfl fun K hK => ?_
      go_simp
      have hS4 := FK.out _ _ hS0 ((Below.refl _ _).alloc (Nat.le_refl _) (.cells #[Value.int .u8 0, Value.int .u8 0, Value.int .u8 0, Value.int .u8 0, Value.int .u8 0, Value.int .u8 0, Value.int .u8 0, Value.int .u8 0] 57))
      refine hK _ _ hS4 ?_
      clear hK K
      refine t_e rfl rfl fun K hK => ?_
      go_simp
      refine (HBLK.out _).mono ?_
      rintro e w5 ⟨rfl, hb5⟩
      have hS5 := FK.out _ _ hS4 hb5
      refine hK _ _ hS5 ?_
      clear hK K
      obtain ⟨l5a, l5b, l5c⟩ := FLT.out _ hS0
      have l5d := (FBEL.out _ hS0).size
      have hN := (Blk.new wc.drew 57 #[Value.int .u8 0, Value.int .u8 0, Value.int .u8 0, Value.int .u8 0, Value.int .u8 0, Value.int .u8 0, Value.int .u8 0, Value.int .u8 0]).below hb5 (by simp)
      have hdr : wc.drew.heap.size = wc.heap.size := rfl
      rw [hdr] at hN l5a l5b l5c l5d
      refine t_e rfl rfl fun K hK => ?_
      refine op_store_row 57 (.tmp 16) (.tmp 57) rfl wc.heap.size (byteCells x1) rfl rfl 57 _ hN (by rw [info_8u8, size_byteCells, HX1L.out]) (by rw [size_byteCells, HX1L.out]; rfl) (bytes_one _) fun w6 hB6 hO6 => ?_
      have hS6 := FO.out _ _ _ hS5 hO6 (by omega) (by omega) (by omega)
      refine hK _ _ hS6 ?_
      clear hK K
      refine t_done ?_
      go_wp2_with fail
      go_meet
      exact ⟨_, rfl, by omega, by omega, by omega, hB6, hS6⟩
  case rest =>
  obtain ⟨gx, rfl, hgx, hxa, hxb, hBx, hS2⟩ := hcut
  clear HBLK hS
  go_wp2_with fail
  go_loopw [58] (fun i wr => ∃ k : Nat, k ≤ 8 ∧ i = .int .i64 k ∧ Blk wr gx 57 (byteCells (xorTo x1 Ub k)) ∧ S wr) (fun i _ => 8 - (intOf i).toNat)
  case atStart => exact ⟨0, by omega, rfl, hBx, hS2⟩
  case round =>
    obtain ⟨k, hk, rfl, hBr, hSr⟩ := hrel
    by_cases hlt : k < 8
    · have hkx : k < (xorTo x1 Ub k).length := by rw [xorTo_len, HX1L.out]; exact hlt
      have hku : k < Ub.length := by rw [L1.out]; exact hlt
      have e1 : (byteCells (xorTo x1 Ub k))[k]? = some (.int .u8 ((xorTo x1 Ub k)[k] : Nat)) := get_byteCells _ k hkx
      have e1' : (xorTo x1 Ub k)[k] = x1.getD k 0 := by
        rw [List.getD_eq_getElem?_getD, ← xorTo_get x1 Ub k k (Nat.le_refl _), List.getElem?_eq_getElem hkx]; rfl
      have e2' : Ub[k] = Ub.getD k 0 := by rw [List.getD_eq_getElem?_getD, List.getElem?_eq_getElem hku]; rfl
      rw [e1'] at e1
      have v1 : x1.getD k 0 < 256 := by rw [← e1']; exact xorTo_lt x1 Ub hx1b u1b k _ (List.getElem_mem _)
      have v2 : Ub.getD k 0 < 256 := by rw [← e2']; exact u1b _ (List.getElem_mem _)
      have hnext : (byteCells (xorTo x1 Ub k)).setIfInBounds k (.int .u8 ((x1.getD k 0 ^^^ Ub.getD k 0 : Nat) : Int)) = byteCells (xorTo x1 Ub (k + 1)) := set_numCells .u8 _ _ _
      have hxr := u8_xor_nat _ _ v1 v2
      obtain ⟨X', hX'⟩ : ∃ X', xorTo x1 Ub (k + 1) = X' := ⟨_, rfl⟩
      rw [hX'] at hnext
      have HX' := Lib.hid hX'; clear hX'
      have HCX : Hid (∀ W, S W ∧ Blk W gx 57 (byteCells (xorTo x1 Ub k)) → W.cell? ⟨gx, k, none⟩ = some (.int .u8 (x1.getD k 0 : Nat))) := fun W h => by rw [h.2.cell, e1]
      have HCU : Hid (∀ W, S W ∧ Blk W gx 57 (byteCells (xorTo x1 Ub k)) → W.cell? ⟨g, 8 + k, none⟩ = some (.int .u8 (Ub.getD k 0 : Nat))) := fun W h => by rw [(FUb.out W h.1).cell k hku, e2']
      clear e1 e1' e2'
      generalize xorTo x1 Ub k = X at *
      generalize x1.getD k 0 = va at *
      generalize Ub.getD k 0 = vb at *
      have HN := Lib.hid hnext; clear hnext
      have hE1 : IntKind.i64.wrap (8 + (k : Int)) = 8 + (k : Int) := IntWalk.i64_in _ (by omega)
      have hE2 : (8 + (k : Int)).toNat = 8 + k := by omega
      have hE3 : (0 : Int) ≤ 8 + (k : Int) := by omega
      have hE4 : 8 + (k : Int) < 16 := by omega
      go_wp2_with fail
      have hS0 := FD.out _ hSr
      have hB0 : Blk wr.drew gx 57 (byteCells X) := hBr.drewN 1
      have hcx := HCX.out wr.drew ⟨hS0, hB0⟩
      have hcu := HCU.out wr.drew ⟨hS0, hB0⟩
      have hfr := hB0.frozen k
      go_still_tail 10, (by kernel_rfl)
      change wpList _ _ _ _ _ wr.drew
      generalize wr.drew = w2 at *
      go_wp2
      have hB4 := hB0.set_ k (.int .u8 ((va ^^^ vb : Nat) : Int))
      rw [HN.out] at hB4
      have hS4 := FO.out _ _ _ hS0 (Only.setCell _ gx k (.int .u8 ((va ^^^ vb : Nat) : Int))) (by omega) (by omega) (by omega)
      go_roundw
      case rel => exact ⟨k + 1, by omega, by go_num, by rw [HX'.out]; exact hB4, hS4⟩
      case measure => simp [intOf]; omega
    · obtain rfl : k = 8 := by omega
      obtain ⟨x2, hx2⟩ : ∃ x2, xorTo x1 Ub 8 = x2 := ⟨_, rfl⟩
      have hx2l : x2.length = 8 := by rw [← hx2, xorTo_len, HX1L.out]
      have hx2b : ∀ c ∈ x2, c < 256 := by rw [← hx2]; exact xorTo_lt x1 Ub hx1b u1b 8
      rw [show xorN x1 Ub = x2 from hx2] at HV1
      rw [hx2] at hBr
      clear hx2
      have HX2L := Lib.hid hx2l; clear hx2l
      obtain ⟨x3, hx3⟩ : ∃ x3, blockN k0 x2 false = x3 := ⟨_, rfl⟩
      have hx3l : x3.length = 8 := by rw [← hx3]; exact blockN_len _ _ _
      have hx3b : ∀ c ∈ x3, c < 256 := by rw [← hx3]; exact blockN_lt _ _ _
      have HB2 := Lib.hid (fun W => block_any k0 x2 false HH0.out g0 HX2L.out hx2b W)
      rw [hx3] at HB2 HV1
      clear hx3
      have HX3L := Lib.hid hx3l; clear hx3l
      obtain ⟨x4, hx4⟩ : ∃ x4, blockN k1 x3 true = x4 := ⟨_, rfl⟩
      have hx4l : x4.length = 8 := by rw [← hx4]; exact blockN_len _ _ _
      have hx4b : ∀ c ∈ x4, c < 256 := by rw [← hx4]; exact blockN_lt _ _ _
      have HB3 := Lib.hid (fun W => block_any k1 x3 true HH1.out g1 HX3L.out hx3b W)
      rw [hx4] at HB3 HV1
      clear hx4
      have HX4L := Lib.hid hx4l; clear hx4l
      obtain ⟨x5, hx5⟩ : ∃ x5, blockN k0 x4 false = x5 := ⟨_, rfl⟩
      have hx5l : x5.length = 8 := by rw [← hx5]; exact blockN_len _ _ _
      have hx5b : ∀ c ∈ x5, c < 256 := by rw [← hx5]; exact blockN_lt _ _ _
      have HB4 := Lib.hid (fun W => block_any k0 x4 false HH0.out g0 HX4L.out hx4b W)
      rw [hx5] at HB4 HV1
      clear hx5
      have HX5L := Lib.hid hx5l; clear hx5l
      rw [HV1.out] at HV
      have bs0 := F0.out _ hSr
      have bsx : Bs wr gx 0 x2 := Bs.of_blk hBr (fun j c hj => by rw [Nat.zero_add]; exact hj)
      have BS0 := Lib.hid bs0; clear bs0
      have BSX := Lib.hid bsx; clear bsx
      go_wp2_with (first
        | (refine wpList_load_bs rfl 57 (.tmp 14) rfl ga 0 rfl k0 BS0.out _ Tryd.underlying57 rfl (by rw [info_8u8, HH0.out]) ?_)
        | (refine wpList_load_bs rfl 57 (.tmp 16) rfl gx 0 rfl x2 BSX.out _ Tryd.underlying57 rfl (by rw [info_8u8, HX2L.out]) ?_))
      refine (HB2.out _).mono ?_
      rintro e w4 ⟨rfl, hb4⟩
      have hS4 := FK.out _ _ hSr hb4
      have hB4 := hBr.below hb4 hBr.lt
      clear BS0 BSX hb4
      go_wp2_with (first
        | (refine wpList_store_all rfl 57 (.tmp 16) (.tmp 74) rfl gx (byteCells x3) rfl rfl 57 _ hB4 (by rw [info_8u8, size_byteCells, HX3L.out]) (by rw [size_byteCells, size_byteCells, HX3L.out, HX2L.out]) (bytes_one _) ?_; intro w5 hB5 hO5))
      have hS5 := FO.out _ _ _ hS4 hO5 (by omega) (by omega) (by omega)
      clear hS4 hB4 hO5 hBr hSr
      have hS6 := FD.out _ hS5
      have hB6 : Blk w5.drew gx 57 (byteCells x3) := hB5.drewN 1
      refine wp_region_tree (.q 0 (.q 1 (.e [2] fun _ => .e [3] fun _ => .e [4] fun _ => .e [5] fun _ => .done))) S rfl (by kernel_rfl) (fun _ _ d _ _ h => by cases d <;> exact h) ?_
      refine t_load_bs rfl rfl 57 (.tmp 14) rfl ga 0 rfl k0 hS6 F0.out _ Tryd.underlying57 rfl (by rw [info_8u8, HH0.out]) ?_
      go_simp
      refine t_load_bs rfl rfl 57 (.tmp 15) rfl gb 0 rfl k1 hS6 F1.out _ Tryd.underlying57 rfl (by rw [info_8u8, HH1.out]) ?_
      go_simp
      refine t_e rfl rfl fun K hK => ?_
      refine op_load_bs 57 (.tmp 16) rfl gx 0 rfl x3 (Bs.of_blk hB6 (fun j c hj => by rw [Nat.zero_add]; exact hj)) _ Tryd.underlying57 rfl (by rw [info_8u8, HX3L.out]) ?_
      refine hK _ _ hS6 ?_
      clear hK K
      go_simp
      refine t_e rfl rfl fun K hK => ?_
      go_simp
      refine (HB3.out _).mono ?_
      rintro e w7 ⟨rfl, hb7⟩
      have hS7 := FK.out _ _ hS6 hb7
      have hB7 := hB6.below hb7 hB6.lt
      refine hK _ _ hS7 ?_
      clear hK K
      go_simp
      refine t_e rfl rfl fun K hK => ?_
      go_simp
      refine (HB4.out _).mono ?_
      rintro e w8 ⟨rfl, hb8⟩
      have hS8 := FK.out _ _ hS7 hb8
      have hB8 := hB7.below hb8 hB7.lt
      refine hK _ _ hS8 ?_
      clear hK K hS5 hB5 hS6 hB6 hS7 hB7 hb7 hb8
      go_simp
      refine t_e rfl rfl fun K hK => ?_
      refine op_store_row 57 (.tmp 16) (.tmp 79) rfl gx (byteCells x5) rfl rfl 57 _ hB8 (by rw [info_8u8, size_byteCells, HX5L.out]) (by rw [size_byteCells, size_byteCells, HX5L.out, HX3L.out]) (bytes_one _) fun w9 hB9 hO9 => ?_
      have hS9 := FO.out _ _ _ hS8 hO9 (by omega) (by omega) (by omega)
      refine hK _ _ hS9 ?_
      clear hK K
      refine t_done ?_
      have hbel9 := FBEL.out _ hS9
      have hhex := fun W => hex_any x5 hx5b (by rw [HX5L.out]; decide) (some ⟨gx, 0, none⟩) 8 W
      rw [HX5L.out] at hhex
      have hbs9 : Bs w9 gx 0 x5 := Bs.of_blk hB9 (fun j c hj => by rw [Nat.zero_add]; exact hj)
      have HHEX := Lib.hid (hhex w9 (fun _ => ⟨_, _, rfl, hbs9⟩))
      clear hhex
      have hhexb := hexL_hex x5 hx5b
      have hhexl : (hexL x5).length = 16 := by rw [hexL_len, HX5L.out]
      obtain ⟨H, hH⟩ : ∃ H, hexL x5 = H := ⟨_, rfl⟩
      rw [hH] at HHEX HV hhexb hhexl
      have hpe : pickEr H 3 = .ok := by
        unfold pickEr
        rw [badAt_none hhexb]
        simp only
        rw [if_neg (by rw [hhexl]; decide)]
      have hps : pickV H 3 = .string ⟨((pickL H).take 3).toArray⟩ := by
        unfold pickV pickStr; rw [hpe]; rfl
      have hP : ∀ W, Calls Tryd.prog 43 #[.string ⟨H.toArray⟩, .int .i64 3] W fun e w' => e = .returned (.tuple #[.string ⟨((pickL H).take 3).toArray⟩, .nilIface]) ∧ Below W.heap.size W w' := fun W => by
        refine (pick_any ⟨H.toArray⟩ (by show H.toArray.size ≤ _; rw [List.size_toArray, hhexl]; decide) 3 W).mono ?_
        rintro e w' ⟨⟨v, rfl, hv⟩, hb⟩
        have hv' : ErIs w' W.heap.size v (pickEr H 3) := hv
        rw [hpe] at hv'
        obtain rfl : v = _ := hv'
        refine ⟨?_, hb⟩
        show Ending.returned (.tuple #[pickV H 3, .nilIface]) = _
        rw [hps]
      have HP := Lib.hid hP
      clear hP hpe hps
      obtain ⟨V, hVV⟩ : ∃ V, List.take 3 (pickL H) = V := ⟨_, rfl⟩
      rw [hVV] at HP HV
      clear hVV
      clear hH hhexb hhexl hbs9
      go_wp2_with fail
      refine HHEX.out.mono ?_
      rintro e w10 ⟨rfl, hb10⟩
      go_wp2_with fail
      refine (HP.out _).mono ?_
      rintro e w11 ⟨rfl, hb11⟩
      have hb3w : Below w.heap.size w w9 := hb13.trans (hbel9.mono hb13.size)
      have hb10' := hb3w.trans (hb10.mono hb3w.size)
      have hb11' := hb10'.trans (hb11.mono hb10'.size)
      go_wp2
      go_ret2
      rw [HV.out]
      exact ⟨rfl, hb11'⟩
end Go.Proofs.YtgffppmpmjaknaaDoor
