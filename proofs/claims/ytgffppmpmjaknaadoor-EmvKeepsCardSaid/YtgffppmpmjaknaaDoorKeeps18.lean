/- lockboxlaw18.EmvKeeps: the walk. -/
import Derived.Test.YtgffppmpmjaknaaDoorCards18
import Derived.Test.YtgffppmpmjaknaaDoorArr
namespace Go.Proofs.YtgffppmpmjaknaaDoor
open Go Go.RowKit Pr

theorem info_16u8k : (Tryd.prog.info? 32).map (·.size) = some 16 := by kernel_rfl
theorem Own.shape {w : World} {B : Nat} {v : Value} {l : List Nat} (h : Own w B v l) : ∃ A cap, v = .slice A l.length cap ∧ (l = [] ∨ ∃ g, A = some ⟨g, 0, none⟩ ∧ B ≤ g ∧ g < w.heap.size) := by
  by_cases hl : l = []
  · obtain ⟨A, cap, rfl, -, -⟩ := OwnN.form (e := 5) (kd := .u8) h
    exact ⟨A, cap, rfl, .inl hl⟩
  · obtain ⟨g, cap, rfl, hg, _, hlt, _⟩ := h.form hl
    exact ⟨_, cap, rfl, .inr ⟨g, rfl, hg, hlt⟩⟩
theorem Own.only {g B : Nat} {w w' : World} {v : Value} {l : List Nat} (h : Own w B v l) (ho : Only g w w') (hne : v.ownBlock ≠ some g) : Own w' B v l := by
  rcases h with ⟨h1, h2⟩
  refine ⟨h1, ?_⟩
  rcases h2 with h2 | ⟨g', cap, cur, rfl, hg, hgb, r⟩
  · exact .inl h2
  · exact .inr ⟨g', cap, cur, rfl, hg, (ho.block g' (fun e => hne (by rw [e]; rfl))).trans hgb, r⟩
theorem iface_of {w : World} {B : Nat} {u : Value} {er : Er} (h : ErIs w B u er) : (er = .ok ∧ u = .nilIface) ∨ (er ≠ .ok ∧ ∃ t x, u = .iface t x) := by
  cases er with
  | ok => exact .inl ⟨rfl, h⟩
  | no m => exact .inr ⟨by simp, _, _, h⟩
  | fa p m =>
    obtain ⟨g, rfl, _⟩ := h
    exact .inr ⟨by simp, _, _, rfl⟩
theorem xor255 (c : Nat) (h : c < 256) : bits .xor .u8 (c : Int) 255 = ((c ^^^ 255 : Nat) : Int) := u8_xor_nat c 255 h (by omega)
theorem set_lt {L : List Nat} (h : ∀ c ∈ L, c < 256) (k x : Nat) (hx : x < 256) : ∀ c ∈ L.set k x, c < 256 := by
  intro c hc
  rcases List.mem_or_eq_of_mem_set hc with h' | rfl
  · exact h c h'
  · exact hx

set_option maxHeartbeats 8000000 in
set_option maxRecDepth 100000 in
theorem keeps18 (l : List Nat) (hl : l.length = 16) (hb : ∀ c ∈ l, c < 256) (pan : ByteArray) (hp : pan.size ≤ 140737488351232) (d : Nat) (hd : d < 65536) (w : World) (hG : EtOk w) :
    Calls Tryd.prog 6 #[.agg (byteCells l), .string pan, .int .u16 (d : Int)] w fun e w' => e = .returned (.bool true) ∧ Below w.heap.size w w' := by
  obtain ⟨cl, hcl⟩ : ∃ cl, byteCells l = cl := ⟨_, rfl⟩
  have hsz : Hid (cl.size = 16) := by rw [← hcl]; show (byteCells l).size = 16; rw [size_byteCells, hl]
  have hone : Hid (cl.all (·.oneCell') = true) := by rw [← hcl]; exact bytes_one _
  rw [hcl]
  have HCL := Lib.hid hcl; clear hcl
  have HL := Lib.hid hl; clear hl
  have hat : ∀ W (g : Nat), Blk W g 32 cl → At W (some ⟨g, 0, none⟩) l := fun W g h _ => ⟨_, _, rfl, Bs.of_blk (by rw [← HCL.out] at h; exact h) (fun j c hj => by rw [Nat.zero_add]; exact hj)⟩
  have HAT := Lib.hid hat; clear hat
  have hC := fun (g : Nat) W hA => card_any l hb (some ⟨g, 0, none⟩) 16 (by rw [HL.out]; exact Nat.le_refl _) pan ⟨#[48, 48]⟩ hp W hA
  have hS := fun (g : Nat) W hA => session_any l hb (some ⟨g, 0, none⟩) 16 (by rw [HL.out]; exact Nat.le_refl _) (d : Int) W hA
  have hRC := fun (g : Nat) W hA => refCard_any l hb (some ⟨g, 0, none⟩) 16 (by rw [HL.out]; exact Nat.le_refl _) pan ⟨#[48, 48]⟩ hp (by decide) W hA
  have hRS := fun (g : Nat) W hA => sessR_any l HL.out hb (some ⟨g, 0, none⟩) 16 (Nat.le_refl _) d (by omega) W hA
  rw [HL.out] at hC hS hRC
  have hsv := ssVal_ok l HL.out d (by omega)
  have hse := ssEr_ok d (by omega)
  rw [hsv, hse] at hS
  clear hsv hse
  have hSl := pairN_len l (ssX d) (ssY d)
  have hSt := pairN_lt l (ssX d) (ssY d)
  have hVt := cardVal_lt l pan.data.toList (⟨#[48, 48]⟩ : ByteArray).data.toList
  have hVl := cardVal_len l pan.data.toList (⟨#[48, 48]⟩ : ByteArray).data.toList
  generalize cardVal l pan.data.toList (⟨#[48, 48]⟩ : ByteArray).data.toList = V at *
  generalize cardEr 16 pan.data.toList (⟨#[48, 48]⟩ : ByteArray).data.toList = er at *
  generalize pairN l (ssX d) (ssY d) = S at *
  have HC := Lib.hid hC; clear hC
  have HS := Lib.hid hS; clear hS
  have HRC := Lib.hid hRC; clear hRC
  have HRS := Lib.hid hRS; clear hRS
  have HSL := Lib.hid hSl; clear hSl
  obtain ⟨n, hn⟩ : ∃ n, V.length = n := ⟨_, rfl⟩
  have e1 : IntKind.i64.wrap (d : Int) = d := IntWalk.i64_in _ (by omega)
  go_enter Tryd.func6, Tryd.ntmps6
  go_wp2_with (first
    | (refine wpList_load_row rfl 32 (.tmp 3) rfl w.heap.size rfl 32 cl (0,0) _ (Blk.new w _ cl) Tryd.underlying32 rfl (by rw [info_16u8k, hsz.out]) ?_)
    | (refine wpList_store_all rfl 32 (.tmp 7) (.tmp 21) rfl (w.heap.size + 1) cl rfl rfl 32 _ (Blk.new2 w _ _ _) (by rw [info_16u8k, hsz.out]) (by rw [hsz.out]; rfl) hone.out ?_; intro w3 hB3 hO3))
  have hK3 : Blk w3 w.heap.size 32 cl := ((Blk.new w _ cl).alloc _).only hO3 (by omega)
  have hbel3 : Below w.heap.size w w3 := hO3.below (((Below.refl _ _).alloc (Nat.le_refl _) _).alloc (by simp) _) (by omega)
  have hs3 : w.heap.size + 1 < w3.heap.size := hB3.lt
  clear hO3
  refine (HC.out _ _ (HAT.out _ _ hK3)).mono ?_
  rintro e w4 ⟨⟨v, u1, rfl, hv, hu1⟩, hb4⟩
  obtain ⟨A1, c1, rfl, hshape⟩ := hv.shape
  rw [hn] at hv ⊢
  have hK4 := hK3.below hb4 hK3.lt
  have hB4 := hB3.below hb4 hB3.lt
  have hs4 := hb4.size
  go_wp2_with fail
  refine (HS.out _ _ (HAT.out _ _ hK4)).mono ?_
  rintro e w5 ⟨⟨v, u2, rfl, hv2, hu2⟩, hb5⟩
  obtain rfl : u2 = _ := hu2
  obtain ⟨gb, cb, rfl, hgb, -, hgb2, -⟩ := hv2.form (by intro h; have := HSL.out; rw [h] at this; cases this)
  rw [HSL.out] at hv2 ⊢
  have hv5 := hv.below hb5 (Nat.le_refl _)
  have hK5 := hK4.below hb5 hK4.lt
  have hB5 := hB4.below hb5 hB4.lt
  have hs5 := hb5.size
  have hbel5 : Below w.heap.size w w5 := hbel3.trans ((hb4.trans (hb5.mono hs4)).mono hbel3.size)
  clear hv
  go_wp2
  go_loopw [12] (fun i wr => ∃ k : Nat, k ≤ n ∧ i = .int .i64 k ∧ ((n = 0 ∧ wr = w5) ∨ ∃ ga L, A1 = some ⟨ga, 0, none⟩ ∧ w3.heap.size ≤ ga ∧ ga < w4.heap.size ∧ Hid (L.length = n) ∧ Hid (∀ c ∈ L, c < 256) ∧ Own wr w3.heap.size (.slice A1 n c1) L ∧ Only ga w5 wr)) (fun i _ => n - (intOf i).toNat)
  case atStart =>
    refine ⟨0, by omega, rfl, ?_⟩
    rcases hshape with h | ⟨ga, h1, h2, h3⟩
    · exact .inl ⟨by rw [← hn, h]; rfl, rfl⟩
    · exact .inr ⟨ga, V, h1, h2, h3, hn, hVt, hv5, Only.refl _ _⟩
  case round =>
    obtain ⟨k, hk, rfl, hrel⟩ := hrel
    by_cases hlt : k < n
    · have hki : (k : Int) < (n : Int) := by omega
      rcases hrel with ⟨h0, _⟩ | ⟨ga, L, rfl, hga, hga2, hLl, hLt, hown, honly⟩
      · omega
      · have hkL : k < L.length := by rw [hLl.out]; exact hlt
        have hc1 := hown.cellAt k hkL
        have hfr := hown.frz hLl.out k
        have hx := xor255 L[k] (hLt.out _ (List.getElem_mem _))
        have hx2 : L[k] ^^^ 255 < 256 := Nat.xor_lt_two_pow (n := 8) (hLt.out _ (List.getElem_mem _)) (by decide)
        have hset := hown.set k (L[k] ^^^ 255)
        have hLl2 : Hid ((L.set k (L[k] ^^^ 255)).length = n) := by show (L.set k _).length = n; rw [List.length_set, hLl.out]
        have hLt2 : Hid (∀ c ∈ L.set k (L[k] ^^^ 255), c < 256) := set_lt hLt.out k _ hx2
        have honly2 := honly.trans (Only.setCell wr ga k (.int .u8 ((L[k] ^^^ 255 : Nat) : Int)))
        generalize L.set k (L[k] ^^^ 255) = L2 at *
        rw [← hx] at hset honly2
        generalize L[k] = c at *
        clear hx hown honly
        have HSET := Lib.hid hset; clear hset
        have HON := Lib.hid honly2; clear honly2
        go_wp2
        exact ⟨⟨k + 1, by omega, by go_num, .inr ⟨ga, L2, rfl, hga, hga2, hLl2, hLt2, HSET.out, HON.out⟩⟩, by simp [intOf]; omega⟩
    · have hki : ¬ (k : Int) < (n : Int) := by omega
      obtain ⟨hK6, hB6, hv6, hbel6, hs6, hg6⟩ : Blk wr w.heap.size 32 cl ∧ Blk wr (w.heap.size + 1) 32 cl ∧ Own wr w4.heap.size (.slice (some ⟨gb, 0, none⟩) 16 cb) S ∧ Below w.heap.size w wr ∧ w5.heap.size ≤ wr.heap.size ∧ Below w4.heap.size w4 w4 := by
        rcases hrel with ⟨_, rfl⟩ | ⟨ga, L, rfl, hga, hga2, _, _, _, ho⟩
        · exact ⟨hK5, hB5, hv2, hbel5, Nat.le_refl _, Below.refl _ _⟩
        · exact ⟨hK5.only ho (by omega), hB5.only ho (by omega), hv2.only ho (fun h => by have h2 : gb = ga := Option.some.inj h; omega), ho.below hbel5 (by omega), by rw [ho.size]; exact Nat.le_refl _, Below.refl _ _⟩
      clear hrel hg6 hK5 hB5 hv5 hv2 hbel5
      obtain ⟨w6, rfl⟩ : ∃ w6, w6 = wr := ⟨_, rfl⟩
      go_wp2
      go_loopw [13] (fun i wr => ∃ k : Nat, k ≤ 16 ∧ i = .int .i64 k ∧ ∃ L, Hid (L.length = 16) ∧ Hid (∀ c ∈ L, c < 256) ∧ Own wr w4.heap.size (.slice (some ⟨gb, 0, none⟩) 16 cb) L ∧ Only gb w6 wr) (fun i _ => 16 - (intOf i).toNat)
      case atStart => exact ⟨0, by omega, rfl, S, HSL, hSt, hv6, Only.refl _ _⟩
      case round =>
        obtain ⟨k, hk, rfl, L, hLl, hLt, hown, honly⟩ := hrel
        by_cases hlt : k < 16
        · have hki : (k : Int) < 16 := by omega
          have hkL : k < L.length := by rw [hLl.out]; exact hlt
          have hc1 := hown.cellAt k hkL
          have hfr := hown.frz hLl.out k
          have hx := xor255 L[k] (hLt.out _ (List.getElem_mem _))
          have hx2 : L[k] ^^^ 255 < 256 := Nat.xor_lt_two_pow (n := 8) (hLt.out _ (List.getElem_mem _)) (by decide)
          have hset := hown.set k (L[k] ^^^ 255)
          have hLl2 : Hid ((L.set k (L[k] ^^^ 255)).length = 16) := by show (L.set k _).length = 16; rw [List.length_set, hLl.out]
          have hLt2 : Hid (∀ c ∈ L.set k (L[k] ^^^ 255), c < 256) := set_lt hLt.out k _ hx2
          have honly2 := honly.trans (Only.setCell wr gb k (.int .u8 ((L[k] ^^^ 255 : Nat) : Int)))
          generalize L.set k (L[k] ^^^ 255) = L2 at *
          rw [← hx] at hset honly2
          generalize L[k] = c at *
          clear hx hown honly
          have HSET := Lib.hid hset; clear hset
          have HON := Lib.hid honly2; clear honly2
          go_wp2
          exact ⟨⟨k + 1, by omega, by go_num, L2, hLl2, hLt2, HSET.out, HON.out⟩, by simp [intOf]; omega⟩
        · obtain rfl : k = 16 := by omega
          have hK7 := hK6.only honly (by omega)
          have hB7 := hB6.only honly (by omega)
          have hbel7 : Below w.heap.size w wr := honly.below hbel6 (by omega)
          obtain ⟨w7, rfl⟩ : ∃ w7, w7 = wr := ⟨_, rfl⟩
          clear hK6 hB6 hv6 hbel6 honly hown hLt hLl
          have hG7 := hG.below hbel7 (Nat.le_refl _)
          go_wp2_with fail
          refine (HC.out _ _ (HAT.out _ _ hK7)).mono ?_
          rintro e w8 ⟨⟨v, u3, rfl, hv, hu3⟩, hb8⟩
          obtain ⟨A3, c3, rfl, -, hN3⟩ := OwnN.form (e := 5) (kd := .u8) hv
          have hN3 : At w8 A3 V := hN3
          rw [hn]
          have hK8 := hK7.below hb8 hK7.lt
          have hB8 := hB7.below hb8 hB7.lt
          have hbel8 := hbel7.trans (hb8.mono hbel7.size)
          clear hv
          go_wp2_with fail
          refine (HS.out _ _ (HAT.out _ _ hK8)).mono ?_
          rintro e w9 ⟨⟨v, u4, rfl, hv, hu4⟩, hb9⟩
          obtain rfl : u4 = _ := hu4
          obtain ⟨g4, c4, rfl, -, -, hg4, hN4⟩ := hv.form (by intro h; have := HSL.out; rw [h] at this; cases this)
          rw [HSL.out]
          have hK9 := hK8.below hb9 hK8.lt
          have hB9 := hB8.below hb9 hB8.lt
          have hbel9 := hbel8.trans (hb9.mono hbel8.size)
          have hN39 : At w9 A3 V := hN3.below hb9 (Nat.le_refl _)
          clear hv hN3
          go_wp2_with fail
          refine (HRC.out _ _ (HAT.out _ _ hB9)).mono ?_
          rintro e wA ⟨⟨v, rfl, hv⟩, hbA⟩
          obtain ⟨A5, c5, rfl, -, hN5⟩ := OwnN.form (e := 5) (kd := .u8) hv
          have hN5 : At wA A5 V := hN5
          rw [hn]
          have hKA := hK9.below hbA hK9.lt
          have hBA := hB9.below hbA hB9.lt
          have hbelA := hbel9.trans (hbA.mono hbel9.size)
          have hN3A : At wA A3 V := hN39.below hbA (Nat.le_refl _)
          have hN4A := hN4.below hbA hg4
          have hg4A := Nat.lt_of_lt_of_le hg4 hbA.size
          clear hv hN39 hN4 hK8 hB8 hK9 hB9 hK7 hB7 hb8 hb9 hbA hbel7 hbel8 hbel9
          have hGA := hG.below hbelA (Nat.le_refl _)
          have heq : ∀ W, (Op.equalIn 10000 32 (.agg (byteCells l)) (.agg (byteCells l))).run Tryd.prog W = .ok true W := fun W => by
            have := eqBytes (P := Tryd.prog) W 32 5 16 Tryd.underlying32 Tryd.underlying5 (fun w => size_u8 info_u8 w) l l HL.out HL.out hb hb
            rw [this]
            simp
          have HEQ := Lib.hid heq; clear heq
          have hsm1 := fun W hA hB => same_any V V A3 A5 c3 c5 hVt hVt (by omega) W hA hB
          rw [hn, show decide (V = V) = true by simp] at hsm1
          have hsm2 := fun g5 c6 W hA hB => same_any S S (some ⟨g4, 0, none⟩) (some ⟨g5, 0, none⟩) c4 c6 hSt hSt (by rw [HSL.out]; decide) W hA hB
          rw [HSL.out, show decide (S = S) = true by simp] at hsm2
          have HSM1 := Lib.hid hsm1; clear hsm1
          have HSM2 := Lib.hid hsm2; clear hsm2
          have F1 : Hid (∀ W, (Blk W w.heap.size 32 cl ∧ Blk W (w.heap.size + 1) 32 cl) → Bs W w.heap.size 0 l) := fun W h => by rw [← HCL.out] at h; exact Bs.of_blk h.1 (fun j c hj => by rw [Nat.zero_add]; exact hj)
          have F2 : Hid (∀ W, (Blk W w.heap.size 32 cl ∧ Blk W (w.heap.size + 1) 32 cl) → Bs W (w.heap.size + 1) 0 l) := fun W h => by rw [← HCL.out] at h; exact Bs.of_blk h.2 (fun j c hj => by rw [Nat.zero_add]; exact hj)
          have hkey : ∀ (q1 q3 : Bool) , True := fun _ _ => trivial
          have hu : (u1 = .nilIface ∧ u3 = .nilIface) ∨ (∃ t x t' x', u1 = .iface t x ∧ u3 = .iface t' x') := by
            rcases iface_of hu1 with ⟨h1, h2⟩ | ⟨h1, t, x, h2⟩
            · rcases iface_of hu3 with ⟨_, h4⟩ | ⟨h3, _⟩
              · exact .inl ⟨h2, h4⟩
              · exact absurd h1 h3
            · rcases iface_of hu3 with ⟨h3, _⟩ | ⟨_, t', x', h4⟩
              · exact absurd h3 h1
              · exact .inr ⟨t, x, t', x', h2, h4⟩
          clear hu1 hu3 hkey
          rcases hu with ⟨rfl, rfl⟩ | ⟨t, x, t', x', rfl, rfl⟩
          all_goals
            go_wp2_with fail
            refine wp_region_tree (.e [0] fun _ => .q 1 (.q 2 (.q 3 (.q 4 (.q 5 (.q 6 (.q 7 (.q 8 (.q 9 (.q 10 (.q 11 (.q 12 (.q 13 (.q 14 (.q 15 (.q 16 (.q 17 (.q 18 (.q 19 (.q 20 (.q 21 (.q 22 (.q 23 (.e [24] fun _ => .q 25 (.q 26 (.q 27 (.q 28 (.q 29 (.q 30 (.e [31] fun _ => .e [32] fun _ => .q 33 (.q 34 (.done)))))))))))))))))))))))))))))))) (fun W => Blk W w.heap.size 32 cl ∧ Blk W (w.heap.size + 1) 32 cl) rfl (by kernel_rfl) (fun _ _ d _ _ h => by cases d <;> exact h) ?_
            refine t_e rfl rfl fun K hK => ?_
            go_simp
            refine (awake18_any _ (hGA.below (below_drewN (Below.refl wA.heap.size wA) 1) (Nat.le_refl _))).mono ?_
            rintro e wB ⟨rfl, hbB0⟩
            have hbB : Below wA.heap.size wA wB := (below_drewN (Below.refl wA.heap.size wA) 1).trans hbB0
            have hSB : Blk wB w.heap.size 32 cl ∧ Blk wB (w.heap.size + 1) 32 cl := ⟨hKA.below hbB hKA.lt, hBA.below hbB hBA.lt⟩
            refine hK _ _ hSB ?_
            clear hK K
            have hN3B : At wB A3 V := hN3A.below hbB (Nat.le_refl _)
            have hN5B : At wB A5 V := hN5.below hbB (Nat.le_refl _)
            have hN4B := hN4A.below hbB hg4A
            have hg4B := Nat.lt_of_lt_of_le hg4A hbB.size
            have hbelB := hbelA.trans (hbB.mono hbelA.size)
            go_simp
            refine t_q rfl rfl hSB _ (fun W hW => by (go_simp; rfl)) ?_
            go_simp
            refine t_load_bs rfl rfl 32 (.tmp 3) rfl w.heap.size 0 rfl l hSB F1.out _ Tryd.underlying32 rfl (by rw [info_16u8k, HL.out]) ?_
            go_simp
            refine t_load_bs rfl rfl 32 (.tmp 7) rfl (w.heap.size + 1) 0 rfl l hSB F2.out _ Tryd.underlying32 rfl (by rw [info_16u8k, HL.out]) ?_
            go_simp
            refine t_q rfl rfl hSB (.bool true) (fun W hW => by (go_simp; rw [HEQ.out W]; rfl)) ?_
            go_simp
            iterate 19 (refine t_q rfl rfl hSB _ (fun W hW => by (go_simp; rfl)) ?_; go_simp)
            refine t_e rfl rfl fun K hK => ?_
            go_simp
            refine (HSM1.out _ hN3B hN5B).mono ?_
            rintro e wC ⟨rfl, nC, rfl⟩
            have hSC : Blk (wB.drewN nC) w.heap.size 32 cl ∧ Blk (wB.drewN nC) (w.heap.size + 1) 32 cl := ⟨hSB.1.drewN _, hSB.2.drewN _⟩
            refine hK _ _ hSC ?_
            clear hK K
            go_simp
            iterate 6 (refine t_q rfl rfl hSC _ (fun W hW => by (go_simp; rfl)) ?_; go_simp)
            refine t_e rfl rfl fun K hK => ?_
            go_simp
            refine (HRS.out _ _ (HAT.out _ _ hSC.2)).mono ?_
            rintro e wD ⟨⟨v, rfl, hv⟩, hbD0⟩
            obtain ⟨g5, c6, rfl, -, -, hg5, hN6⟩ := hv.form (by intro h; have := HSL.out; rw [h] at this; cases this)
            rw [HSL.out]
            have hbD : Below wB.heap.size wB wD := (below_drewN (Below.refl wB.heap.size wB) nC).trans hbD0
            have hSD : Blk wD w.heap.size 32 cl ∧ Blk wD (w.heap.size + 1) 32 cl := ⟨hSB.1.below hbD hSB.1.lt, hSB.2.below hbD hSB.2.lt⟩
            have hbelD := hbelB.trans (hbD.mono hbelB.size)
            refine hK _ _ hSD ?_
            clear hK K hv
            go_simp
            refine t_e rfl rfl fun K hK => ?_
            go_simp
            refine (HSM2.out _ _ _ (fun _ => ⟨_, _, rfl, hN4B.below hbD hg4B⟩) (fun _ => ⟨_, _, rfl, hN6⟩)).mono ?_
            rintro e wE ⟨rfl, nE, rfl⟩
            have hSE : Blk (wD.drewN nE) w.heap.size 32 cl ∧ Blk (wD.drewN nE) (w.heap.size + 1) 32 cl := ⟨hSD.1.drewN _, hSD.2.drewN _⟩
            refine hK _ _ hSE ?_
            clear hK K
            go_simp
            iterate 2 (refine t_q rfl rfl hSE _ (fun W hW => by (go_simp; rfl)) ?_; go_simp)
            refine t_done ?_
            go_wp2
            go_ret
            exact ⟨rfl, below_drewN hbelD _⟩
end Go.Proofs.YtgffppmpmjaknaaDoor
