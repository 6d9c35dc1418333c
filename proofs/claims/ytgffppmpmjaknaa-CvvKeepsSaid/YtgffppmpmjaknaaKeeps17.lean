/- lockboxlaw17.CvvKeeps: the walk. -/
import Derived.Test.YtgffppmpmjaknaaLawA
import Derived.Test.YtgffppmpmjaknaaArr
namespace Go.Proofs.Ytgffppmpmjaknaa
open Go Go.RowKit Pr

theorem info_16u8 : (Try.prog.info? 22).map (·.size) = some 16 := by kernel_rfl

set_option maxHeartbeats 2000000 in
set_option maxRecDepth 100000 in
theorem keeps17 (l : List Nat) (hl : l.length = 16) (hb : ∀ c ∈ l, c < 256) (pan date service : ByteArray) (hp : pan.size ≤ 140737488351232) (hd : date.size ≤ 140737488351232) (hs : service.size ≤ 140737488351232) (w : World) :
    Calls Try.prog 3 #[.agg (byteCells l), .string pan, .string date, .string service] w fun e w' => e = .returned (.bool true) ∧ Below w.heap.size w w' := by
  obtain ⟨cl, hcl⟩ : ∃ cl, byteCells l = cl := ⟨_, rfl⟩
  have hsz : Hid (cl.size = 16) := by rw [← hcl]; show (byteCells l).size = 16; rw [size_byteCells, hl]
  rw [hcl]
  have HCL := Lib.hid hcl; clear hcl
  have HL := Lib.hid hl; clear hl
  go_enter Try.func3, Try.ntmps3
  go_wp2_with fail
  refine (awake17_any _).mono ?_
  rintro e w1 ⟨rfl, hb1⟩
  have hK1 : Blk w1 w.heap.size 22 cl := (Blk.new w _ cl).below hb1 (by simp)
  have hbel1 : Below w.heap.size w w1 := ((Below.refl _ _).alloc (Nat.le_refl _) _).trans (hb1.mono (by simp))
  have hs1 := hK1.lt
  clear hb1
  go_wp2_with fail
  have hrow : (w1.alloc (.cells #[Value.string pan, Value.string date, Value.string service] 9)).rangeAt w1.heap.size 0 ([pan, date, service].map Value.string) :=
    Blk.range (Blk.new w1 9 #[Value.string pan, Value.string date, Value.string service]) 0 _ (fun j v hv => by rw [Nat.zero_add]; simpa using hv)
  refine (few17_any 16 16 3 3 (some ⟨w.heap.size, 0, none⟩) [pan, date, service] rfl (by omega) w1.heap.size _ hrow).mono ?_
  rintro e w2 ⟨rfl, rfl⟩
  have hK2 := hK1.alloc (.cells #[Value.string pan, Value.string date, Value.string service] 9)
  have hbel2 := hbel1.alloc hbel1.size (.cells #[Value.string pan, Value.string date, Value.string service] 9)
  clear hrow
  have hfew : (fewB [pan, date, service] && decide (16 ≤ 100)) = fewB [pan, date, service] := by simp
  rw [hfew]
  clear hfew
  generalize (w1.alloc (.cells #[Value.string pan, Value.string date, Value.string service] 9)) = w2 at *
  generalize fewB [pan, date, service] = F at *
  clear hK1 hbel1 hs1
  cases F with
  | false =>
    go_wp2_with fail
    refine (awake17_any _).mono ?_
    rintro e w3 ⟨rfl, hb3⟩
    go_wp2
    go_ret
    exact ⟨rfl, hbel2.trans (hb3.mono hbel2.size)⟩
  | true =>
    have hg := hK2.lt
    go_wp2_with (first
      | (refine wpList_load_row rfl 22 (.tmp 4) rfl w.heap.size rfl 22 cl (0,0) _ hK2 Try.underlying22 rfl (by rw [info_16u8, hsz.out]) ?_)
      | (refine wpList_store_all rfl 22 (.tmp 9) (.tmp 27) rfl w2.heap.size cl rfl rfl 22 _ (Blk.new w2 _ _) (by rw [info_16u8, hsz.out]) (by rw [hsz.out]; rfl) (by rw [← HCL.out]; exact bytes_one _) ?_; intro w3 hB3 hO3))
    have hK3 : Blk w3 w.heap.size 22 cl := (hK2.alloc _).only hO3 (by omega)
    have hbel3 : Below w.heap.size w w3 := hO3.below (hbel2.alloc hbel2.size _) hbel2.size
    have hO := fun W hA => cvvOf_any l hb (some ⟨w.heap.size, 0, none⟩) 16 (by rw [HL.out]; exact Nat.le_refl _) pan date service hp hd hs W hA
    have hO' := fun W hA => cvvOf_any l hb (some ⟨w2.heap.size, 0, none⟩) 16 (by rw [HL.out]; exact Nat.le_refl _) pan date service hp hd hs W hA
    have hX3 := ofStr_len l pan.data.toList date.data.toList service.data.toList
    have hV := fun (V : ByteArray) (h : V.size ≤ 140737488351232) W hA => cvvVerify_any l hb (some ⟨w.heap.size, 0, none⟩) 16 (by rw [HL.out]; exact Nat.le_refl _) pan date service V hp hd hs h W hA
    have hver : ∀ V : ByteArray, V.data.toList = ofStr l pan.data.toList date.data.toList service.data.toList → verEr l pan.data.toList date.data.toList service.data.toList V.data.toList = ofEr l pan.data.toList date.data.toList service.data.toList := fun V h => by
      unfold verEr
      rw [h]
      cases ofEr l pan.data.toList date.data.toList service.data.toList <;> simp
    obtain ⟨X, hX⟩ : ∃ X : ByteArray, ⟨(ofStr l pan.data.toList date.data.toList service.data.toList).toArray⟩ = X := ⟨_, rfl⟩
    have hXV : X.data.toList = ofStr l pan.data.toList date.data.toList service.data.toList := by rw [← hX]
    have hXs : X.size ≤ 3 := by rw [← hXV] at hX3; simpa using hX3
    have hv1 := hver X hXV
    have hV1 := hV X (by omega)
    rw [hv1] at hV1
    rw [hX] at hO hO'
    rw [HL.out] at hO hO' hV1
    generalize ofEr l pan.data.toList date.data.toList service.data.toList = er at *
    have HO := Lib.hid hO
    have HO' := Lib.hid hO'
    have HV := Lib.hid hV1
    clear hO hO' hV hver hX hXV hv1 hV1 hX3
    have hat : ∀ W (g : Nat), Blk W g 22 cl → At W (some ⟨g, 0, none⟩) l := fun W g h _ => ⟨_, _, rfl, Bs.of_blk (by rw [← HCL.out] at h; exact h) (fun j c hj => by rw [Nat.zero_add]; exact hj)⟩
    have HAT := Lib.hid hat; clear hat
    refine (HO.out w3 (HAT.out _ _ hK3)).mono ?_
    rintro e w4 ⟨⟨v1, rfl, he1⟩, hb4⟩
    have hK4 := hK3.below hb4 hK3.lt
    have hB4 := hB3.below hb4 hB3.lt
    go_wp2_with fail
    refine (HV.out w4 (HAT.out _ _ hK4)).mono ?_
    rintro e w5 ⟨⟨v2, rfl, he2⟩, hb5⟩
    have hK5 := hK4.below hb5 hK4.lt
    have hB5 := hB4.below hb5 hB4.lt
    go_wp2_with fail
    refine (HO'.out w5 (HAT.out _ _ hB5)).mono ?_
    rintro e w6 ⟨⟨v3, rfl, he3⟩, hb6⟩
    have hK6 := hK5.below hb6 hK5.lt
    have hB6 := hB5.below hb6 hB5.lt
    have hbel4 := hbel3.trans (hb4.mono hbel3.size)
    have hbel5 := hbel4.trans (hb5.mono hbel4.size)
    have hbel6 := hbel5.trans (hb6.mono hbel5.size)
    clear HO HO' HV hK3 hB3 hK4 hB4 hK5 hB5 hbel3 hbel4 hbel5 hb4 hb5 hb6 hO3
    go_wp2_with fail
    obtain ⟨S, hSd⟩ : ∃ S : World → Prop, S = fun W => Blk W w.heap.size 22 cl ∧ Blk W w2.heap.size 22 cl := ⟨_, rfl⟩
    have hS0 : S (w6.drewN 1) := by rw [hSd]; exact ⟨hK6.drewN 1, hB6.drewN 1⟩
    have f1 : ∀ W, S W → Bs W w.heap.size 0 l := fun W h => by rw [hSd, ← HCL.out] at h; exact Bs.of_blk h.1 (fun j c hj => by rw [Nat.zero_add]; exact hj)
    have f2 : ∀ W, S W → Bs W w2.heap.size 0 l := fun W h => by rw [hSd, ← HCL.out] at h; exact Bs.of_blk h.2 (fun j c hj => by rw [Nat.zero_add]; exact hj)
    have heq : ∀ W, (Op.equalIn 10000 22 (.agg (byteCells l)) (.agg (byteCells l))).run Try.prog W = .ok true W := fun W => by
      have := eqBytes (P := Try.prog) W 22 5 16 Try.underlying22 Try.underlying5 (fun w => size_u8 info_u8 w) l l HL.out HL.out hb hb
      rw [this]
      simp
    have F1 := Lib.hid f1; clear f1
    have F2 := Lib.hid f2; clear f2
    have HEQ := Lib.hid heq; clear heq
    clear hSd hK6 hB6 HAT
    cases er with
    | ok =>
      obtain rfl : v1 = _ := he1
      obtain rfl : v2 = _ := he2
      obtain rfl : v3 = _ := he3
      refine wp_region_mix [(0, false), (1, false), (2, false), (3, false), (4, false), (5, false), (6, false), (7, false), (8, false), (9, false), (10, false), (11, false), (12, false), (13, false), (14, false), (15, false), (16, false), (17, false), (18, false), (19, false), (20, false), (21, false), (22, false)] S rfl (by kernel_rfl) (fun _ _ d _ _ h => by cases d <;> exact h) ?_
      change wpMix _ _ _ _ _ _ (w6.drewN 1)
      refine mix_load_bs rfl rfl 22 (.tmp 4) rfl w.heap.size 0 rfl l hS0 F1.out _ Try.underlying22 rfl (by rw [info_16u8, HL.out]) ?_
      go_simp
      refine mix_load_bs rfl rfl 22 (.tmp 9) rfl w2.heap.size 0 rfl l hS0 F2.out _ Try.underlying22 rfl (by rw [info_16u8, HL.out]) ?_
      go_simp
      refine mix_q rfl rfl hS0 (.bool true) (fun W hW => by (go_simp; rw [HEQ.out W]; rfl)) ?_
      go_simp
      iterate 20 (refine mix_q rfl rfl hS0 _ (fun W hW => by (go_simp; rfl)) ?_; go_simp)
      refine mix_done ?_
      go_wp2
      go_ret
      exact ⟨rfl, below_drewN hbel6 1⟩
    | no m =>
      obtain rfl : v1 = _ := he1
      obtain rfl : v2 = _ := he2
      obtain rfl : v3 = _ := he3
      refine wp_region_mix [(0, false), (1, false), (2, false), (3, false), (4, false), (5, false), (6, false), (7, false), (8, false), (9, false), (10, false), (11, false), (12, false), (13, false), (14, false), (15, false), (16, false), (17, false), (18, false), (19, false), (20, false), (21, false), (22, false)] S rfl (by kernel_rfl) (fun _ _ d _ _ h => by cases d <;> exact h) ?_
      change wpMix _ _ _ _ _ _ (w6.drewN 1)
      refine mix_load_bs rfl rfl 22 (.tmp 4) rfl w.heap.size 0 rfl l hS0 F1.out _ Try.underlying22 rfl (by rw [info_16u8, HL.out]) ?_
      go_simp
      refine mix_load_bs rfl rfl 22 (.tmp 9) rfl w2.heap.size 0 rfl l hS0 F2.out _ Try.underlying22 rfl (by rw [info_16u8, HL.out]) ?_
      go_simp
      refine mix_q rfl rfl hS0 (.bool true) (fun W hW => by (go_simp; rw [HEQ.out W]; rfl)) ?_
      go_simp
      iterate 20 (refine mix_q rfl rfl hS0 _ (fun W hW => by (go_simp; rfl)) ?_; go_simp)
      refine mix_done ?_
      go_wp2
      go_ret
      exact ⟨rfl, below_drewN hbel6 1⟩
    | fa p m =>
      obtain ⟨g1, rfl, _⟩ := he1
      obtain ⟨g2, rfl, _⟩ := he2
      obtain ⟨g3, rfl, _⟩ := he3
      refine wp_region_mix [(0, false), (1, false), (2, false), (3, false), (4, false), (5, false), (6, false), (7, false), (8, false), (9, false), (10, false), (11, false), (12, false), (13, false), (14, false), (15, false), (16, false), (17, false), (18, false), (19, false), (20, false), (21, false), (22, false)] S rfl (by kernel_rfl) (fun _ _ d _ _ h => by cases d <;> exact h) ?_
      change wpMix _ _ _ _ _ _ (w6.drewN 1)
      refine mix_load_bs rfl rfl 22 (.tmp 4) rfl w.heap.size 0 rfl l hS0 F1.out _ Try.underlying22 rfl (by rw [info_16u8, HL.out]) ?_
      go_simp
      refine mix_load_bs rfl rfl 22 (.tmp 9) rfl w2.heap.size 0 rfl l hS0 F2.out _ Try.underlying22 rfl (by rw [info_16u8, HL.out]) ?_
      go_simp
      refine mix_q rfl rfl hS0 (.bool true) (fun W hW => by (go_simp; rw [HEQ.out W]; rfl)) ?_
      go_simp
      iterate 20 (refine mix_q rfl rfl hS0 _ (fun W hW => by (go_simp; rfl)) ?_; go_simp)
      refine mix_done ?_
      go_wp2
      go_ret
      exact ⟨rfl, below_drewN hbel6 1⟩
end Go.Proofs.Ytgffppmpmjaknaa
