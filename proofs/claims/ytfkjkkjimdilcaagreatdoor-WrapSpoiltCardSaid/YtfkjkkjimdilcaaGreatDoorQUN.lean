/- The contracts of wrap.Unwrap where something is wrong. The contracts of errors.As, api.Code, api.At of a Fault that holds a Fault. The contracts of wrap.Unwrap where a digit, the code or the form is wrong. The contract of wrap.Unwrap where what was deciphered has a wrong form. -/
import Derived.Test.YtfkjkkjimdilcaaGreatDoorQWrapX
import Derived.Test.YtfkjkkjimdilcaaGreatDoorQAs
set_option maxHeartbeats 8000000
set_option maxRecDepth 100000
/- The contracts of wrap.Unwrap where something is wrong. -/
namespace Go.Proofs.YtfkjkkjimdilcaaGreatDoor
open Go Go.RowKit Pr

theorem ErIs.lower {w : World} {B C : Nat} {v : Value} {e : Er} (h : ErIs w B v e) (hC : C ≤ B) : ErIs w C v e := by
 cases e with
 | ok => exact h
 | no n => exact h
 | fa p n =>
  obtain ⟨g, rfl, hg, hB⟩ := h; exact ⟨g, rfl, Nat.le_trans hC hg, hB⟩
theorem ErIs.iface {w : World} {B : Nat} {v : Value} {e : Er} (h : ErIs w B v e) (hne : isOk e = false) : ∃ t u, v = .iface t u := by
 cases e with
 | ok => cases hne
 | no n => exact ⟨_, _, h⟩
 | fa p n =>
  obtain ⟨g, rfl, hg, hB⟩ := h; exact ⟨_, _, rfl⟩
theorem ErIs.onlyN {w w' : World} {B g : Nat} {v : Value} {e : Er} (h : ErIs w B v e) (ho : Only g w w') (hg : g < B) : ErIs w' B v e := h.only ho hg

theorem unwrap_head_bad (s : ByteArray) (hss : s.size ≤ 1500) (er : Er) (hps : parseEr s = er) (hne : isOk er = false) (A0 : Option Addr) (n c0 : Nat) (w : World) (hG : EtOk w) :
    Calls Tryz.prog 15 #[.slice A0 n c0, .string s] w fun e w' => (∃ u, e = .returned (.tuple #[.agg Hd.zero.cells, .slice none 0 0, u]) ∧ ErIs w' w.heap.size u er) ∧ Below w.heap.size w w' := by
 have HPA := Hh (parse_any s (by omega) (w.alloc (.cells #[.int .u8 0, .string ⟨#[]⟩, .int .u8 0, .int .u8 0, .string ⟨#[]⟩, .int .u8 0] 24)) (hG.below ((Below.refl w.heap.size w).alloc lr _) lr)); have hpH : parseHd s = Hd.zero := by unfold parseHd; rw [hps, hne]; rfl
 rw [hpH, hps] at HPA; have hz : Hd.zero.cells = #[.int .u8 0, .string ⟨#[]⟩, .int .u8 0, .int .u8 0, .string ⟨#[]⟩, .int .u8 0] := rfl; have hcs6 : Hd.zero.cells.size = 6 := rfl; have hco : Hd.zero.cells.all (·.oneCell') = true := by simp [Hd.cells, Value.oneCell']
 generalize parseN s = pn at *; generalize Hd.zero.cells = cs at *; have HZ := Hh hz; clear hz; have HS6 := Hh hcs6; clear hcs6; have HCO := Hh hco; clear hco hpH hps
 go_enter Tryz.func15, Tryz.ntmps15
 have hBr := Blk.new w 24 #[.int .u8 0, .string ⟨#[]⟩, .int .u8 0, .int .u8 0, .string ⟨#[]⟩, .int .u8 0]; have hbr := (Below.refl w.heap.size w).alloc lr (.cells #[.int .u8 0, .string ⟨#[]⟩, .int .u8 0, .int .u8 0, .string ⟨#[]⟩, .int .u8 0] 24); have hsr : (w.alloc (.cells #[.int .u8 0, .string ⟨#[]⟩, .int .u8 0, .int .u8 0, .string ⟨#[]⟩, .int .u8 0] 24)).heap.size = w.heap.size + 1 := by simp
 go_wp2_with fail
 refine (HPA.out).mono ?_; rintro e w1 ⟨⟨u, rfl, hu⟩, hb1⟩; obtain ⟨ty, pv, rfl⟩ := hu.iface hne; have hB1r := hBr.below hb1 (by omega); have hbel1 := hbr.trans (hb1.mono (by omega)); have hs1 : w.heap.size < w1.heap.size := hB1r.lt; rw [hsr] at hu; have HU := Hh hu; clear hu; clear hb1 hBr hbr hsr HPA; rw [← HZ.out] at hB1r
 go_wp2_with (first
  | (refine wpList_store_all rfl 24 (.tmp 7) (.tmp 21) rfl w1.heap.size cs rfl rfl 24 #[.int .u8 0, .string ⟨#[]⟩, .int .u8 0, .int .u8 0, .string ⟨#[]⟩, .int .u8 0] (Blk.new w1 _ _) (by rw [info_head, HS6.out]) (by rw [HS6.out]; rfl) HCO.out ?_; intro w2 hH2 hO2; have hR2 := (hB1r.alloc (.cells #[.int .u8 0, .string ⟨#[]⟩, .int .u8 0, .int .u8 0, .string ⟨#[]⟩, .int .u8 0] 24)).only hO2 (by omega); have hb2 := hO2.below ((Below.refl w1.heap.size w1).alloc lr (.cells #[.int .u8 0, .string ⟨#[]⟩, .int .u8 0, .int .u8 0, .string ⟨#[]⟩, .int .u8 0] 24)) lr)
  | (refine wpList_store_all rfl 24 (.tmp 4) (.tmp 26) rfl w.heap.size #[.int .u8 0, .string ⟨#[]⟩, .int .u8 0, .int .u8 0, .string ⟨#[]⟩, .int .u8 0] rfl rfl 24 cs hR2 (by first | (rw [info_head]; rfl) | rw [info_head]) (by simp [HS6.out]) (by simp [Value.oneCell']) ?_; intro w3 hR3 hO3))
 rw [← HZ.out] at hR3; refine bodyPost_ret (results_cell3 rfl _ _ w.heap.size 24 _ _ rfl hR3 Tryz.underlying24 rfl (by rw [info_head, HS6.out])) rfl ?_; refine ⟨⟨_, rfl, ?_⟩, hO3.below (hbel1.trans (hb2.mono hbel1.size)) lr⟩; exact ((HU.out.below hb2 lr).onlyN hO3 (by omega)).lower (by omega)

theorem unwrap_keys_bad (s : ByteArray) (hss : s.size ≤ 1500) (hps : parseEr s = .ok) (A0 : Option Addr) (n c0 : Nat) (er : Er) (he : keysEr (hdOf s).ver.toNat n = er) (hne : er ≠ .ok) (w : World) (hG : EtOk w) :
    Calls Tryz.prog 15 #[.slice A0 n c0, .string s] w fun e w' => (∃ u, e = .returned (.tuple #[.agg Hd.zero.cells, .slice none 0 0, u]) ∧ ErIs w' w.heap.size u er) ∧ Below w.heap.size w w' := by
 have HPA := Hh (parse_any s (by omega) (w.alloc (.cells #[.int .u8 0, .string ⟨#[]⟩, .int .u8 0, .int .u8 0, .string ⟨#[]⟩, .int .u8 0] 24)) (hG.below ((Below.refl w.heap.size w).alloc lr _) lr)); have hpH : parseHd s = hdOf s := by unfold parseHd; rw [hps]; rfl
 rw [hpH, hps] at HPA; obtain ⟨k, hk, -⟩ := keysEr_no he hne; have HCI := Hh (fun W => ciphers_bad (hdOf s).ver.toNat n er he hne ⟨k, hk⟩ A0 c0 W); have hz : Hd.zero.cells = #[.int .u8 0, .string ⟨#[]⟩, .int .u8 0, .int .u8 0, .string ⟨#[]⟩, .int .u8 0] := rfl; have hcs6 : (hdOf s).cells.size = 6 := rfl; have hco : (hdOf s).cells.all (·.oneCell') = true := by simp [Hd.cells, Value.oneCell']
 have hcv : ∀ W g, Blk W g 24 (hdOf s).cells → W.cell? ⟨g, 0, none⟩ = some (.int .u8 ((hdOf s).ver.toNat : Int)) := fun W g hW => hW.cell 0; generalize parseN s = pn at *; generalize (hdOf s).cells = cs at *; generalize (hdOf s).ver.toNat = v at *; have HZ := Hh hz; clear hz; have HS6 := Hh hcs6; clear hcs6; have HCV := Hh hcv; clear hcv; have HCO := Hh hco; clear hco hpH hps he hne; subst hk; rw [HZ.out]
 go_enter Tryz.func15, Tryz.ntmps15
 have hBr := Blk.new w 24 #[.int .u8 0, .string ⟨#[]⟩, .int .u8 0, .int .u8 0, .string ⟨#[]⟩, .int .u8 0]; have hbr := (Below.refl w.heap.size w).alloc lr (.cells #[.int .u8 0, .string ⟨#[]⟩, .int .u8 0, .int .u8 0, .string ⟨#[]⟩, .int .u8 0] 24); have hsr : (w.alloc (.cells #[.int .u8 0, .string ⟨#[]⟩, .int .u8 0, .int .u8 0, .string ⟨#[]⟩, .int .u8 0] 24)).heap.size = w.heap.size + 1 := by simp
 go_wp2_with fail
 refine (HPA.out).mono ?_; rintro e w1 ⟨⟨u, rfl, hu⟩, hb1⟩; obtain rfl : u = _ := hu; have hB1r := hBr.below hb1 (by omega); have hbel1 := hbr.trans (hb1.mono (by omega)); have hs1 : w.heap.size < w1.heap.size := hB1r.lt; clear hb1 hBr hbr hsr HPA; go_wp2_with (refine wpList_store_all rfl 24 (.tmp 7) (.tmp 21) rfl w1.heap.size cs rfl rfl 24 #[.int .u8 0, .string ⟨#[]⟩, .int .u8 0, .int .u8 0, .string ⟨#[]⟩, .int .u8 0] (Blk.new w1 _ _) (by rw [info_head, HS6.out]) (by rw [HS6.out]; rfl) HCO.out ?_; intro w2 hH2 hO2; have hc2 := HCV.out _ _ hH2)
 have hR2 := (hB1r.alloc (.cells #[.int .u8 0, .string ⟨#[]⟩, .int .u8 0, .int .u8 0, .string ⟨#[]⟩, .int .u8 0] 24)).only hO2 (by omega); have hbel2 := hO2.below (hbel1.alloc hbel1.size (.cells #[.int .u8 0, .string ⟨#[]⟩, .int .u8 0, .int .u8 0, .string ⟨#[]⟩, .int .u8 0] 24)) (by omega); clear hO2 hB1r hbel1; refine (HCI.out _).mono ?_; rintro e w3 ⟨⟨u, rfl, hu⟩, hb3⟩; obtain rfl : u = .iface 64 (.int .i64 (k : Int)) := hu; have hR3 := hR2.below hb3 hR2.lt; have hbel3 := hbel2.trans (hb3.mono hbel2.size); clear hb3 hR2 hH2 hbel2 hc2; go_wp2_with (refine wpList_store_all rfl 24 (.tmp 4) (.tmp 38) rfl w.heap.size #[.int .u8 0, .string ⟨#[]⟩, .int .u8 0, .int .u8 0, .string ⟨#[]⟩, .int .u8 0] rfl rfl 24 #[.int .u8 0, .string ⟨#[]⟩, .int .u8 0, .int .u8 0, .string ⟨#[]⟩, .int .u8 0] hR3 (by first | (rw [info_head]; rfl) | rw [info_head]) rfl (by simp [Value.oneCell']) ?_; intro w4 hR4 hO4)
 refine bodyPost_ret (results_cell3 rfl _ _ w.heap.size 24 _ _ rfl hR4 Tryz.underlying24 rfl (by first | (rw [info_head]; rfl) | rw [info_head])) rfl ?_; exact ⟨⟨_, rfl, rfl⟩, hO4.below hbel3 lr⟩

theorem parse_16 {s : ByteArray} (h : parseEr s = .ok) : 16 ≤ s.size := by
 unfold parseEr at h
 split at h
 ·
  cases h
 ·
  omega
theorem unwrap_size_bad (s : ByteArray) (hss : s.size ≤ 1500) (hps : parseEr s = .ok) (kind : Nat) (hkd : kindV (hdOf s).ver.toNat = kind) (wk : List Nat) (n : Nat) (hk : KeyOk kind wk) (hn : wk.length = n) (z : Nat) (hz : sizeN kind = z) (RL : Nat) (hRL : s.size = 16 + RL)
    (hbad : (parseN s != (s.size : Int)) = true ∨ ((parseN s != (s.size : Int)) = false ∧ (((RL : Int) % (2 * (z : Int)) != 0) = true)) ∨ ((parseN s != (s.size : Int)) = false ∧ (((RL : Int) % (2 * (z : Int)) != 0) = false) ∧ RL < 4 * z))
    (A0 : Option Addr) (c0 : Nat) (w : World) (hA0 : At w A0 wk) (hG : EtOk w) :
    Calls Tryz.prog 15 #[.slice A0 n c0, .string s] w fun e w' => e = .returned (.tuple #[.agg Hd.zero.cells, .slice none 0 0, .iface 64 (.int .i64 2)]) ∧ Below w.heap.size w w' := by
 have hz16 := size_le kind; have hz0 := size_pos kind; rw [hz] at hz16 hz0; have hs16 := parse_16 hps; have HPA := Hh (parse_any s (by omega) (w.alloc (.cells #[.int .u8 0, .string ⟨#[]⟩, .int .u8 0, .int .u8 0, .string ⟨#[]⟩, .int .u8 0] 24)) (hG.below ((Below.refl w.heap.size w).alloc lr _) lr)); have hpH : parseHd s = hdOf s := by unfold parseHd; rw [hps]; rfl
 rw [hpH, hps] at HPA; have HCI := Hh (fun W hA => ciphers_ok (hdOf s).ver.toNat kind hkd wk hk n hn A0 c0 W hA); have HSO := Hh (fun W => sizeOf_any (hdOf s).ver.toNat W); rw [hkd, hz] at HSO; obtain ⟨RS, hRS⟩ : ∃ RS, s.extract 16 s.size = RS := ⟨_, rfl⟩; have hRl : RS.size = RL := by rw [← hRS, ByteArray.size_extract]; omega
 have hzz : Hd.zero.cells = #[.int .u8 0, .string ⟨#[]⟩, .int .u8 0, .int .u8 0, .string ⟨#[]⟩, .int .u8 0] := rfl; have hcs6 : (hdOf s).cells.size = 6 := rfl; have hco : (hdOf s).cells.all (·.oneCell') = true := by simp [Hd.cells, Value.oneCell']
 have hcv : ∀ W g, Blk W g 24 (hdOf s).cells → W.cell? ⟨g, 0, none⟩ = some (.int .u8 ((hdOf s).ver.toNat : Int)) := fun W g hW => hW.cell 0; generalize parseN s = pn at *; generalize (hdOf s).cells = cs at *; generalize madeN kind wk 0 = R0 at *; generalize madeN kind wk 1 = R1 at *; generalize (hdOf s).ver.toNat = v at *; have HA0 := Hh (fun W (hb : Below w.heap.size w W) => hA0.below hb lr); have HS6 := Hh hcs6; clear hcs6; have HCV := Hh hcv; clear hcv; have HRS := Hh hRS; clear hRS; have HRL := Hh hRl; clear hRl; have HCO := Hh hco; clear hco hpH hps hA0 hkd hk hn hz hRL; rw [hzz]; clear hzz
 go_enter Tryz.func15, Tryz.ntmps15
 have hBr := Blk.new w 24 #[.int .u8 0, .string ⟨#[]⟩, .int .u8 0, .int .u8 0, .string ⟨#[]⟩, .int .u8 0]; have hbr := (Below.refl w.heap.size w).alloc lr (.cells #[.int .u8 0, .string ⟨#[]⟩, .int .u8 0, .int .u8 0, .string ⟨#[]⟩, .int .u8 0] 24); have hsr : (w.alloc (.cells #[.int .u8 0, .string ⟨#[]⟩, .int .u8 0, .int .u8 0, .string ⟨#[]⟩, .int .u8 0] 24)).heap.size = w.heap.size + 1 := by simp
 go_wp2_with fail
 refine (HPA.out).mono ?_; rintro e w1 ⟨⟨u, rfl, hu⟩, hb1⟩; obtain rfl : u = _ := hu; have hB1r := hBr.below hb1 (by omega); have hbel1 := hbr.trans (hb1.mono (by omega)); have hs1 : w.heap.size < w1.heap.size := hB1r.lt; clear hb1 hBr hbr hsr HPA; go_wp2_with (refine wpList_store_all rfl 24 (.tmp 7) (.tmp 21) rfl w1.heap.size cs rfl rfl 24 #[.int .u8 0, .string ⟨#[]⟩, .int .u8 0, .int .u8 0, .string ⟨#[]⟩, .int .u8 0] (Blk.new w1 _ _) (by rw [info_head, HS6.out]) (by rw [HS6.out]; rfl) HCO.out ?_; intro w2 hH2 hO2; have hc2 := HCV.out _ _ hH2)
 have hR2 := (hB1r.alloc (.cells #[.int .u8 0, .string ⟨#[]⟩, .int .u8 0, .int .u8 0, .string ⟨#[]⟩, .int .u8 0] 24)).only hO2 (by omega); have hbel2 := hO2.below (hbel1.alloc hbel1.size (.cells #[.int .u8 0, .string ⟨#[]⟩, .int .u8 0, .int .u8 0, .string ⟨#[]⟩, .int .u8 0] 24)) (by omega); have hs2 := hH2.lt; clear hO2 hB1r hbel1; refine (HCI.out _ (HA0.out _ hbel2)).mono ?_; rintro e w3 ⟨⟨g1, g2, rfl, -, -⟩, hb3⟩; have hR3 := hR2.below hb3 hR2.lt; have hH3 := hH2.below hb3 hs2; have hbel3 := hbel2.trans (hb3.mono hbel2.size); clear hb3 hR2 hH2 hbel2 hc2; have hs3 := hH3.lt; have hrs := HRS.out; have t4 : IntKind.i64.wrap (2 * (z : Int)) = 2 * (z : Int) := IntWalk.i64_in _ (by omega); have t5 : IntKind.i64.wrap (4 * (z : Int)) = 4 * (z : Int) := IntWalk.i64_in _ (by omega); have hz2 : ((2 * (z : Int)) == 0) = false := by rw [beq_eq_false_iff_ne]; omega
 have hz3 : ¬ (2 * (z : Int)) = 0 := by omega
 have hz4 : 0 < 2 * (z : Int) := by omega
 go_wp2_with fail
 refine wp_region_tree (.q 0 (.q 1 (.q 2 (.q 3 (.e [4] fun _ => .q 5 (.q 6 (.done))))))) (fun W => Blk W w1.heap.size 24 cs) rfl (by kernel_rfl) (fun _ _ d _ _ h => by cases d <;> exact h) ?_; have hwd : Blk w3.drew w1.heap.size 24 cs := hH3; have hbd : Below w.heap.size w w3.drew := below_drewN hbel3 1; have hRd : Blk w3.drew w.heap.size 24 #[.int .u8 0, .string ⟨#[]⟩, .int .u8 0, .int .u8 0, .string ⟨#[]⟩, .int .u8 0] := hR3
 change wpT _ _ _ _ _ _ w3.drew
 refine t_q rfl rfl hwd _ (fun W hW => by (go_simp; rfl)) ?_; go_simp
 refine t_q rfl rfl hwd (.string RS) (fun W hW => by (go_simp; intro h; omega)) ?_; go_simp
 refine t_q rfl rfl hwd _ (fun W hW => by (go_simp; rfl)) ?_; go_simp
 refine t_q rfl rfl hwd (.int .u8 (v : Int)) (fun W hW => by (have hc := HCV.out W _ hW; go_simp)) ?_; go_simp
 refine t_e rfl rfl fun K hK => ?_; go_simp
 refine (HSO.out _).mono ?_; rintro e w4 ⟨rfl, rfl⟩; refine hK _ _ hwd ?_; clear hK K; go_simp
 iterate 2 (refine t_q rfl rfl hwd _ (fun W hW => by (go_simp; rfl)) ?_; go_simp)
 refine t_done ?_; clear hR3 hbel3 hH3 hs3 hwd; generalize w3.drew = w4 at *; have hrl := HRL.out
 rcases hbad with t1 | ⟨t1, t2⟩ | ⟨t1, t2, t3⟩
 all_goals first | (have t3 : (RL : Int) < 4 * (z : Int) := by omega) | skip
 all_goals (go_wp2_with (refine wpList_store_all rfl 24 (.tmp 4) (.tmp 64) rfl w.heap.size #[.int .u8 0, .string ⟨#[]⟩, .int .u8 0, .int .u8 0, .string ⟨#[]⟩, .int .u8 0] rfl rfl 24 #[.int .u8 0, .string ⟨#[]⟩, .int .u8 0, .int .u8 0, .string ⟨#[]⟩, .int .u8 0] hRd (by first | (rw [info_head]; rfl) | rw [info_head]) rfl (by simp [Value.oneCell']) ?_; intro w5 hR5 hO5))
 all_goals refine bodyPost_ret (results_cell3 rfl _ _ w.heap.size 24 _ _ rfl hR5 Tryz.underlying24 rfl (by first | (rw [info_head]; rfl) | rw [info_head])) rfl ?_
 all_goals exact ⟨rfl, hO5.below hbd lr⟩

end Go.Proofs.YtfkjkkjimdilcaaGreatDoor

/- The contracts of errors.As, api.Code, api.At of a Fault that holds a Fault. -/
namespace Go.Proofs.YtfkjkkjimdilcaaGreatDoor
open Go Go.RowKit Go.Extern.Stop Go.Stop Go.Extern

theorem as_nest_no (f g : Nat) (p q n : Int) (t : Addr) (old : Value) (w : World) (hg : w.cell? ⟨0, 0, none⟩ = some (.iface 154 (.agg #[.pointer (some ⟨5, 31, none⟩)]))) (ht0 : w.cell? t = some old) (hf0 : w.frozen? t = false) (hE : Blk w f 76 #[.int .i64 p, .iface 74 (.pointer (some ⟨g, 0, none⟩))]) (hF : Blk w g 76 #[.int .i64 q, .iface 64 (.int .i64 n)]) :
    Calls Tryz.prog 47 #[.iface 74 (.pointer (some ⟨f, 0, none⟩)), .iface 90 (.pointer (some t))] w fun ev w' => ev = .returned (.bool true) ∧ ∃ w1, Below w.heap.size w w1 ∧ w' = w1.setCell t (.int .i64 n) := by
 have x52 := @run_callFunc_extern Tryz.prog 80 _ (fun args => ReflectliteValue.unpack (args.getD 0 (.tuple #[]))) Tryz.func80 (by kernel_rfl) (by kernel_rfl) (by kernel_rfl) (by kernel_rfl); have x53 := @run_callFunc_extern Tryz.prog 81 _ (ReflectliteValue.methodAny (ReflectliteValue.valueError "reflectlite.Value.Type" 0) (fun t _ _ _ => ReflectliteType.toType t)) Tryz.func81 (by kernel_rfl) (by kernel_rfl) (by kernel_rfl) (by kernel_rfl); have x54 := @run_callFunc_extern Tryz.prog 82 _ (ReflectliteValue.method (ReflectliteValue.valueError "reflectlite.Value.IsNil" 0) ReflectliteValue.isNil) Tryz.func82 (by kernel_rfl) (by kernel_rfl) (by kernel_rfl) (by kernel_rfl); have xK := @run_callFunc_extern Tryz.prog 180 _ (ReflectliteType.abiMethod fun t => do pure (.int .u8 (← Rtype.kind t))) Tryz.func180 (by kernel_rfl) (by kernel_rfl) (by kernel_rfl) (by kernel_rfl); have xE := @run_callFunc_extern Tryz.prog 194 _ (ReflectliteType.method ReflectliteType.elem) Tryz.func194 (by kernel_rfl) (by kernel_rfl) (by kernel_rfl) (by kernel_rfl); have xI := @run_callFunc_extern Tryz.prog 195 _ (ReflectliteType.relation "Implements" ReflectliteType.implements_) Tryz.func195 (by kernel_rfl) (by kernel_rfl) (by kernel_rfl) (by kernel_rfl); have xT := @run_callFunc_extern Tryz.prog 102 _ ReflectliteType.typeOf Tryz.func102 (by kernel_rfl) (by kernel_rfl) (by kernel_rfl) (by kernel_rfl); have xA := @run_callFunc_extern Tryz.prog 192 _ (ReflectliteType.relation "AssignableTo" ReflectliteType.assignableTo) Tryz.func192 (by kernel_rfl) (by kernel_rfl) (by kernel_rfl) (by kernel_rfl); have x83 := @run_callFunc_extern Tryz.prog 103 _ (ReflectliteValue.method (ReflectliteValue.valueError "reflectlite.Value.Elem" 0) ReflectliteValue.elem) Tryz.func103 (by kernel_rfl) (by kernel_rfl) (by kernel_rfl) (by kernel_rfl); have x84 := @run_callFunc_extern Tryz.prog 104 _ ReflectliteValue.set Tryz.func104 (by kernel_rfl) (by kernel_rfl) (by kernel_rfl) (by kernel_rfl); have mK := methodKind; have mE := methodElem; have mI := methodImplements; have mA := methodAssignableTo; have q1 := valueOf_no; have q2 := type_no; have q3 := kind_no; have q4 := kindE_no; have q5 := elem_no; have q6 := implements_no; have hlt : 0 < w.heap.size := block_lt_of_cell hg; have htl : t.block < w.heap.size := block_lt_of_cell ht0; have n8 := isNil_no ⟨w.heap.size, 0, none⟩ t ((w.alloc (.cells #[.pointer (some t)] 90)).alloc (.cells #[.pointer (some ⟨5, 90, none⟩), .pointer (some ⟨w.heap.size, 0, none⟩), .int .u64 150] 126)) (by simp)
 have hg2 : ((w.alloc (.cells #[.pointer (some t)] 90)).alloc (.cells #[.pointer (some ⟨5, 90, none⟩), .pointer (some ⟨w.heap.size, 0, none⟩), .int .u64 150] 126)).cell? ⟨0, 0, none⟩ = some (.iface 154 (.agg #[.pointer (some ⟨5, 31, none⟩)])) := by
  rw [World.cell?_alloc_lt _ _ ⟨0, 0, none⟩ (by simp), World.cell?_alloc_lt _ _ ⟨0, 0, none⟩ hlt]; exact hg
 have el := elemV_no ⟨w.heap.size, 0, none⟩ t (((w.alloc (.cells #[.pointer (some t)] 90)).alloc (.cells #[.pointer (some ⟨5, 90, none⟩), .pointer (some ⟨w.heap.size, 0, none⟩), .int .u64 150] 126)).alloc (.cells #[.pointer (some ⟨5, 90, none⟩), .pointer (some ⟨w.heap.size, 0, none⟩), .int .u64 150] 126)) (by rw [World.cell?_alloc_lt _ _ ⟨w.heap.size, 0, none⟩ (by simp; omega)]; simp); have a1 := assign_fa_no; have a2 := typeOf_fa; have a4 := assign_no; have a5 := typeOf_no; have a6 := valueOfE_no; have r1 := asrt_fa_As; have r2 := asrt_fa_U; have mU := methodUnwrap; have cF : (((w.alloc (.cells #[.pointer (some t)] 90)).alloc (.cells #[.pointer (some ⟨5, 90, none⟩), .pointer (some ⟨w.heap.size, 0, none⟩), .int .u64 150] 126)).alloc (.cells #[.pointer (some ⟨5, 90, none⟩), .pointer (some ⟨w.heap.size, 0, none⟩), .int .u64 150] 126)).cell? ⟨g, 1, none⟩ = some (.iface 64 (.int .i64 n)) := (((hF.alloc _).alloc _).alloc _).cell 1; have cE : (((w.alloc (.cells #[.pointer (some t)] 90)).alloc (.cells #[.pointer (some ⟨5, 90, none⟩), .pointer (some ⟨w.heap.size, 0, none⟩), .int .u64 150] 126)).alloc (.cells #[.pointer (some ⟨5, 90, none⟩), .pointer (some ⟨w.heap.size, 0, none⟩), .int .u64 150] 126)).cell? ⟨f, 1, none⟩ = some (.iface 74 (.pointer (some ⟨g, 0, none⟩))) := (((hE.alloc _).alloc _).alloc _).cell 1
 have st := set_no t ⟨w.heap.size + 1 + 1 + 1, 0, none⟩ n old ((((w.alloc (.cells #[.pointer (some t)] 90)).alloc (.cells #[.pointer (some ⟨5, 90, none⟩), .pointer (some ⟨w.heap.size, 0, none⟩), .int .u64 150] 126)).alloc (.cells #[.pointer (some ⟨5, 90, none⟩), .pointer (some ⟨w.heap.size, 0, none⟩), .int .u64 150] 126)).alloc (.cells #[.int .i64 n] 64))
  (by rw [World.cell?_alloc_at _ _ _ _ (by simp)]; rfl)
  (by rw [World.cell?_alloc_lt _ _ t (by simp; omega), World.cell?_alloc_lt _ _ t (by simp; omega), World.cell?_alloc_lt _ _ t (by simp; omega), World.cell?_alloc_lt _ _ t htl]; exact ht0)
  (by rw [World.frozen?_alloc_old _ _ t (by simp; omega), World.frozen?_alloc_old _ _ t (by simp; omega), World.frozen?_alloc_old _ _ t (by simp; omega), World.frozen?_alloc_old _ _ t (Nat.ne_of_lt htl)]; exact hf0)
 go_enter Tryz.func47, Tryz.ntmps47
 go_wp2
 refine wp_loop_rounds 3 ?_; rw [rounds_succ]; go_wp2
 rw [rounds_succ]; go_wp2
 rw [rounds_succ]; go_wp2
 go_ret
 exact ⟨rfl, _, (((((Below.refl _ _).alloc lr _).alloc (by simp) _).alloc (by simp; omega) _).alloc (by simp; omega) _), rfl⟩

/-- the value v is a Fault at p that holds a Fault whose own error has the number n -/
def NestIs (w : World) (B : Nat) (v : Value) (p : Int) (n : Nat) : Prop := ∃ f g q, v = .iface 74 (.pointer (some ⟨f, 0, none⟩)) ∧ B ≤ f ∧ Blk w f 76 #[.int .i64 p, .iface 74 (.pointer (some ⟨g, 0, none⟩))] ∧ Blk w g 76 #[.int .i64 q, .iface 64 (.int .i64 (n : Int))]
theorem NestIs.below {w w' : World} {B C : Nat} {v : Value} {p : Int} {n : Nat} (h : NestIs w B v p n) (hb : Below C w w') (hC : w.heap.size ≤ C) : NestIs w' B v p n := by
 obtain ⟨f, g, q, e, hf, h1, h2⟩ := h; exact ⟨f, g, q, e, hf, h1.below hb (Nat.lt_of_lt_of_le h1.lt hC), h2.below hb (Nat.lt_of_lt_of_le h2.lt hC)⟩

theorem code_nest (v : Value) (p : Int) (n : Nat) (B : Nat) (w : World) (hE : NestIs w B v p n) (hG : EtOk w) :
    Calls Tryz.prog 22 #[v] w fun e w' => e = .returned (.int .i64 (n : Int)) ∧ Below w.heap.size w w' := by
 have hb0 : Below w.heap.size w (w.alloc (.cells #[.int .i64 0] 64)) := (Below.refl _ _).alloc lr _; have hN := Blk.new w 64 #[.int .i64 0]; have hc := hN.cell 0; rw [show (#[Value.int .i64 0] : Array Value)[0]? = some (.int .i64 0) from rfl] at hc; have hf := hN.frozen 0; have hG1 := hG.alloc (.cells #[.int .i64 0] 64); obtain ⟨f, g, q, rfl, -, hF1, hF2⟩ := hE; have HA := Hh (as_nest_no f g p q (n : Int) ⟨w.heap.size, 0, none⟩ (.int .i64 0) _ hG1 hc hf (hF1.alloc _) (hF2.alloc _)); have hs := hN.lt; clear hG1 hc hf hF1 hF2
 go_enter Tryz.func22, Tryz.ntmps22
 go_wp2_with fail
 refine HA.out.mono ?_; rintro e w' ⟨rfl, w1, hb1, rfl⟩; have hN1 := (hN.below hb1 hs).set_ 0 (.int .i64 (n : Int)); have hc1 := hN1.cell 0; rw [show ((#[Value.int .i64 0] : Array Value).setIfInBounds 0 (.int .i64 (n : Int)))[0]? = some (.int .i64 (n : Int)) from rfl] at hc1; have hbb := below_setCell hb0 hb1 (Nat.le_of_lt hs) ⟨w.heap.size, 0, none⟩ lr (.int .i64 (n : Int)); clear hN1 hN hb1 hb0 HA hG hs; generalize w1.setCell ⟨w.heap.size, 0, none⟩ (.int .i64 (n : Int)) = w2 at *; go_wp2
 go_ret
 exact ⟨rfl, hbb⟩

theorem at_nest (v : Value) (p : Int) (n : Nat) (B : Nat) (w : World) (hE : NestIs w B v p n) (hG : EtOk w) :
    Calls Tryz.prog 23 #[v] w fun e w' => e = .returned (.int .i64 p) ∧ Below w.heap.size w w' := by
 have hb0 : Below w.heap.size w (w.alloc (.cells #[.pointer none] 74)) := (Below.refl _ _).alloc lr _; have hN := Blk.new w 74 #[.pointer none]; have hc := hN.cell 0; rw [show (#[Value.pointer none] : Array Value)[0]? = some (.pointer none) from rfl] at hc; have hf := hN.frozen 0; have hG1 := hG.alloc (.cells #[.pointer none] 74); obtain ⟨g, g2, q, rfl, -, hF, -⟩ := hE; have HA := Hh (as_fa_fa ⟨g, 0, none⟩ ⟨w.heap.size, 0, none⟩ (.pointer none) _ hG1 hc hf); have hs := hN.lt; have hgl := hF.lt; clear hG1 hc hf
 go_enter Tryz.func23, Tryz.ntmps23
 go_wp2_with fail
 refine HA.out.mono ?_; rintro e w' ⟨rfl, w1, hb1, rfl⟩; have hN1 := (hN.below hb1 hs).set_ 0 (.pointer (some ⟨g, 0, none⟩)); have hc1 := hN1.cell 0; rw [show ((#[Value.pointer none] : Array Value).setIfInBounds 0 (.pointer (some ⟨g, 0, none⟩)))[0]? = some (.pointer (some ⟨g, 0, none⟩)) from rfl] at hc1; have hbb := below_setCell hb0 hb1 (Nat.le_of_lt hs) ⟨w.heap.size, 0, none⟩ lr (.pointer (some ⟨g, 0, none⟩)); have hF1 := (hF.below hbb hgl).cell 0; rw [show (#[Value.int .i64 p, .iface 74 (.pointer (some ⟨g2, 0, none⟩))] : Array Value)[0]? = some (.int .i64 p) from rfl] at hF1; clear hN1 hN hb1 hb0 HA hG hs hF; generalize w1.setCell ⟨w.heap.size, 0, none⟩ (.pointer (some ⟨g, 0, none⟩)) = w2 at *; go_wp2
 go_ret
 exact ⟨rfl, hbb⟩

end Go.Proofs.YtfkjkkjimdilcaaGreatDoor

/- The contracts of wrap.Unwrap where a digit, the code or the form is wrong. -/
namespace Go.Proofs.YtfkjkkjimdilcaaGreatDoor
open Go Go.RowKit Pr

theorem unwrap_hex_bad (s : ByteArray) (hss : s.size ≤ 1500) (hps : parseEr s = .ok) (kind : Nat) (hkd : kindV (hdOf s).ver.toNat = kind) (wk : List Nat) (n : Nat) (hky : KeyOk kind wk) (hn : wk.length = n) (z : Nat) (hz : sizeN kind = z) (RL : Nat) (hRL : s.size = 16 + RL)
    (hnum : (parseN s != (s.size : Int)) = false) (hm : (((RL : Int) % (2 * (z : Int)) != 0) = false)) (hl : 4 * z ≤ RL) (k : Nat) (hk : badAt isHex (s.extract 16 s.size).data.toList = some k) (hk2 : k ≤ 1500)
    (A0 : Option Addr) (c0 : Nat) (w : World) (hA0 : At w A0 wk) (hG : EtOk w) :
    Calls Tryz.prog 15 #[.slice A0 n c0, .string s] w fun e w' => (∃ u, e = .returned (.tuple #[.agg Hd.zero.cells, .slice none 0 0, u]) ∧ NestIs w' w.heap.size u (16 + (k : Int)) 16) ∧ Below w.heap.size w w' := by
 have hz16 := size_le kind; have hz0 := size_pos kind; rw [hz] at hz16 hz0; have hs16 := parse_16 hps; have HPA := Hh (parse_any s (by omega) (w.alloc (.cells #[.int .u8 0, .string ⟨#[]⟩, .int .u8 0, .int .u8 0, .string ⟨#[]⟩, .int .u8 0] 24)) (hG.below ((Below.refl w.heap.size w).alloc lr _) lr)); have hpH : parseHd s = hdOf s := by unfold parseHd; rw [hps]; rfl
 rw [hpH, hps] at HPA; have HCI := Hh (fun W hA => ciphers_ok (hdOf s).ver.toNat kind hkd wk hky n hn A0 c0 W hA); have HSO := Hh (fun W => sizeOf_any (hdOf s).ver.toNat W); rw [hkd, hz] at HSO; obtain ⟨RS, hRS⟩ : ∃ RS, s.extract 16 s.size = RS := ⟨_, rfl⟩; have hRl : RS.size = RL := by rw [← hRS, ByteArray.size_extract]; omega
 rw [hRS] at hk; have HUN := Hh (fun W => unhex_bad RS (by omega) k hk W); clear hk; have hzz : Hd.zero.cells = #[.int .u8 0, .string ⟨#[]⟩, .int .u8 0, .int .u8 0, .string ⟨#[]⟩, .int .u8 0] := rfl; have hcs6 : (hdOf s).cells.size = 6 := rfl; have hco : (hdOf s).cells.all (·.oneCell') = true := by simp [Hd.cells, Value.oneCell']
 have hcv : ∀ W g, Blk W g 24 (hdOf s).cells → W.cell? ⟨g, 0, none⟩ = some (.int .u8 ((hdOf s).ver.toNat : Int)) := fun W g hW => hW.cell 0; generalize parseN s = pn at *; generalize (hdOf s).cells = cs at *; generalize madeN kind wk 0 = R0 at *; generalize madeN kind wk 1 = R1 at *; generalize (hdOf s).ver.toNat = v at *; have HA0 := Hh (fun W (hb : Below w.heap.size w W) => hA0.below hb lr); have HS6 := Hh hcs6; clear hcs6; have HCV := Hh hcv; clear hcv; have HRS := Hh hRS; clear hRS; have HRL := Hh hRl; clear hRl; have HCO := Hh hco; clear hco hpH hps hA0 hkd hky hn hz hRL; rw [hzz]; clear hzz
 go_enter Tryz.func15, Tryz.ntmps15
 have hBr := Blk.new w 24 #[.int .u8 0, .string ⟨#[]⟩, .int .u8 0, .int .u8 0, .string ⟨#[]⟩, .int .u8 0]; have hbr := (Below.refl w.heap.size w).alloc lr (.cells #[.int .u8 0, .string ⟨#[]⟩, .int .u8 0, .int .u8 0, .string ⟨#[]⟩, .int .u8 0] 24); have hsr : (w.alloc (.cells #[.int .u8 0, .string ⟨#[]⟩, .int .u8 0, .int .u8 0, .string ⟨#[]⟩, .int .u8 0] 24)).heap.size = w.heap.size + 1 := by simp
 go_wp2_with fail
 refine (HPA.out).mono ?_; rintro e w1 ⟨⟨u, rfl, hu⟩, hb1⟩; obtain rfl : u = _ := hu; have hB1r := hBr.below hb1 (by omega); have hbel1 := hbr.trans (hb1.mono (by omega)); have hs1 : w.heap.size < w1.heap.size := hB1r.lt; clear hb1 hBr hbr hsr HPA; go_wp2_with (refine wpList_store_all rfl 24 (.tmp 7) (.tmp 21) rfl w1.heap.size cs rfl rfl 24 #[.int .u8 0, .string ⟨#[]⟩, .int .u8 0, .int .u8 0, .string ⟨#[]⟩, .int .u8 0] (Blk.new w1 _ _) (by rw [info_head, HS6.out]) (by rw [HS6.out]; rfl) HCO.out ?_; intro w2 hH2 hO2; have hc2 := HCV.out _ _ hH2)
 have hR2 := (hB1r.alloc (.cells #[.int .u8 0, .string ⟨#[]⟩, .int .u8 0, .int .u8 0, .string ⟨#[]⟩, .int .u8 0] 24)).only hO2 (by omega); have hbel2 := hO2.below (hbel1.alloc hbel1.size (.cells #[.int .u8 0, .string ⟨#[]⟩, .int .u8 0, .int .u8 0, .string ⟨#[]⟩, .int .u8 0] 24)) (by omega); have hs2 := hH2.lt; clear hO2 hB1r hbel1; refine (HCI.out _ (HA0.out _ hbel2)).mono ?_; rintro e w3 ⟨⟨g1, g2, rfl, -, -⟩, hb3⟩; have hR3 := hR2.below hb3 hR2.lt; have hH3 := hH2.below hb3 hs2; have hbel3 := hbel2.trans (hb3.mono hbel2.size); clear hb3 hR2 hH2 hbel2 hc2; have hs3 := hH3.lt; have hrs := HRS.out; have t4 : IntKind.i64.wrap (2 * (z : Int)) = 2 * (z : Int) := IntWalk.i64_in _ (by omega); have t5 : IntKind.i64.wrap (4 * (z : Int)) = 4 * (z : Int) := IntWalk.i64_in _ (by omega); have hz2 : ((2 * (z : Int)) == 0) = false := by rw [beq_eq_false_iff_ne]; omega
 have hz3 : ¬ (2 * (z : Int)) = 0 := by omega
 have hz4 : 0 < 2 * (z : Int) := by omega
 go_wp2_with fail
 refine wp_region_tree (.q 0 (.q 1 (.q 2 (.q 3 (.e [4] fun _ => .q 5 (.q 6 (.done))))))) (fun W => Blk W w1.heap.size 24 cs) rfl (by kernel_rfl) (fun _ _ d _ _ h => by cases d <;> exact h) ?_; have hwd : Blk w3.drew w1.heap.size 24 cs := hH3; have hbd : Below w.heap.size w w3.drew := below_drewN hbel3 1; have hRd : Blk w3.drew w.heap.size 24 #[.int .u8 0, .string ⟨#[]⟩, .int .u8 0, .int .u8 0, .string ⟨#[]⟩, .int .u8 0] := hR3
 change wpT _ _ _ _ _ _ w3.drew
 refine t_q rfl rfl hwd _ (fun W hW => by (go_simp; rfl)) ?_; go_simp
 refine t_q rfl rfl hwd (.string RS) (fun W hW => by (go_simp; intro h; omega)) ?_; go_simp
 refine t_q rfl rfl hwd _ (fun W hW => by (go_simp; rfl)) ?_; go_simp
 refine t_q rfl rfl hwd (.int .u8 (v : Int)) (fun W hW => by (have hc := HCV.out W _ hW; go_simp)) ?_; go_simp
 refine t_e rfl rfl fun K hK => ?_; go_simp
 refine (HSO.out _).mono ?_; rintro e w4 ⟨rfl, rfl⟩; refine hK _ _ hwd ?_; clear hK K; go_simp
 iterate 2 (refine t_q rfl rfl hwd _ (fun W hW => by (go_simp; rfl)) ?_; go_simp)
 refine t_done ?_; clear hR3 hbel3 hH3 hs3 hwd; generalize w3.drew = w4 at *; have hrl := HRL.out; have t1 := hnum; have t2 := hm; have t3 : ¬ (RL : Int) < 4 * (z : Int) := by omega
 clear hnum hm; have hs4 := hRd.lt; go_wp2_with fail
 refine (HUN.out _).mono ?_; rintro e w5 ⟨⟨vb, rfl, hvb⟩, hb5⟩; have hbel5 := hbd.trans (hb5.mono hbd.size); have hR5 := hRd.below hb5 hRd.lt; have HAT := Hh (at_any vb (.fa k 16) _ w5 hvb (hG.below hbel5 lr)); obtain ⟨g, rfl, hg, hB5⟩ := hvb; have hs5 := hb5.size; clear hb5 hbd hRd HUN; go_wp2_with fail
 refine HAT.out.mono ?_; rintro e w6 ⟨rfl, hb6⟩; have hR6 := hR5.below hb6 hR5.lt; have hB6 := hB5.below hb6 hB5.lt; have hbel6 := hbel5.trans (hb6.mono hbel5.size); have hs6 := hb6.size; have hat : erAt (.fa (k : Int) 16) = (k : Int) := rfl; rw [hat]; clear hat hB5 hR5 hb6 hbel5 HAT; have hkI : (k : Int) ≤ 1500 := by omega
 have hN7 := Blk.new w6 76 #[.int .i64 (16 + (k : Int)), .iface 74 (.pointer (some ⟨g, 0, none⟩))]; have hR7 := hR6.alloc (.cells #[.int .i64 (16 + (k : Int)), .iface 74 (.pointer (some ⟨g, 0, none⟩))] 76); have hB7 := hB6.alloc (.cells #[.int .i64 (16 + (k : Int)), .iface 74 (.pointer (some ⟨g, 0, none⟩))] 76); have hbel7 := hbel6.alloc hbel6.size (.cells #[.int .i64 (16 + (k : Int)), .iface 74 (.pointer (some ⟨g, 0, none⟩))] 76); have hs7 := hR6.lt; clear hR6 hB6 hbel6; go_wp2_with (refine wpList_store_all rfl 24 (.tmp 4) (.tmp 73) rfl w.heap.size #[.int .u8 0, .string ⟨#[]⟩, .int .u8 0, .int .u8 0, .string ⟨#[]⟩, .int .u8 0] rfl rfl 24 #[.int .u8 0, .string ⟨#[]⟩, .int .u8 0, .int .u8 0, .string ⟨#[]⟩, .int .u8 0] hR7 (by first | (rw [info_head]; rfl) | rw [info_head]) rfl (by simp [Value.oneCell']) ?_; intro w8 hR8 hO8)
 refine bodyPost_ret (results_cell3 rfl _ _ w.heap.size 24 _ _ rfl hR8 Tryz.underlying24 rfl (by first | (rw [info_head]; rfl) | rw [info_head])) rfl ?_; exact ⟨⟨_, rfl, w6.heap.size, g, k, rfl, by omega, hN7.only hO8 (by omega), hB7.only hO8 (by omega)⟩, hO8.below hbel7 lr⟩

theorem unwrap_code_bad (s : ByteArray) (hss : s.size ≤ 1000) (hps : parseEr s = .ok) (hnum : (parseN s != (s.size : Int)) = false) (kind : Nat) (hkd : kindV (hdOf s).ver.toNat = kind) (wk : List Nat) (n : Nat) (hk : KeyOk kind wk) (hn : wk.length = n) (q z : Nat) (hz : sizeN kind = z) (hsz : s.size = 16 + 2 * (q + z)) (hqm : q % z = 0) (hq0 : z ≤ q)
    (hhex : badAt isHex (s.extract 16 s.size).data.toList = none) (hoc : openC kind (madeN kind wk 0) (madeN kind wk 1) (unhexL (s.extract 16 s.size).data.toList) (s.extract 0 16) q = false)
    (A0 : Option Addr) (c0 : Nat) (w : World) (hA0 : At w A0 wk) (hG : EtOk w) :
    Calls Tryz.prog 15 #[.slice A0 n c0, .string s] w fun e w' => e = .returned (.tuple #[.agg Hd.zero.cells, .slice none 0 0, .iface 64 (.int .i64 4)]) ∧ Below w.heap.size w w' := by
 have hz16 := size_le kind; have hz0 := size_pos kind; rw [hz] at hz16 hz0; have HPA := Hh (parse_any s (by omega) (w.alloc (.cells #[.int .u8 0, .string ⟨#[]⟩, .int .u8 0, .int .u8 0, .string ⟨#[]⟩, .int .u8 0] 24)) (hG.below ((Below.refl w.heap.size w).alloc lr _) lr)); have hpH : parseHd s = hdOf s := by unfold parseHd; rw [hps]; rfl
 rw [hpH, hps] at HPA; have k0 := madeN_key hk (p := 0) (by omega); have k1 := madeN_key hk (p := 1) (by omega); have HCI := Hh (fun W hA => ciphers_ok (hdOf s).ver.toNat kind hkd wk hk n hn A0 c0 W hA); have HSO := Hh (fun W => sizeOf_any (hdOf s).ver.toNat W); rw [hkd, hz] at HSO; obtain ⟨RS, hRS⟩ : ∃ RS, s.extract 16 s.size = RS := ⟨_, rfl⟩; obtain ⟨PS, hPS⟩ : ∃ PS, s.extract 0 16 = PS := ⟨_, rfl⟩; have hRl : RS.size = 2 * (q + z) := by rw [← hRS, ByteArray.size_extract]; omega
 have hPl : PS.size = 16 := by rw [← hPS, ByteArray.size_extract]; omega
 rw [hRS] at hhex hoc; rw [hPS] at hoc
 have hbl : (unhexL RS.data.toList).length = q + z := by
  rw [unhexL_len]; have : RS.data.toList.length = RS.size := by simp
  omega
 have hbb : Byt (unhexL RS.data.toList) := unhexL_lt (all_of_badAt hhex); have HUN := Hh (fun W => unhex_ok RS (by omega) hhex (by omega) W); generalize unhexL RS.data.toList = BX at *; have HOP := Hh (fun g1 g2 A cb hcb W hC1 hC2 hA => opened_any g1 g2 kind (madeN kind wk 0) (madeN kind wk 1) k0 k1 PS (by omega) BX q z hz hbl (by omega) (by omega) hqm hbb A cb hcb W hC1 hC2 hA); rw [hoc] at HOP; generalize openT kind (madeN kind wk 0) BX q = TX at *; generalize madeN kind wk 0 = R0 at *; generalize madeN kind wk 1 = R1 at *; have hcs6 : (hdOf s).cells.size = 6 := rfl; have hco : (hdOf s).cells.all (·.oneCell') = true := by simp [Hd.cells, Value.oneCell']
 have hzz : Hd.zero.cells = #[.int .u8 0, .string ⟨#[]⟩, .int .u8 0, .int .u8 0, .string ⟨#[]⟩, .int .u8 0] := rfl; have hcv : ∀ W g, Blk W g 24 (hdOf s).cells → W.cell? ⟨g, 0, none⟩ = some (.int .u8 ((hdOf s).ver.toNat : Int)) := fun W g hW => hW.cell 0; generalize parseN s = pn at *; generalize (hdOf s).cells = cs at *; generalize (hdOf s).ver.toNat = v at *; have HA0 := Hh (fun W (hb : Below w.heap.size w W) => hA0.below hb lr); have HCV := Hh hcv; have HS6 := Hh hcs6; have HCO := Hh hco; have HBL := Hh hbl; have HRS := Hh hRS; have HPS := Hh hPS; have HRL := Hh hRl; have hs16 : 16 ≤ s.size := by omega
 have HQM := Hh hqm; have hz8 : z = 8 ∨ z = 16 := by unfold sizeN at hz; split at hz <;> omega
 clear hA0 hcv hcs6 hco hbl hRS hPS hRl hqm hoc hhex hps hkd hk hn hpH k0 k1 hbb hPl hsz hz; rw [hzz]; clear hzz
 go_enter Tryz.func15, Tryz.ntmps15
 have hBr := Blk.new w 24 #[.int .u8 0, .string ⟨#[]⟩, .int .u8 0, .int .u8 0, .string ⟨#[]⟩, .int .u8 0]; have hbr := (Below.refl w.heap.size w).alloc lr (.cells #[.int .u8 0, .string ⟨#[]⟩, .int .u8 0, .int .u8 0, .string ⟨#[]⟩, .int .u8 0] 24); have hsr : (w.alloc (.cells #[.int .u8 0, .string ⟨#[]⟩, .int .u8 0, .int .u8 0, .string ⟨#[]⟩, .int .u8 0] 24)).heap.size = w.heap.size + 1 := by simp
 go_wp2_with fail
 refine (HPA.out).mono ?_; rintro e w1 ⟨⟨u, rfl, hu⟩, hb1⟩; obtain rfl : u = _ := hu; have hB1r := hBr.below hb1 (by omega); have hbel1 := hbr.trans (hb1.mono (by omega)); have hs1 : w.heap.size < w1.heap.size := hB1r.lt; clear hb1 hBr hbr hsr; go_wp2_with (refine wpList_store_all rfl 24 (.tmp 7) (.tmp 21) rfl w1.heap.size cs rfl rfl 24 #[.int .u8 0, .string ⟨#[]⟩, .int .u8 0, .int .u8 0, .string ⟨#[]⟩, .int .u8 0] (Blk.new w1 _ _) (by rw [info_head, HS6.out]) (by rw [HS6.out]; rfl) HCO.out ?_; intro w2 hH2 hO2; have hc2 := HCV.out _ _ hH2)
 have hR2 := (hB1r.alloc (.cells #[.int .u8 0, .string ⟨#[]⟩, .int .u8 0, .int .u8 0, .string ⟨#[]⟩, .int .u8 0] 24)).only hO2 (by omega); have hbel2 := hO2.below (hbel1.alloc hbel1.size (.cells #[.int .u8 0, .string ⟨#[]⟩, .int .u8 0, .int .u8 0, .string ⟨#[]⟩, .int .u8 0] 24)) (by omega); have hs2 := hH2.lt; clear hO2 hB1r hbel1; refine (HCI.out _ (HA0.out _ hbel2)).mono ?_; rintro e w3 ⟨⟨g1, g2, rfl, hC1, hC2⟩, hb3⟩; have hR3 := hR2.below hb3 hR2.lt; have hH3 := hH2.below hb3 hs2; have hbel3 := hbel2.trans (hb3.mono hbel2.size); have HC1 := Hh hC1; have HC2 := Hh hC2; clear hC1 hC2 hb3 hR2 hH2 hbel2 hc2; have hs3 := hH3.lt; have hrs := HRS.out; have hps := HPS.out; have t1 := hnum
 have t2 : ((RS.size : Int) % (2 * (z : Int)) != 0) = false := by
  have h1 := HRL.out; have h2 := HQM.out; rw [bne_eq_false_iff_eq]
  rcases hz8 with rfl | rfl <;> omega
 have t3 : ¬ (RS.size : Int) < 4 * (z : Int) := by
  have h1 := HRL.out; omega
 have t4 : IntKind.i64.wrap (2 * (z : Int)) = 2 * (z : Int) := IntWalk.i64_in _ (by omega); have t5 : IntKind.i64.wrap (4 * (z : Int)) = 4 * (z : Int) := IntWalk.i64_in _ (by omega); have hz2 : ((2 * (z : Int)) == 0) = false := by rw [beq_eq_false_iff_ne]; omega
 have hz3 : ¬ (2 * (z : Int)) = 0 := by omega
 have hz4 : 0 < 2 * (z : Int) := by omega
 clear hnum; go_wp2_with fail
 refine wp_region_tree (.q 0 (.q 1 (.q 2 (.q 3 (.e [4] fun _ => .q 5 (.q 6 (.done))))))) (fun W => Blk W w1.heap.size 24 cs) rfl (by kernel_rfl) (fun _ _ d _ _ h => by cases d <;> exact h) ?_; have hwd : Blk w3.drew w1.heap.size 24 cs := hH3; have hbd : Below w.heap.size w w3.drew := below_drewN hbel3 1; have HC1d : Hid (CipherAt w3.drew g1 kind R0 (.pointer none)) := Hh (HC1.out.below (C := w3.heap.size) (below_drewN (Below.refl w3.heap.size w3) 1) lr); have HC2d : Hid (CipherAt w3.drew g2 kind R1 (.pointer none)) := Hh (HC2.out.below (C := w3.heap.size) (below_drewN (Below.refl w3.heap.size w3) 1) lr); have hRd : Blk w3.drew w.heap.size 24 #[.int .u8 0, .string ⟨#[]⟩, .int .u8 0, .int .u8 0, .string ⟨#[]⟩, .int .u8 0] := hR3
 change wpT _ _ _ _ _ _ w3.drew
 refine t_q rfl rfl hwd _ (fun W hW => by (go_simp; rfl)) ?_; go_simp
 refine t_q rfl rfl hwd (.string RS) (fun W hW => by (go_simp; intro h; omega)) ?_; go_simp
 refine t_q rfl rfl hwd _ (fun W hW => by (go_simp; rfl)) ?_; go_simp
 refine t_q rfl rfl hwd (.int .u8 (v : Int)) (fun W hW => by (have hc := HCV.out W _ hW; go_simp)) ?_; go_simp
 refine t_e rfl rfl fun K hK => ?_; go_simp
 refine (HSO.out _).mono ?_; rintro e w4 ⟨rfl, rfl⟩; refine hK _ _ hwd ?_; clear hK K; go_simp
 iterate 2 (refine t_q rfl rfl hwd _ (fun W hW => by (go_simp; rfl)) ?_; go_simp)
 refine t_done ?_; clear hR3 hbel3 HC1 HC2 hH3 hs3 hwd; generalize w3.drew = w4 at *; go_wp2_with fail
 refine (HUN.out _).mono ?_; rintro e w5 ⟨⟨vb, rfl, hvb⟩, hb5⟩; obtain ⟨gB, cB, rfl, hAtB, hcB, hgB⟩ := hvb.at_ HBL.out (by omega); have hbel5 := hbd.trans (hb5.mono hbd.size); have hR5 := hRd.below hb5 hRd.lt; have HC15 := Hh (HC1d.out.below hb5 lr); have HC25 := Hh (HC2d.out.below hb5 lr); have HAtB := Hh hAtB; clear hvb hAtB hb5 hRd HC1d HC2d hbd; have t6 : ((RS.size : Int) != 0) = true := by have := HRL.out; rw [bne_iff_ne]; omega
 go_wp2_with fail
 refine (HOP.out g1 g2 _ _ hcB _ HC15.out HC25.out HAtB.out).mono ?_; rintro e w6 ⟨he, hb6⟩; rw [if_neg (by simp)] at he; subst he; have hbel6 := hbel5.trans (hb6.mono hbel5.size); have hR6 := hR5.below hb6 hR5.lt; clear hb6 hR5 HC15 HC25 HAtB hbel5; go_wp2_with (refine wpList_store_all rfl 24 (.tmp 4) (.tmp 92) rfl w.heap.size #[.int .u8 0, .string ⟨#[]⟩, .int .u8 0, .int .u8 0, .string ⟨#[]⟩, .int .u8 0] rfl rfl 24 #[.int .u8 0, .string ⟨#[]⟩, .int .u8 0, .int .u8 0, .string ⟨#[]⟩, .int .u8 0] hR6 (by first | (rw [info_head]; rfl) | rw [info_head]) rfl (by simp [Value.oneCell']) ?_; intro w8 hR8 hO8)
 refine bodyPost_ret (results_cell3 rfl _ _ w.heap.size 24 _ _ rfl hR8 Tryz.underlying24 rfl (by first | (rw [info_head]; rfl) | rw [info_head])) rfl ?_; exact ⟨rfl, hO8.below hbel6 lr⟩

theorem unwrap_form_bad (s : ByteArray) (hss : s.size ≤ 1000) (hps : parseEr s = .ok) (hnum : (parseN s != (s.size : Int)) = false) (kind : Nat) (hkd : kindV (hdOf s).ver.toNat = kind) (wk : List Nat) (n : Nat) (hk : KeyOk kind wk) (hn : wk.length = n) (q z : Nat) (hz : sizeN kind = z) (hsz : s.size = 16 + 2 * (q + z)) (hqm : q % z = 0) (hq0 : z ≤ q)
    (hhex : badAt isHex (s.extract 16 s.size).data.toList = none) (hoc : openC kind (madeN kind wk 0) (madeN kind wk 1) (unhexL (s.extract 16 s.size).data.toList) (s.extract 0 16) q = true)
    (TX : List Nat) (hTX : openT kind (madeN kind wk 0) (unhexL (s.extract 16 s.size).data.toList) q = TX) (N kl fl : Nat) (hbits : 256 * TX.getD 0 0 + TX.getD 1 0 = N) (hkl : N / 8 = kl) (hfill : fillW (hdOf s).ver.toNat (kl : Int) = (fl : Int)) (hfl : fl ≤ 16)
    (hbad : (((N : Int) % 8 != 0) = true) ∨ ((((N : Int) % 8 != 0) = false) ∧ fitsW (hdOf s).alg.toNat kl = false) ∨ ((((N : Int) % 8 != 0) = false) ∧ fitsW (hdOf s).alg.toNat kl = true ∧ q ≠ 2 + kl + fl))
    (A0 : Option Addr) (c0 : Nat) (w : World) (hA0 : At w A0 wk) (hG : EtOk w) :
    Calls Tryz.prog 15 #[.slice A0 n c0, .string s] w fun e w' => e = .returned (.tuple #[.agg Hd.zero.cells, .slice none 0 0, .iface 64 (.int .i64 6)]) ∧ Below w.heap.size w w' := by
 have hz16 := size_le kind; have hz0 := size_pos kind; rw [hz] at hz16 hz0; have HPA := Hh (parse_any s (by omega) (w.alloc (.cells #[.int .u8 0, .string ⟨#[]⟩, .int .u8 0, .int .u8 0, .string ⟨#[]⟩, .int .u8 0] 24)) (hG.below ((Below.refl w.heap.size w).alloc lr _) lr)); have hpH : parseHd s = hdOf s := by unfold parseHd; rw [hps]; rfl
 rw [hpH, hps] at HPA; have k0 := madeN_key hk (p := 0) (by omega); have k1 := madeN_key hk (p := 1) (by omega); have HCI := Hh (fun W hA => ciphers_ok (hdOf s).ver.toNat kind hkd wk hk n hn A0 c0 W hA); have HFI := Hh (fun W => fitsW_any (hdOf s).alg.toNat kl W); have HFL := Hh (fun W => fill_all (hdOf s) (kl : Int) W); rw [hfill] at HFL; have HSO := Hh (fun W => sizeOf_any (hdOf s).ver.toNat W); rw [hkd, hz] at HSO; obtain ⟨RS, hRS⟩ : ∃ RS, s.extract 16 s.size = RS := ⟨_, rfl⟩; obtain ⟨PS, hPS⟩ : ∃ PS, s.extract 0 16 = PS := ⟨_, rfl⟩; have hRl : RS.size = 2 * (q + z) := by rw [← hRS, ByteArray.size_extract]; omega
 have hPl : PS.size = 16 := by rw [← hPS, ByteArray.size_extract]; omega
 rw [hRS] at hhex hoc hTX; rw [hPS] at hoc
 have hbl : (unhexL RS.data.toList).length = q + z := by
  rw [unhexL_len]; have : RS.data.toList.length = RS.size := by simp
  omega
 have hbb : Byt (unhexL RS.data.toList) := unhexL_lt (all_of_badAt hhex); have HUN := Hh (fun W => unhex_ok RS (by omega) hhex (by omega) W); generalize unhexL RS.data.toList = BX at *; have HOP := Hh (fun g1 g2 A cb hcb W hC1 hC2 hA => opened_any g1 g2 kind (madeN kind wk 0) (madeN kind wk 1) k0 k1 PS (by omega) BX q z hz hbl (by omega) (by omega) hqm hbb A cb hcb W hC1 hC2 hA); rw [hoc] at HOP; have hot := openT_ok (kind := kind) k0.1 (b := BX) (q := q) (by rw [hz]; exact hbl) hbb (by rw [hz]; exact hqm); rw [hTX] at HOP hot; have hB0 : TX.getD 0 0 < 256 := Byt.at_ hot.2 0; have hB1 : TX.getD 1 0 < 256 := Byt.at_ hot.2 1; have hor := or8 _ _ hB0 hB1; rw [hbits] at hor; have hN16 : N < 65536 := by omega
 have hz88 : z = 8 ∨ z = 16 := by
  have h := hz
  unfold sizeN at h
  split at h <;> omega
 have hq2 : 2 ≤ q := by omega
 clear hz88
 have hTc : ∀ W g, At W (some ⟨g, 0, none⟩) TX → W.cell? ⟨g, 0, none⟩ = some (.int .u8 (TX.getD 0 0 : Nat)) ∧ W.cell? ⟨g, 1, none⟩ = some (.int .u8 (TX.getD 1 0 : Nat)) := fun W g hA => by
  obtain ⟨b, o, e, hB⟩ := hA (ne_nil hot.1 (by omega)); injection e with e; injection e with e1 e2; subst e1; subst e2; have h1 := hB.cellD 0 (by rw [hot.1]; omega); have h2 := hB.cellD 1 (by rw [hot.1]; omega); exact ⟨h1, h2⟩
 generalize TX.getD 0 0 = x0 at *; generalize TX.getD 1 0 = x1 at *; generalize madeN kind wk 0 = R0 at *; generalize madeN kind wk 1 = R1 at *; have hcs6 : (hdOf s).cells.size = 6 := rfl; have hco : (hdOf s).cells.all (·.oneCell') = true := by simp [Hd.cells, Value.oneCell']
 have hzz : Hd.zero.cells = #[.int .u8 0, .string ⟨#[]⟩, .int .u8 0, .int .u8 0, .string ⟨#[]⟩, .int .u8 0] := rfl; have hcv : ∀ W g, Blk W g 24 (hdOf s).cells → W.cell? ⟨g, 0, none⟩ = some (.int .u8 ((hdOf s).ver.toNat : Int)) ∧ W.cell? ⟨g, 2, none⟩ = some (.int .u8 ((hdOf s).alg.toNat : Int)) := fun W g hW => ⟨hW.cell 0, hW.cell 2⟩; generalize parseN s = pn at *; generalize (hdOf s).cells = cs at *; generalize (hdOf s).ver.toNat = v at *; generalize (hdOf s).alg.toNat = al at *; have HA0 := Hh (fun W (hb : Below w.heap.size w W) => hA0.below hb lr); have HCV := Hh hcv; have HS6 := Hh hcs6; have HCO := Hh hco; have HBL := Hh hbl; have HTL := Hh hot.1; have HTC := Hh hTc; have HOR := Hh hor; have HRS := Hh hRS; have HPS := Hh hPS; have HRL := Hh hRl; have hs16 : 16 ≤ s.size := by omega
 have HQM := Hh hqm; have hz8 : z = 8 ∨ z = 16 := by unfold sizeN at hz; split at hz <;> omega
 clear hTc hor hbits hTX hfill hot; clear hA0 hcv hcs6 hco hbl hRS hPS hRl hqm hoc hhex hps hkd hk hn hpH k0 k1 hbb hPl hsz hz; rw [hzz]; clear hzz
 go_enter Tryz.func15, Tryz.ntmps15
 have hBr := Blk.new w 24 #[.int .u8 0, .string ⟨#[]⟩, .int .u8 0, .int .u8 0, .string ⟨#[]⟩, .int .u8 0]; have hbr := (Below.refl w.heap.size w).alloc lr (.cells #[.int .u8 0, .string ⟨#[]⟩, .int .u8 0, .int .u8 0, .string ⟨#[]⟩, .int .u8 0] 24); have hsr : (w.alloc (.cells #[.int .u8 0, .string ⟨#[]⟩, .int .u8 0, .int .u8 0, .string ⟨#[]⟩, .int .u8 0] 24)).heap.size = w.heap.size + 1 := by simp
 go_wp2_with fail
 refine (HPA.out).mono ?_; rintro e w1 ⟨⟨u, rfl, hu⟩, hb1⟩; obtain rfl : u = _ := hu; have hB1r := hBr.below hb1 (by omega); have hbel1 := hbr.trans (hb1.mono (by omega)); have hs1 : w.heap.size < w1.heap.size := hB1r.lt; clear hb1 hBr hbr hsr; go_wp2_with (refine wpList_store_all rfl 24 (.tmp 7) (.tmp 21) rfl w1.heap.size cs rfl rfl 24 #[.int .u8 0, .string ⟨#[]⟩, .int .u8 0, .int .u8 0, .string ⟨#[]⟩, .int .u8 0] (Blk.new w1 _ _) (by rw [info_head, HS6.out]) (by rw [HS6.out]; rfl) HCO.out ?_; intro w2 hH2 hO2; have hc2 := (HCV.out _ _ hH2).1)
 have hR2 := (hB1r.alloc (.cells #[.int .u8 0, .string ⟨#[]⟩, .int .u8 0, .int .u8 0, .string ⟨#[]⟩, .int .u8 0] 24)).only hO2 (by omega); have hbel2 := hO2.below (hbel1.alloc hbel1.size (.cells #[.int .u8 0, .string ⟨#[]⟩, .int .u8 0, .int .u8 0, .string ⟨#[]⟩, .int .u8 0] 24)) (by omega); have hs2 := hH2.lt; clear hO2 hB1r hbel1; refine (HCI.out _ (HA0.out _ hbel2)).mono ?_; rintro e w3 ⟨⟨g1, g2, rfl, hC1, hC2⟩, hb3⟩; have hR3 := hR2.below hb3 hR2.lt; have hH3 := hH2.below hb3 hs2; have hbel3 := hbel2.trans (hb3.mono hbel2.size); have HC1 := Hh hC1; have HC2 := Hh hC2; clear hC1 hC2 hb3 hR2 hH2 hbel2 hc2; have hs3 := hH3.lt; have hrs := HRS.out; have hps := HPS.out; have t1 := hnum
 have t2 : ((RS.size : Int) % (2 * (z : Int)) != 0) = false := by
  have h1 := HRL.out; have h2 := HQM.out; rw [bne_eq_false_iff_eq]
  rcases hz8 with rfl | rfl <;> omega
 have t3 : ¬ (RS.size : Int) < 4 * (z : Int) := by
  have h1 := HRL.out; omega
 have t4 : IntKind.i64.wrap (2 * (z : Int)) = 2 * (z : Int) := IntWalk.i64_in _ (by omega); have t5 : IntKind.i64.wrap (4 * (z : Int)) = 4 * (z : Int) := IntWalk.i64_in _ (by omega); have hz2 : ((2 * (z : Int)) == 0) = false := by rw [beq_eq_false_iff_ne]; omega
 have hz3 : ¬ (2 * (z : Int)) = 0 := by omega
 have hz4 : 0 < 2 * (z : Int) := by omega
 clear hnum; go_wp2_with fail
 refine wp_region_tree (.q 0 (.q 1 (.q 2 (.q 3 (.e [4] fun _ => .q 5 (.q 6 (.done))))))) (fun W => Blk W w1.heap.size 24 cs) rfl (by kernel_rfl) (fun _ _ d _ _ h => by cases d <;> exact h) ?_; have hwd : Blk w3.drew w1.heap.size 24 cs := hH3; have hbd : Below w.heap.size w w3.drew := below_drewN hbel3 1; have HC1d : Hid (CipherAt w3.drew g1 kind R0 (.pointer none)) := Hh (HC1.out.below (C := w3.heap.size) (below_drewN (Below.refl w3.heap.size w3) 1) lr); have HC2d : Hid (CipherAt w3.drew g2 kind R1 (.pointer none)) := Hh (HC2.out.below (C := w3.heap.size) (below_drewN (Below.refl w3.heap.size w3) 1) lr); have hsd : w1.heap.size < w3.drew.heap.size := hs3; have hRd : Blk w3.drew w.heap.size 24 #[.int .u8 0, .string ⟨#[]⟩, .int .u8 0, .int .u8 0, .string ⟨#[]⟩, .int .u8 0] := hR3
 change wpT _ _ _ _ _ _ w3.drew
 refine t_q rfl rfl hwd _ (fun W hW => by (go_simp; rfl)) ?_; go_simp
 refine t_q rfl rfl hwd (.string RS) (fun W hW => by (go_simp; intro h; omega)) ?_; go_simp
 refine t_q rfl rfl hwd _ (fun W hW => by (go_simp; rfl)) ?_; go_simp
 refine t_q rfl rfl hwd (.int .u8 (v : Int)) (fun W hW => by (have hc := (HCV.out W _ hW).1; go_simp)) ?_; go_simp
 refine t_e rfl rfl fun K hK => ?_; go_simp
 refine (HSO.out _).mono ?_; rintro e w4 ⟨rfl, rfl⟩; refine hK _ _ hwd ?_; clear hK K; go_simp
 iterate 2 (refine t_q rfl rfl hwd _ (fun W hW => by (go_simp; rfl)) ?_; go_simp)
 refine t_done ?_; clear hR3 hbel3 HC1 HC2 hH3 hs3; generalize w3.drew = w4 at *; go_wp2_with fail
 refine (HUN.out _).mono ?_; rintro e w5 ⟨⟨vb, rfl, hvb⟩, hb5⟩; obtain ⟨gB, cB, rfl, hAtB, hcB, hgB⟩ := hvb.at_ HBL.out (by omega); have hbel5 := hbd.trans (hb5.mono hbd.size); have hR5 := hRd.below hb5 hRd.lt; have hH5 := hwd.below hb5 hsd; have hs5 := hH5.lt; have HC15 := Hh (HC1d.out.below hb5 lr); have HC25 := Hh (HC2d.out.below hb5 lr); have HAtB := Hh hAtB; clear hvb hAtB hb5 hRd hwd HC1d HC2d hbd hsd; have t6 : ((RS.size : Int) != 0) = true := by have := HRL.out; rw [bne_iff_ne]; omega
 go_wp2_with fail
 refine (HOP.out g1 g2 _ _ hcB _ HC15.out HC25.out HAtB.out).mono ?_; rintro e w6 ⟨he, hb6⟩; rw [if_pos trivial] at he; obtain ⟨vt, rfl, hvt⟩ := he; obtain ⟨gt, ct, rfl, hAtT, hct, hgt⟩ := hvt.at_ HTL.out (by omega); have hbel6 := hbel5.trans (hb6.mono hbel5.size); have hR6 := hR5.below hb6 hR5.lt; have hH6 := hH5.below hb6 hs5; have HAtT := Hh hAtT; have hs6 := hH6.lt; have hgtl : w1.heap.size < gt := by omega
 clear hvt hAtT hb6 hR5 hH5 HC15 HC25 HAtB hbel5; have hor := HOR.out; have e8 : (N : Int) / 8 = (kl : Int) := by omega
 have ew0 : IntKind.i64.wrap (x0 : Int) = (x0 : Int) := IntWalk.i64_in _ (by omega); have ew1 : IntKind.i64.wrap (x1 : Int) = (x1 : Int) := IntWalk.i64_in _ (by omega); have ew2 : IntKind.i64.wrap ((x0 : Int) * 256) = (x0 : Int) * 256 := IntWalk.i64_in _ (by omega); have hq1 : (1 : Int) < (q : Int) := by omega
 have hq0i : (0 : Int) < (q : Int) := by omega
 have hq1n : 1 < q := by omega
 have hq0n : 0 < q := by omega
 go_wp2_with fail
 refine wp_region_tree (.q 0 (.q 1 (.q 2 (.q 3 (.q 4 (.q 5 (.q 6 (.q 7 (.q 8 (.q 9 (.q 10 (.done)))))))))))) (fun W => At W (some ⟨gt, 0, none⟩) TX) rfl (by kernel_rfl) (fun _ _ d _ _ h => by cases d <;> exact h) ?_; have hwd : At w6.drew (some ⟨gt, 0, none⟩) TX := HAtT.out; have hbd : Below w.heap.size w w6.drew := below_drewN hbel6 1; have hRd : Blk w6.drew w.heap.size 24 #[.int .u8 0, .string ⟨#[]⟩, .int .u8 0, .int .u8 0, .string ⟨#[]⟩, .int .u8 0] := hR6; have hHd : Blk w6.drew w1.heap.size 24 cs := hH6; have hsd : w1.heap.size < w6.drew.heap.size := hs6
 change wpT _ _ _ _ _ _ w6.drew
 refine t_q rfl rfl hwd _ (fun W hW => by (go_simp; rfl)) ?_; go_simp
 refine t_q rfl rfl hwd _ (fun W hW => by (go_simp; rfl)) ?_; go_simp
 refine t_q rfl rfl hwd (.int .u8 (x0 : Int)) (fun W hW => by (have hc := (HTC.out W gt hW).1; go_simp)) ?_; go_simp
 iterate 4 (refine t_q rfl rfl hwd _ (fun W hW => by (go_simp; rfl)) ?_; go_simp)
 refine t_q rfl rfl hwd (.int .u8 (x1 : Int)) (fun W hW => by (have hc := (HTC.out W gt hW).2; go_simp)) ?_; go_simp
 refine t_q rfl rfl hwd _ (fun W hW => by (go_simp; rfl)) ?_; go_simp
 refine t_q rfl rfl hwd (.int .i64 (N : Int)) (fun W hW => by (go_simp)) ?_; go_simp
 refine t_q rfl rfl hwd _ (fun W hW => by (go_simp; rfl)) ?_; go_simp
 refine t_done ?_; clear hH6 hR6 hbel6 hs6 HAtT hor hwd; generalize w6.drew = w7 at *; have hcA := (HCV.out _ _ hHd).2
 rcases hbad with e9 | ⟨e9, hfit⟩ | ⟨e9, hfit, hlen⟩
 ·
  go_wp2_with (refine wpList_store_all rfl 24 (.tmp 4) (.tmp 127) rfl w.heap.size #[.int .u8 0, .string ⟨#[]⟩, .int .u8 0, .int .u8 0, .string ⟨#[]⟩, .int .u8 0] rfl rfl 24 #[.int .u8 0, .string ⟨#[]⟩, .int .u8 0, .int .u8 0, .string ⟨#[]⟩, .int .u8 0] hRd (by first | (rw [info_head]; rfl) | rw [info_head]) rfl (by simp [Value.oneCell']) ?_; intro w8 hR8 hO8)
  refine bodyPost_ret (results_cell3 rfl _ _ w.heap.size 24 _ _ rfl hR8 Tryz.underlying24 rfl (by first | (rw [info_head]; rfl) | rw [info_head])) rfl ?_; exact ⟨rfl, hO8.below hbd lr⟩
 ·
  rw [hfit] at HFI; clear hfit; go_wp2_with fail
  refine (HFI.out _).mono ?_; rintro e w8 ⟨rfl, rfl⟩; go_wp2_with (refine wpList_store_all rfl 24 (.tmp 4) (.tmp 127) rfl w.heap.size #[.int .u8 0, .string ⟨#[]⟩, .int .u8 0, .int .u8 0, .string ⟨#[]⟩, .int .u8 0] rfl rfl 24 #[.int .u8 0, .string ⟨#[]⟩, .int .u8 0, .int .u8 0, .string ⟨#[]⟩, .int .u8 0] hRd (by first | (rw [info_head]; rfl) | rw [info_head]) rfl (by simp [Value.oneCell']) ?_; intro w8 hR8 hO8)
  refine bodyPost_ret (results_cell3 rfl _ _ w.heap.size 24 _ _ rfl hR8 Tryz.underlying24 rfl (by first | (rw [info_head]; rfl) | rw [info_head])) rfl ?_; exact ⟨rfl, hO8.below hbd lr⟩
 ·
  rw [hfit] at HFI; have hkl3 := fits_len hfit; clear hfit; have t7 : ((q : Int) != (2 : Int) + (kl : Int) + (fl : Int)) = true := by rw [bne_iff_ne]; omega
  go_wp2_with fail
  refine (HFI.out _).mono ?_; rintro e w8 ⟨rfl, rfl⟩; go_wp2_with (refine wpList_load_rowG rfl 24 (.tmp 7) rfl w1.heap.size rfl 24 cs hHd _ Tryz.underlying24 rfl (by rw [info_head, HS6.out]) ?_)
  refine (HFL.out _).mono ?_; rintro e w8 ⟨rfl, hb8⟩; have hbel8 := hbd.trans (hb8.mono hbd.size); have hR8 := hRd.below hb8 hRd.lt; clear hb8 hRd hHd hbd hsd hcA ew0 ew1 ew2; go_wp2_with (refine wpList_store_all rfl 24 (.tmp 4) (.tmp 127) rfl w.heap.size #[.int .u8 0, .string ⟨#[]⟩, .int .u8 0, .int .u8 0, .string ⟨#[]⟩, .int .u8 0] rfl rfl 24 #[.int .u8 0, .string ⟨#[]⟩, .int .u8 0, .int .u8 0, .string ⟨#[]⟩, .int .u8 0] hR8 (by first | (rw [info_head]; rfl) | rw [info_head]) rfl (by simp [Value.oneCell']) ?_; intro w9 hR9 hO9)
  refine bodyPost_ret (results_cell3 rfl _ _ w.heap.size 24 _ _ rfl hR9 Tryz.underlying24 rfl (by first | (rw [info_head]; rfl) | rw [info_head])) rfl ?_; exact ⟨rfl, hO9.below hbel8 lr⟩

end Go.Proofs.YtfkjkkjimdilcaaGreatDoor
