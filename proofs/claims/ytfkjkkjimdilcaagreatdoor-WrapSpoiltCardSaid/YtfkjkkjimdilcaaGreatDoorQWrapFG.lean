/- The contract of wrap.Unwrap, where all is right. A head that is printed is read as it was; what is read is printed as it stood. The plain law: what was wrapped is unwrapped as it was. -/
import Derived.Test.YtfkjkkjimdilcaaGreatDoorQWrapDE
import Derived.Test.YtfkjkkjimdilcaaGreatDoorQHeadM
set_option maxHeartbeats 8000000
set_option maxRecDepth 100000
/- The contract of wrap.Unwrap, where all is right. -/
namespace Go.Proofs.YtfkjkkjimdilcaaGreatDoor
open Go Go.RowKit Pr

section
variable {P : Program} {ops : Array Oper} {Q : Exit → Act → World → Prop} {S : World → Prop} {i : Nat} {o : Oper} {n : Sch} {a : Act} {w : World}
theorem t_load_row (ho : ops[i]? = some o) (hw : Region.wanted o (yielded ops a.tmps) = true) (ty : TypeId) (x : Operand) (hop : o.op = .load ty x) (g : Nat) (hx : a.eval x = .pointer (some ⟨g, 0, none⟩)) (t : TypeId) (cs : Array Value) (hS : S w) (hB : ∀ W, S W → Blk W g t cs)
    (d : TypeDesc) (hu : P.underlying ty = some d) (hd : (match d with | .struct _ | .array _ _ => true | _ => false) = true) (hi : (P.info? ty).map (·.size) = some cs.size)
    (h : wpT P ops Q S n (a.put o.dst (.agg cs)) w) : wpT P ops Q S (.q i n) a w :=
 t_q ho hw hS _ (fun W hW => by
  unfold execOp
  simp only [hop, hx, Instr.loadAt, Instr.sureAddr, Sem.run_bind, Sem.run_pure, Result.andThen_ok, run_loadVar_row W g t ty cs (0, 0) d (hB W hW) hu hd hi]) h
end
theorem Own.onlyB {g B : Nat} {w w' : World} {v : Value} {l : List Nat} (h : Own w B v l) (ho : Only g w w') (hg : g < B) : Own w' B v l := by
 rcases h with ⟨h1, h2⟩
 refine ⟨h1, ?_⟩
 rcases h2 with h2 | ⟨g', cap, cur, rfl, hgB, hgb, r⟩
 ·
  exact .inl h2
 ·
  exact .inr ⟨g', cap, cur, rfl, hgB, (ho.block g' (by omega)).trans hgb, r⟩
theorem i64_or_nat (a b : Nat) (ha : a < 9223372036854775808) (hb : b < 9223372036854775808) : bits .or .i64 (a : Int) (b : Int) = ((a ||| b : Nat) : Int) := by
 have hx : a ||| b < 2 ^ 63 := Nat.or_lt_two_pow (by omega) (by omega)
 have h1 : (BitVec.ofInt 64 (a : Int)).toNat = a := by
  rw [BitVec.ofInt_natCast, BitVec.toNat_ofNat]; exact Nat.mod_eq_of_lt (by omega)
 have h2 : (BitVec.ofInt 64 (b : Int)).toNat = b := by
  rw [BitVec.ofInt_natCast, BitVec.toNat_ofNat]; exact Nat.mod_eq_of_lt (by omega)
 show IntKind.i64.wrap ((BitVec.ofInt 64 (a : Int) ||| BitVec.ofInt 64 (b : Int)).toNat : Int) = _
 rw [BitVec.toNat_or, h1, h2, IntWalk.i64_in _ (by omega)]
theorem or8 (a b : Nat) (ha : a < 256) (hb : b < 256) : bits .or .i64 ((a : Int) * 256) (b : Int) = ((256 * a + b : Nat) : Int) := by
 rw [show (a : Int) * 256 = ((256 * a : Nat) : Int) by omega, i64_or_nat _ _ (by omega) (by omega)]; have h := Nat.two_pow_add_eq_or_of_lt (i := 8) (b := b) (by omega) a; rw [show (2 : Nat) ^ 8 = 256 from rfl] at h; rw [← h]

theorem unwrap_ok (s : ByteArray) (hss : s.size ≤ 1500) (hps : parseEr s = .ok) (hnum : numOf s = (s.size : Int)) (kind : Nat) (hkd : kindV (hdOf s).ver.toNat = kind) (wk : List Nat) (n : Nat) (hk : KeyOk kind wk) (hn : wk.length = n) (q z kl fl : Nat) (hz : sizeN kind = z) (hsz : s.size = 16 + 2 * (q + z)) (hqm : q % z = 0)
    (hhex : badAt isHex (s.extract 16 s.size).data.toList = none) (hoc : openC kind (madeN kind wk 0) (madeN kind wk 1) (unhexL (s.extract 16 s.size).data.toList) (s.extract 0 16) q = true)
    (TX : List Nat) (hTX : openT kind (madeN kind wk 0) (unhexL (s.extract 16 s.size).data.toList) q = TX) (hbits : 256 * TX.getD 0 0 + TX.getD 1 0 = 8 * kl) (hfits : fitsW (hdOf s).alg.toNat kl = true) (hfill : fillW (hdOf s).ver.toNat (kl : Int) = (fl : Int)) (hlen : q = 2 + kl + fl)
    (A0 : Option Addr) (c0 : Nat) (w : World) (hA0 : At w A0 wk) (hG : EtOk w) :
    Calls Tryz.prog 15 #[.slice A0 n c0, .string s] w fun e w' => (∃ v, e = .returned (.tuple #[.agg (hdOf s).cells, v, .nilIface]) ∧ Own w' w.heap.size v ((TX.drop 2).take kl)) ∧ Below w.heap.size w w' := by
 have hkl3 := fits_len hfits; have hfm := fill_mod (v := (hdOf s).ver.toNat) (kl := kl) (fl := fl) (by rw [hkd]; have := hk.kind; omega) hfill; rw [hkd, hz] at hfm; have hz16 := size_le kind; have hz0 := size_pos kind; rw [hz] at hz16 hz0; have HPA := Hh (parse_any s (by omega) (w.alloc (.cells #[.int .u8 0, .string ⟨#[]⟩, .int .u8 0, .int .u8 0, .string ⟨#[]⟩, .int .u8 0] 24)) (hG.below ((Below.refl w.heap.size w).alloc lr _) lr)); have hpH : parseHd s = hdOf s := by unfold parseHd; rw [hps]; rfl
 have hpN : parseN s = (s.size : Int) := by unfold parseN; rw [hps, ← hnum]; rfl
 rw [hpH, hpN, hps] at HPA; have k0 := madeN_key hk (p := 0) (by omega); have k1 := madeN_key hk (p := 1) (by omega); have HCI := Hh (fun W hA => ciphers_ok (hdOf s).ver.toNat kind hkd wk hk n hn A0 c0 W hA); have HFI := Hh (fun W => fitsW_any (hdOf s).alg.toNat kl W); rw [hfits] at HFI; have HFL := Hh (fun W => fill_any (hdOf s) (kl : Int) (by omega) W); rw [hfill] at HFL; have HSO := Hh (fun W => sizeOf_any (hdOf s).ver.toNat W); rw [hkd, hz] at HSO; obtain ⟨RS, hRS⟩ : ∃ RS, s.extract 16 s.size = RS := ⟨_, rfl⟩; obtain ⟨PS, hPS⟩ : ∃ PS, s.extract 0 16 = PS := ⟨_, rfl⟩; have hRl : RS.size = 2 * (q + z) := by rw [← hRS, ByteArray.size_extract]; omega
 have hPl : PS.size = 16 := by rw [← hPS, ByteArray.size_extract]; omega
 rw [hRS] at hhex hoc hTX; rw [hPS] at hoc
 have hbl : (unhexL RS.data.toList).length = q + z := by
  rw [unhexL_len]; have : RS.data.toList.length = RS.size := by simp
  omega
 have hbb : Byt (unhexL RS.data.toList) := unhexL_lt (all_of_badAt hhex); have HUN := Hh (fun W => unhex_ok RS (by omega) hhex (by omega) W); generalize unhexL RS.data.toList = BX at *; have hot := openT_ok (kind := kind) k0.1 (b := BX) (q := q) (by rw [hz]; exact hbl) hbb (by rw [hz]; exact hqm); have HOP := Hh (fun g1 g2 A cb hcb W hC1 hC2 hA => opened_any g1 g2 kind (madeN kind wk 0) (madeN kind wk 1) k0 k1 PS (by omega) BX q z hz hbl (by omega) (by omega) hqm hbb A cb hcb W hC1 hC2 hA); rw [hoc] at HOP; rw [hTX] at HOP hot; generalize madeN kind wk 0 = R0 at *; generalize madeN kind wk 1 = R1 at *; have hB0 : TX.getD 0 0 < 256 := Byt.at_ hot.2 0; have hB1 : TX.getD 1 0 < 256 := Byt.at_ hot.2 1; have hor := or8 _ _ hB0 hB1; rw [hbits] at hor
 have hTc : ∀ W g, At W (some ⟨g, 0, none⟩) TX → W.cell? ⟨g, 0, none⟩ = some (.int .u8 (TX.getD 0 0 : Nat)) ∧ W.cell? ⟨g, 1, none⟩ = some (.int .u8 (TX.getD 1 0 : Nat)) := fun W g hA => by
  obtain ⟨b, o, e, hB⟩ := hA (ne_nil hot.1 (by omega)); injection e with e; injection e with e1 e2; subst e1; subst e2; have h1 := hB.cellD 0 (by rw [hot.1]; omega); have h2 := hB.cellD 1 (by rw [hot.1]; omega); exact ⟨h1, h2⟩
 have hTs : ∀ W g, At W (some ⟨g, 0, none⟩) TX → Bs W g 2 ((TX.drop 2).take kl) := fun W g hA => by
  obtain ⟨b, o, e, hB⟩ := hA (ne_nil hot.1 (by omega)); injection e with e; injection e with e1 e2; subst e1; subst e2; have := hB.sub 2 kl
  rwa [Nat.zero_add] at this
 have hKl : ((TX.drop 2).take kl).length = kl := by rw [List.length_take, List.length_drop, hot.1]; omega
 generalize (TX.drop 2).take kl = KX at *; generalize TX.getD 0 0 = x0 at *; generalize TX.getD 1 0 = x1 at *; have hcs6 : (hdOf s).cells.size = 6 := rfl; have hco : (hdOf s).cells.all (·.oneCell') = true := by simp [Hd.cells, Value.oneCell']
 have hcv : ∀ W g, Blk W g 24 (hdOf s).cells → W.cell? ⟨g, 0, none⟩ = some (.int .u8 ((hdOf s).ver.toNat : Int)) ∧ W.cell? ⟨g, 2, none⟩ = some (.int .u8 ((hdOf s).alg.toNat : Int)) := fun W g hW => ⟨hW.cell 0, hW.cell 2⟩; generalize (hdOf s).cells = cs at *; generalize (hdOf s).ver.toNat = v at *; generalize (hdOf s).alg.toNat = al at *; have HA0 := Hh (fun W (hb : Below w.heap.size w W) => hA0.below hb lr); have HCV := Hh hcv; have HS6 := Hh hcs6; have HCO := Hh hco; have HTL := Hh hot.1; have HTC := Hh hTc; have HTS := Hh hTs; have HKX := Hh hKl; have HBL := Hh hbl; have HRS := Hh hRS; have HPS := Hh hPS; have HOR := Hh hor; have HRL := Hh hRl; have hs16 : 16 ≤ s.size := by omega
 have hkl32 : kl ≤ 32 := by omega
 have hkl16 : 16 ≤ kl := by omega
 have hfl16 : fl ≤ 16 := by omega
 have hqkl : 2 + kl + fl ≤ q := by omega
 have hqkl2 : q ≤ 2 + kl + fl := by omega
 have HQM := Hh hqm; have hz8 : z = 8 ∨ z = 16 := by unfold sizeN at hz; split at hz <;> omega
 clear hA0 hcv hcs6 hco hot hTc hTs hKl hbl hRS hPS hor hRl hqm hbits hfits hfill hlen hTX hoc hhex hps hnum hkd hk hn hpH hpN k0 k1 hbb hPl hfm hsz hz hkl3
 go_enter Tryz.func15, Tryz.ntmps15
 have hBr := Blk.new w 24 #[.int .u8 0, .string ⟨#[]⟩, .int .u8 0, .int .u8 0, .string ⟨#[]⟩, .int .u8 0]; have hbr := (Below.refl w.heap.size w).alloc lr (.cells #[.int .u8 0, .string ⟨#[]⟩, .int .u8 0, .int .u8 0, .string ⟨#[]⟩, .int .u8 0] 24); have hsr : (w.alloc (.cells #[.int .u8 0, .string ⟨#[]⟩, .int .u8 0, .int .u8 0, .string ⟨#[]⟩, .int .u8 0] 24)).heap.size = w.heap.size + 1 := by simp
 go_wp2_with fail
 refine (HPA.out).mono ?_; rintro e w1 ⟨⟨u, rfl, hu⟩, hb1⟩; obtain rfl : u = _ := hu; have hB1r := hBr.below hb1 (by omega); have hbel1 := hbr.trans (hb1.mono (by omega)); have hs1 : w.heap.size < w1.heap.size := hB1r.lt; clear hb1 hBr hbr hsr; go_wp2_with (refine wpList_store_all rfl 24 (.tmp 7) (.tmp 21) rfl w1.heap.size cs rfl rfl 24 #[.int .u8 0, .string ⟨#[]⟩, .int .u8 0, .int .u8 0, .string ⟨#[]⟩, .int .u8 0] (Blk.new w1 _ _) (by rw [info_head, HS6.out]) (by rw [HS6.out]; rfl) HCO.out ?_; intro w2 hH2 hO2; have hc2 := (HCV.out _ _ hH2).1)
 have hR2 := (hB1r.alloc (.cells #[.int .u8 0, .string ⟨#[]⟩, .int .u8 0, .int .u8 0, .string ⟨#[]⟩, .int .u8 0] 24)).only hO2 (by omega); have hbel2 := hO2.below (hbel1.alloc hbel1.size (.cells #[.int .u8 0, .string ⟨#[]⟩, .int .u8 0, .int .u8 0, .string ⟨#[]⟩, .int .u8 0] 24)) (by omega); have hs2 := hH2.lt; clear hO2 hB1r hbel1; refine (HCI.out _ (HA0.out _ hbel2)).mono ?_; rintro e w3 ⟨⟨g1, g2, rfl, hC1, hC2⟩, hb3⟩; have hR3 := hR2.below hb3 hR2.lt; have hH3 := hH2.below hb3 hs2; have hbel3 := hbel2.trans (hb3.mono hbel2.size); have HC1 := Hh hC1; have HC2 := Hh hC2; clear hC1 hC2 hb3 hR2 hH2 hbel2 hc2; have hs3 := hH3.lt; have hrs := HRS.out; have hps := HPS.out
 have t2 : ((RS.size : Int) % (2 * (z : Int)) != 0) = false := by
  have h1 := HRL.out; have h2 := HQM.out; rw [bne_eq_false_iff_eq]
  rcases hz8 with rfl | rfl <;> omega
 have t3 : ¬ (RS.size : Int) < 4 * (z : Int) := by
  have h1 := HRL.out; have h2 := HQM.out
  rcases hz8 with rfl | rfl <;> omega
 have t4 : IntKind.i64.wrap (2 * (z : Int)) = 2 * (z : Int) := IntWalk.i64_in _ (by omega); have t5 : IntKind.i64.wrap (4 * (z : Int)) = 4 * (z : Int) := IntWalk.i64_in _ (by omega); have hz2 : ((2 * (z : Int)) == 0) = false := by rw [beq_eq_false_iff_ne]; omega
 have hz3 : ¬ (2 * (z : Int)) = 0 := by omega
 have hz4 : 0 < 2 * (z : Int) := by omega
 go_wp2_with fail
 refine wp_region_tree (.q 0 (.q 1 (.q 2 (.q 3 (.e [4] fun _ => .q 5 (.q 6 (.done))))))) (fun W => Blk W w1.heap.size 24 cs) rfl (by kernel_rfl) (fun _ _ d _ _ h => by cases d <;> exact h) ?_; have hwd : Blk w3.drew w1.heap.size 24 cs := hH3; have hbd : Below w.heap.size w w3.drew := below_drewN hbel3 1; have HC1d : Hid (CipherAt w3.drew g1 kind R0 (.pointer none)) := Hh (HC1.out.below (C := w3.heap.size) (below_drewN (Below.refl w3.heap.size w3) 1) lr); have HC2d : Hid (CipherAt w3.drew g2 kind R1 (.pointer none)) := Hh (HC2.out.below (C := w3.heap.size) (below_drewN (Below.refl w3.heap.size w3) 1) lr); have hRd : Blk w3.drew w.heap.size 24 #[.int .u8 0, .string ⟨#[]⟩, .int .u8 0, .int .u8 0, .string ⟨#[]⟩, .int .u8 0] := hR3; have hsd : w1.heap.size < w3.drew.heap.size := hs3
 change wpT _ _ _ _ _ _ w3.drew
 refine t_q rfl rfl hwd _ (fun W hW => by (go_simp; rfl)) ?_; go_simp
 refine t_q rfl rfl hwd (.string RS) (fun W hW => by (go_simp; intro h; omega)) ?_; go_simp
 refine t_q rfl rfl hwd _ (fun W hW => by (go_simp; rfl)) ?_; go_simp
 refine t_q rfl rfl hwd (.int .u8 (v : Int)) (fun W hW => by (have hc := (HCV.out W _ hW).1; go_simp)) ?_; go_simp
 refine t_e rfl rfl fun K hK => ?_; go_simp
 refine (HSO.out _).mono ?_; rintro e w4 ⟨rfl, rfl⟩; refine hK _ _ hwd ?_; clear hK K; go_simp
 iterate 2 (refine t_q rfl rfl hwd _ (fun W hW => by (go_simp; rfl)) ?_; go_simp)
 refine t_done ?_; clear hR3 hbel3 HC1 HC2 hH3 hs3; generalize w3.drew = w4 at *; go_wp2_with fail
 refine (HUN.out _).mono ?_; rintro e w5 ⟨⟨vb, rfl, hvb⟩, hb5⟩; obtain ⟨gB, cB, rfl, hAtB, hcB, hgB⟩ := hvb.at_ HBL.out (by omega); have hbel5 := hbd.trans (hb5.mono hbd.size); have hR5 := hRd.below hb5 hRd.lt; have hH5 := hwd.below hb5 hsd; have HC15 := Hh (HC1d.out.below hb5 lr); have HC25 := Hh (HC2d.out.below hb5 lr); have HAtB := Hh hAtB; have hs5 := hH5.lt; clear hvb hAtB hb5 hRd hwd HC1d HC2d hbd hsd; have t6 : ((RS.size : Int) != 0) = true := by have := HRL.out; rw [bne_iff_ne]; omega
 go_wp2_with fail
 refine (HOP.out g1 g2 _ _ hcB _ HC15.out HC25.out HAtB.out).mono ?_; rintro e w6 ⟨he, hb6⟩; rw [if_pos trivial] at he; obtain ⟨vt, rfl, hvt⟩ := he; obtain ⟨gt, ct, rfl, hAtT, hct, hgt⟩ := hvt.at_ HTL.out (by omega); have hbel6 := hbel5.trans (hb6.mono hbel5.size); have hR6 := hR5.below hb6 hR5.lt; have hH6 := hH5.below hb6 hs5; have HAtT := Hh hAtT; have hs6 := hH6.lt; have hgtl : w1.heap.size < gt := by omega
 clear hvt hAtT hb6 hR5 hH5 HC15 HC25 HAtB hbel5; obtain ⟨N8, hN8⟩ : ∃ N8, 8 * kl = N8 := ⟨_, rfl⟩; have hor := HOR.out; rw [hN8] at hor; have hN2 : N8 ≤ 256 := by omega
 have e8 : (N8 : Int) / 8 = (kl : Int) := by omega
 have e9 : ((N8 : Int) % 8 != 0) = false := by rw [bne_eq_false_iff_eq]; omega
 clear hN8; have ew0 : IntKind.i64.wrap (x0 : Int) = (x0 : Int) := IntWalk.i64_in _ (by omega); have ew1 : IntKind.i64.wrap (x1 : Int) = (x1 : Int) := IntWalk.i64_in _ (by omega); have ew2 : IntKind.i64.wrap ((x0 : Int) * 256) = (x0 : Int) * 256 := IntWalk.i64_in _ (by omega); have hq1 : (1 : Int) < (q : Int) := by omega
 have hq0 : (0 : Int) < (q : Int) := by omega
 have hq1n : 1 < q := by omega
 have hq0n : 0 < q := by omega
 go_wp2_with fail
 refine wp_region_tree (.q 0 (.q 1 (.q 2 (.q 3 (.q 4 (.q 5 (.q 6 (.q 7 (.q 8 (.q 9 (.q 10 (.done)))))))))))) (fun W => At W (some ⟨gt, 0, none⟩) TX) rfl (by kernel_rfl) (fun _ _ d _ _ h => by cases d <;> exact h) ?_; have hwd : At w6.drew (some ⟨gt, 0, none⟩) TX := HAtT.out; have hbd : Below w.heap.size w w6.drew := below_drewN hbel6 1; have hRd : Blk w6.drew w.heap.size 24 #[.int .u8 0, .string ⟨#[]⟩, .int .u8 0, .int .u8 0, .string ⟨#[]⟩, .int .u8 0] := hR6; have hHd : Blk w6.drew w1.heap.size 24 cs := hH6; have hsd : w1.heap.size < w6.drew.heap.size := hs6
 change wpT _ _ _ _ _ _ w6.drew
 refine t_q rfl rfl hwd _ (fun W hW => by (go_simp; rfl)) ?_; go_simp
 refine t_q rfl rfl hwd _ (fun W hW => by (go_simp; rfl)) ?_; go_simp
 refine t_q rfl rfl hwd (.int .u8 (x0 : Int)) (fun W hW => by (have hc := (HTC.out W gt hW).1; go_simp)) ?_; go_simp
 iterate 4 (refine t_q rfl rfl hwd _ (fun W hW => by (go_simp; rfl)) ?_; go_simp)
 refine t_q rfl rfl hwd (.int .u8 (x1 : Int)) (fun W hW => by (have hc := (HTC.out W gt hW).2; go_simp)) ?_; go_simp
 refine t_q rfl rfl hwd _ (fun W hW => by (go_simp; rfl)) ?_; go_simp
 refine t_q rfl rfl hwd (.int .i64 (N8 : Int)) (fun W hW => by (go_simp)) ?_; go_simp
 refine t_q rfl rfl hwd _ (fun W hW => by (go_simp; rfl)) ?_; go_simp
 refine t_done ?_; clear hH6 hR6 hbel6 hs6 HAtT hor; have HWD := Hh hwd; clear hwd; generalize w6.drew = w7 at *; have hcA := (HCV.out _ _ hHd).2; have t7 : ((q : Int) != (2 : Int) + (kl : Int) + (fl : Int)) = false := by rw [bne_eq_false_iff_eq]; omega
 go_wp2_with fail
 refine (HFI.out _).mono ?_; rintro e w8 ⟨rfl, rfl⟩; go_wp2_with (refine wpList_load_rowG rfl 24 (.tmp 7) rfl w1.heap.size rfl 24 cs hHd _ Tryz.underlying24 rfl (by rw [info_head, HS6.out]) ?_)
 refine (HFL.out _).mono ?_; rintro e w8 ⟨rfl, hb8⟩; have hbel8 := hbd.trans (hb8.mono hbd.size); have hR8 := hRd.below hb8 hRd.lt; have hH8 := hHd.below hb8 hsd; have hA8 := HWD.out.below hb8 lr; have hgt8 := (HTS.out _ _ hA8).lt (ne_nil HKX.out (by omega)); have hs8 := hH8.lt; clear hb8 hRd hHd HWD hbd hsd hcA ew0 ew1 ew2; go_wp2_with fail
 have ek2 : IntKind.i64.wrap (2 + (kl : Int)) = 2 + (kl : Int) := IntWalk.i64_in _ (by omega); have hk0 : (2 : Int) ≤ 2 + (kl : Int) := by omega
 have hkc : 2 + kl ≤ ct := by omega
 have hkq : (2 : Int) + (kl : Int) ≤ (ct : Int) := by omega
 have hc2 : ¬ ct = 2 := by omega
 refine wp_region_tree (.q 0 (.q 2 (.q 3 (.q 4 (.q 5 (.e [1] fun _ => .e [6] fun _ => .e [7] fun _ => .q 8 (.q 9 (.done)))))))) (fun W => Blk W w1.heap.size 24 cs ∧ At W (some ⟨gt, 0, none⟩) TX) rfl (by kernel_rfl) (fun _ _ d _ _ h => by cases d <;> exact h) ?_; have hS : Blk w8.drew w1.heap.size 24 cs ∧ At w8.drew (some ⟨gt, 0, none⟩) TX := ⟨hH8, hA8⟩; have hbd : Below w.heap.size w w8.drew := below_drewN hbel8 1; have hRd : Blk w8.drew w.heap.size 24 #[.int .u8 0, .string ⟨#[]⟩, .int .u8 0, .int .u8 0, .string ⟨#[]⟩, .int .u8 0] := hR8; have hsd : w1.heap.size < w8.drew.heap.size := hs8; have hgd : gt < w8.drew.heap.size := hgt8
 change wpT _ _ _ _ _ _ w8.drew
 clear hH8 hA8 hR8 hbel8 hs8 hgt8; generalize w8.drew = w9 at *; refine t_load_row rfl rfl 24 (.tmp 7) rfl w1.heap.size rfl 24 cs hS (fun W hW => hW.1) _ Tryz.underlying24 rfl (by rw [info_head, HS6.out]) ?_; go_simp
 iterate 3 (refine t_q rfl rfl hS _ (fun W hW => by (go_simp; rfl)) ?_; go_simp)
 refine t_q rfl rfl hS (.slice (some ⟨gt, 2, none⟩) kl (ct - 2)) (fun W hW => by (go_simp; omega)) ?_; go_simp
 refine t_e rfl rfl fun K hK => ?_; go_simp
 have hbA : Below w9.heap.size w9 (w9.alloc (.cells #[] 5)) := (Below.refl w9.heap.size w9).alloc lr _; have hSA : Blk (w9.alloc (.cells #[] 5)) w1.heap.size 24 cs ∧ At (w9.alloc (.cells #[] 5)) (some ⟨gt, 0, none⟩) TX := ⟨hS.1.alloc _, hS.2.below hbA lr⟩; refine hK _ _ hSA ?_; clear hK K; have hown0 := OwnN.start 5 .u8 w9 w9.heap.size lr; have hBk := HTS.out _ _ hSA.2; have hszA : w9.heap.size ≤ (w9.alloc (.cells #[] 5)).heap.size := hbA.size; refine t_e rfl rfl fun K hK => ?_; refine op_append_nums (.tmp 130) (.tmp 134) 22 rfl .u8 5 1 Tryz.underlying22 info_byte w9.heap.size w9 _ [] rfl hown0 hbA hszA _ kl (ct - 2) KX rfl HKX.out ⟨_, _, rfl, hBk⟩ (by simp; omega) (by omega) fun vK wK hownK hbelK hszK => ?_; rw [List.nil_append] at hownK; have hSK : Blk wK w1.heap.size 24 cs ∧ At wK (some ⟨gt, 0, none⟩) TX := ⟨hS.1.below hbelK hsd, hS.2.below hbelK lr⟩; have hRK := hRd.below hbelK hRd.lt; have hbK := hbd.trans (hbelK.mono hbd.size); refine hK _ _ hSK ?_; clear hK K hBk hSA hbA hown0 hszA hS; refine t_e rfl rfl fun K hK => ?_; refine op_store_row 24 (.tmp 4) (.tmp 129) rfl w.heap.size cs rfl rfl 24 #[.int .u8 0, .string ⟨#[]⟩, .int .u8 0, .int .u8 0, .string ⟨#[]⟩, .int .u8 0] hRK (by rw [info_head, HS6.out]) (by rw [HS6.out]; rfl) HCO.out fun wL hBL hOL => ?_
 have hSL : Blk wL w1.heap.size 24 cs ∧ At wL (some ⟨gt, 0, none⟩) TX := ⟨hSK.1.only hOL (by omega), fun hne => by
  obtain ⟨b', o', e', hB'⟩ := hSK.2 hne; injection e' with e'; injection e' with e1 e2; subst e1; subst e2
  exact ⟨_, _, rfl, hB'.only hOL (by omega)⟩⟩
 refine hK _ _ hSL ?_; clear hK K; go_simp
 iterate 2 (refine t_q rfl rfl hSL _ (fun W hW => by (go_simp; rfl)) ?_; go_simp)
 refine t_done ?_; have hownL : Own wL w.heap.size vK KX := (Own.onlyB (OwnN.bytes hownK) hOL (by omega)).more hbd.size; have hbL := hOL.below hbK lr; clear hSL hSK hownK hRK hbK hOL; go_wp2
 (try simp only [Exit.inBlock, Exit.then])
 refine bodyPost_ret (results_cell3 rfl _ _ w.heap.size 24 cs _ rfl hBL Tryz.underlying24 rfl (by rw [info_head, HS6.out])) rfl ?_; exact ⟨⟨_, rfl, hownL⟩, hbL⟩
theorem ext_list (s : ByteArray) (a n : Nat) (h : a + n ≤ s.size) : (s.extract a (a + n)).data.toList = (List.range n).map fun k => chr s (a + k) := by
 have hl := extract_len s a (a + n) h
 apply List.ext_getElem
 ·
  rw [hl]; simp
 ·
  intro k h1 h2; rw [extract_get s a (a + n) k h h1]
  simp
theorem str_ext {s : ByteArray} {L : List UInt8} (h : s.data.toList = L) : s = str L := by
 apply ByteArray.ext
 exact Array.toList_inj.1 h
theorem numF4 (a b c d : UInt8) : numF [a, b, c, d] = 10 * (10 * (10 * (a.toNat - 48) + (b.toNat - 48)) + (c.toNat - 48)) + (d.toNat - 48) := by simp [numF]
theorem numZ_dig4 (n : Nat) (h : n ≤ 9999) : numZ (dig4 n) = (n : Int) := by
 have e : ∀ m : Nat, m < 10 → (UInt8.ofNat (48 + m)).toNat = 48 + m := fun m hm => UInt8.toNat_ofNat_of_lt' (show 48 + m < 256 by omega); have d : ∀ m : Nat, m < 10 → isDec (UInt8.ofNat (48 + m)) = true := fun m hm => decide_eq_true (by rw [e m hm]; omega)
 have hall : (dig4 n).all isDec = true := by
  unfold dig4
  simp only [List.all_cons, List.all_nil, Bool.and_true, Bool.and_eq_true]
  exact ⟨d _ (by omega), d _ (by omega), d _ (by omega), d _ (by omega)⟩
 have hf : numF (dig4 n) = n := by
  unfold dig4
  rw [numF4, e _ (by omega), e _ (by omega), e _ (by omega), e _ (by omega)]; omega
 unfold numZ
 rw [if_pos hall]
 show ((numF (dig4 n) : Nat) : Int) = _
 rw [hf]

/-- a head that is printed is read as it was -/
theorem back_print {h : Hd} (hr : rightEr h = .ok) {n : Nat} (h16 : 16 ≤ n) (h99 : n ≤ 9999) (s : ByteArray) :
    parseEr (str (printL h n) ++ s) = .ok ∧ parseHd (str (printL h n) ++ s) = h ∧ parseN (str (printL h n) ++ s) = (n : Int) ∧ (str (printL h n)).size = 16 := by
 obtain ⟨_, _, _, _, z1, z2⟩ := right_ok hr; obtain ⟨ua, ub, hU⟩ := two_of z1; obtain ⟨sa, sb, hS⟩ := two_of z2; obtain ⟨L, hL⟩ : ∃ L, s = str L := ⟨s.data.toList, rfl⟩
 have hpl : printL h n = [h.ver, UInt8.ofNat (48 + n / 1000), UInt8.ofNat (48 + n / 100 % 10), UInt8.ofNat (48 + n / 10 % 10), UInt8.ofNat (48 + n % 10), ua, ub, h.alg, h.mode, sa, sb, h.exp, 48, 48, 48, 48] := by
  unfold printL dig4
  rw [hU, hS, str_list, str_list]
  rfl
 have hsz : (str (printL h n)).size = 16 := by rw [str_size, hpl]; rfl
 obtain ⟨T, hT⟩ : ∃ T, str (printL h n) ++ s = T := ⟨_, rfl⟩; have hTl : T = str ([h.ver, UInt8.ofNat (48 + n / 1000), UInt8.ofNat (48 + n / 100 % 10), UInt8.ofNat (48 + n / 10 % 10), UInt8.ofNat (48 + n % 10), ua, ub, h.alg, h.mode, sa, sb, h.exp, 48, 48, 48, 48] ++ L) := by rw [← hT, hL, str_add, hpl]
 rw [hT]; have hTs : 16 ≤ T.size := by rw [hTl, str_size]; simp
 have eD : (T.extract 1 5).data.toList = [chr T 1, chr T 2, chr T 3, chr T 4] := ext_list T 1 4 (by omega); have eU : (T.extract 5 7).data.toList = [chr T 5, chr T 6] := ext_list T 5 2 (by omega); have eS : (T.extract 9 11).data.toList = [chr T 9, chr T 10] := ext_list T 9 2 (by omega); have eZ : (T.extract 12 16).data.toList = [chr T 12, chr T 13, chr T 14, chr T 15] := ext_list T 12 4 (by omega)
 have hh : hdOf T = h := by
  unfold hdOf
  rw [str_ext eU, str_ext eS, hTl]; have : h = ⟨h.ver, str [ua, ub], h.alg, h.mode, str [sa, sb], h.exp⟩ := by rw [← hU, ← hS]
  exact this.symm
 have hn : numOf T = (n : Int) := by
  unfold numOf
  rw [eD, ← numZ_dig4 n h99, hTl]
  rfl
 have hz : T.extract 12 16 = z4 := by
  rw [str_ext eZ, hTl]
  rfl
 have he : parseEr T = .ok := by
  unfold parseEr
  rw [if_neg (by omega), hh, hr, hn, hz]
  unfold pE
  rw [if_neg (show ¬ aheadB .ok = true by decide), if_neg (by omega), if_pos (show isOk .ok = true from rfl), if_pos (by simp)]
 refine ⟨he, ?_, ?_, hsz⟩
 ·
  unfold parseHd; rw [he]; exact hh
 ·
  unfold parseN; rw [he]; exact hn

theorem hexL_app (a b : List Nat) : hexL (a ++ b) = hexL a ++ hexL b := by unfold hexL; rw [List.flatMap_append]
theorem unhex_hex (l : List Nat) (h : Byt l) : unhexL (hexL l) = l := by
 rw [unhexL_pack, hexL_nib, map_hexv_hexd _ (nibN_lt l h), packN_nibN]
/-- what goes into Wrap -/
structure WrapIn (h : Hd) (wk key fill : List Nat) : Prop where
 hr : rightEr h = .ok
 hk : KeyOk (kindV h.ver.toNat) wk
 gk : Byt key
 gf : Byt fill
 hfits : fitsW h.alg.toNat key.length = true
 hfill : fillW h.ver.toNat (key.length : Int) = (fill.length : Int)
 hf0 : 0 < fill.length
theorem WrapIn.facts {h : Hd} {wk key fill : List Nat} (H : WrapIn h wk key fill) :
    (textW key fill).length % sizeN (kindV h.ver.toNat) = 0 ∧ (textW key fill).length = 2 + key.length + fill.length ∧ Byt (textW key fill) ∧ key.length ≤ 32 ∧ 16 ≤ key.length ∧ fill.length ≤ 16 := by
 have hkl := fits_len H.hfits; have hkd := H.hk.kind; have hfm := fill_mod (by omega) H.hfill; have hz := size_le (kindV h.ver.toNat); exact ⟨by rw [textW_len]; exact hfm.1, textW_len _ _, textW_byt H.gk H.gf (by omega), by omega, by omega, by omega⟩
theorem WrapIn.code {h : Hd} {wk key fill : List Nat} (H : WrapIn h wk key fill) : (codeW h wk key fill).length = sizeN (kindV h.ver.toNat) ∧ Byt (codeW h wk key fill) := by
 refine cmacN_ok (madeN_key H.hk (p := 1) (by omega)).1 (fun c hc => ?_)
 rcases List.mem_append.1 hc with hc | hc
 ·
  exact sN_lt _ c hc
 ·
  exact H.facts.2.2.1 c hc
theorem WrapIn.enc {h : Hd} {wk key fill : List Nat} (H : WrapIn h wk key fill) : (encW h wk key fill).length = (textW key fill).length ∧ Byt (encW h wk key fill) :=
 chN_ok (madeN_key H.hk (p := 0) (by omega)).1 H.code.1 H.code.2 H.facts.2.2.1 H.facts.1 false
theorem WrapIn.len {h : Hd} {wk key fill : List Nat} (H : WrapIn h wk key fill) : (wrapS h wk key fill).length = lenW (kindV h.ver.toNat) (textW key fill).length ∧ lenW (kindV h.ver.toNat) (textW key fill).length ≤ 200 := by
 obtain ⟨-, -, -, -, hu2, hs2⟩ := right_ok H.hr; have f := H.facts; have hz := size_le (kindV h.ver.toNat); refine ⟨?_, by unfold lenW; rw [f.2.1]; omega⟩
 unfold wrapS
 rw [List.length_append, List.length_append, hexL_len, hexL_len, H.enc.1, H.code.1, printL_size h hu2 hs2]
 unfold lenW
 omega

theorem back11 (h : Hd) (wk key fill : List Nat) (H : WrapIn h wk key fill) (n : Nat) (hn : wk.length = n) (A0 : Option Addr) (c0 : Nat) (w : World) (hA0 : At w A0 wk) (hG : EtOk w) :
    Calls Tryz.prog 15 #[.slice A0 n c0, .string (str (wrapS h wk key fill))] w fun e w' => (∃ v, e = .returned (.tuple #[.agg h.cells, v, .nilIface]) ∧ Own w' w.heap.size v key) ∧ Below w.heap.size w w' := by
 obtain ⟨-, -, -, -, hu2, hs2⟩ := right_ok H.hr; have hf := H.facts; have hc := H.code; have he := H.enc; have hl := H.len; have hz := size_le (kindV h.ver.toNat); have hz0 := size_pos (kindV h.ver.toNat); obtain ⟨N, hN⟩ : ∃ N, lenW (kindV h.ver.toNat) (textW key fill).length = N := ⟨_, rfl⟩; have hN2 : 16 + 2 * (textW key fill).length + 2 * sizeN (kindV h.ver.toNat) = N := hN; rw [hN] at hl; obtain ⟨S, hSS⟩ : ∃ S, str (wrapS h wk key fill) = S := ⟨_, rfl⟩; rw [hSS]
 have hS : S = str (printL h N) ++ str (hexL (encW h wk key fill) ++ hexL (codeW h wk key fill)) := by
  rw [← hSS]
  unfold wrapS
  rw [hN, str_add, List.append_assoc]
 have hPl := printL_size h hu2 hs2 N; obtain ⟨b1, b2, b3, b4⟩ := back_print H.hr (n := N) (by omega) (by omega) (str (hexL (encW h wk key fill) ++ hexL (codeW h wk key fill))); rw [← hS] at b1 b2 b3
 have hd : hdOf S = h := by
  unfold parseHd at b2
  rw [b1, if_pos (show isOk Er.ok = true from rfl)] at b2; exact b2
 have hnum : numOf S = (N : Int) := by
  unfold parseN at b3
  rw [b1, if_pos (show isOk Er.ok = true from rfl)] at b3; exact b3
 have hsz : S.size = N := by rw [← hSS, str_size, hl.1]
 have hR : S.extract 16 S.size = str (hexL (encW h wk key fill ++ codeW h wk key fill)) := by
  rw [hsz, ← hSS, str_extract, hexL_app]
  congr 1
  unfold wrapS
  rw [hN, List.append_assoc, List.drop_left' hPl]; refine List.take_of_length_le ?_; rw [List.length_append, hexL_len, hexL_len, he.1, hc.1]; omega
 have hP : S.extract 0 16 = str (printL h N) := by
  rw [← hSS, str_extract]
  congr 1
  unfold wrapS
  rw [hN, List.append_assoc, List.drop_zero, List.take_left' hPl]
 have hbb : Byt (encW h wk key fill ++ codeW h wk key fill) := fun c hm => by
  rcases List.mem_append.1 hm with hm | hm
  ·
   exact he.2 c hm
  ·
   exact hc.2 c hm
 have hT : openT (kindV h.ver.toNat) (madeN (kindV h.ver.toNat) wk 0) (encW h wk key fill ++ codeW h wk key fill) (textW key fill).length = textW key fill := by
  unfold openT
  rw [List.drop_left' he.1, List.take_left' he.1]; exact chN_back (madeN_key H.hk (p := 0) (by omega)).1 hc.1 hc.2 hf.2.2.1 hf.1
 have hC : openC (kindV h.ver.toNat) (madeN (kindV h.ver.toNat) wk 0) (madeN (kindV h.ver.toNat) wk 1) (encW h wk key fill ++ codeW h wk key fill) (str (printL h N)) (textW key fill).length = true := by
  unfold openC
  rw [hT, List.drop_left' he.1]; refine decide_eq_true ?_
  unfold codeW
  rw [hN]
 have e0 : (textW key fill).getD 0 0 = 8 * key.length / 256 := rfl; have e1 : (textW key fill).getD 1 0 = 8 * key.length % 256 := rfl
 have hkx : ((textW key fill).drop 2).take key.length = key := by
  unfold textW
  rw [List.append_assoc]
  show (key ++ fill).take key.length = key
  exact List.take_left' rfl
 have := unwrap_ok S (by omega) b1 (by rw [hnum, hsz]) (kindV h.ver.toNat) (by rw [hd]) wk n H.hk hn (textW key fill).length (sizeN (kindV h.ver.toNat)) key.length fill.length rfl (by rw [hsz]; omega) hf.1
  (by rw [hR, str_list]; exact badAt_none (hexL_hex _ hbb)) (by rw [hR, str_list, unhex_hex _ hbb, hP]; exact hC) (textW key fill) (by rw [hR, str_list, unhex_hex _ hbb]; exact hT) (by rw [e0, e1]; omega) (by rw [hd]; exact H.hfits) (by rw [hd]; exact H.hfill) hf.2.1 A0 c0 w hA0 hG
 rw [hd, hkx] at this; exact this
end Go.Proofs.YtfkjkkjimdilcaaGreatDoor
