/- The contracts of lockboxref11.Unwrap where the head or the key is wrong. The contract of lockboxref11.Unwrap behind the digits: a wrong code, a wrong form, and where all is right. -/
import Derived.Test.YtfkjkkjimdilcaaGreatDoorQCK
import Derived.Test.YtfkjkkjimdilcaaGreatDoorQUN
import Derived.Test.YtfkjkkjimdilcaaGreatDoorQRefQ
import Derived.Test.YtfkjkkjimdilcaaGreatDoorQRIJ
import Derived.Test.YtfkjkkjimdilcaaGreatDoorQRQG
import Derived.Test.YtfkjkkjimdilcaaGreatDoorQLaw11
set_option maxHeartbeats 8000000
set_option maxRecDepth 100000
/- The contracts of lockboxref11.Unwrap where the head or the key is wrong. -/
namespace Go.Proofs.YtfkjkkjimdilcaaGreatDoor
open Go Go.RowKit Pr
section
variable {P : Program}
theorem results_cell4 {fn : Func} {p u v x : Tmp} {ty : TypeId} (h : fn.results = #[.cell p ty, .tmp u, .tmp v, .tmp x]) (tmps : Array Value) (w : World) (g : Nat) (t : TypeId) (cs : Array Value) (d : TypeDesc)
    (hp : tmps.getD p undef = .pointer (some ⟨g, 0, none⟩)) (hg : Blk w g t cs)
    (hu : P.underlying ty = some d) (hd : (match d with | .struct _ | .array _ _ => true | _ => false) = true) (hi : (P.info? ty).map (·.size) = some cs.size) :
    (results fn tmps).run P w = .ok (.tuple #[.agg cs, tmps.getD u undef, tmps.getD v undef, tmps.getD x undef]) w := by
 have hp' : tmps[p]?.getD undef = .pointer (some ⟨g, 0, none⟩) := by simpa using hp
 simp [results, h, hp', asAddr, run_loadVar_row w g t ty cs (0, 0) d hg hu hd hi]
end

theorem refUnwrap_short (s : ByteArray) (hs : s.size < 16) (A0 : Option Addr) (n c0 : Nat) (w : World) :
    Calls Tryz.prog 26 #[.slice A0 n c0, .string s] w fun e w' => e = .returned (.tuple #[.agg Hd.zero.cells, .slice none 0 0, .int .i64 2, .int .i64 (-1)]) ∧ Below w.heap.size w w' := by
 have hz : Hd.zero.cells = #[.int .u8 0, .string ⟨#[]⟩, .int .u8 0, .int .u8 0, .string ⟨#[]⟩, .int .u8 0] := rfl; rw [hz]; clear hz
 go_enter Tryz.func26, Tryz.ntmps26
 have hR := Blk.new w 24 #[.int .u8 0, .string ⟨#[]⟩, .int .u8 0, .int .u8 0, .string ⟨#[]⟩, .int .u8 0]; have hb := (Below.refl w.heap.size w).alloc lr (.cells #[.int .u8 0, .string ⟨#[]⟩, .int .u8 0, .int .u8 0, .string ⟨#[]⟩, .int .u8 0] 24); have t1 : (s.size : Int) < 16 := by omega
 go_wp2_with (refine wpList_store_all rfl 24 (.tmp 4) (.tmp 30) rfl w.heap.size #[.int .u8 0, .string ⟨#[]⟩, .int .u8 0, .int .u8 0, .string ⟨#[]⟩, .int .u8 0] rfl rfl 24 #[.int .u8 0, .string ⟨#[]⟩, .int .u8 0, .int .u8 0, .string ⟨#[]⟩, .int .u8 0] hR (by first | (rw [info_head]; rfl) | rw [info_head]) rfl (by simp [Value.oneCell']) ?_; intro w3 hR3 hO3)
 refine bodyPost_ret (results_cell4 rfl _ _ w.heap.size 24 _ _ rfl hR3 Tryz.underlying24 rfl (by first | (rw [info_head]; rfl) | rw [info_head])) rfl ?_; exact ⟨rfl, hO3.below hb lr⟩

theorem refUnwrap_head_bad (s : ByteArray) (hs : 16 ≤ s.size) (hss : s.size ≤ 1500) (p : Nat) (hp2 : p ≤ 1500) (hps : parseEr s = .fa p 6) (A0 : Option Addr) (n c0 : Nat) (w : World) :
    Calls Tryz.prog 26 #[.slice A0 n c0, .string s] w fun e w' => e = .returned (.tuple #[.agg Hd.zero.cells, .slice none 0 0, .int .i64 6, .int .i64 p]) ∧ Below w.heap.size w w' := by
 have HPA := Hh (fun W => refParse_any s hs (by omega) W _ hps); have he1 : isOk (.fa p 6) = false := rfl; have he2 : erAt (.fa p 6) = (p : Int) := rfl; rw [he1, he2] at HPA; simp only [Bool.false_eq_true, if_false] at HPA
 have hz : Hd.zero.cells = #[.int .u8 0, .string ⟨#[]⟩, .int .u8 0, .int .u8 0, .string ⟨#[]⟩, .int .u8 0] := rfl; have hcs6 : Hd.zero.cells.size = 6 := rfl; have hco : Hd.zero.cells.all (·.oneCell') = true := by simp [Hd.cells, Value.oneCell']
 generalize Hd.zero.cells = cs at *; have HZ := Hh hz; clear hz; have HS6 := Hh hcs6; clear hcs6; have HCO := Hh hco; clear hco hps he1 he2
 go_enter Tryz.func26, Tryz.ntmps26
 have hR := Blk.new w 24 #[.int .u8 0, .string ⟨#[]⟩, .int .u8 0, .int .u8 0, .string ⟨#[]⟩, .int .u8 0]; have hb := (Below.refl w.heap.size w).alloc lr (.cells #[.int .u8 0, .string ⟨#[]⟩, .int .u8 0, .int .u8 0, .string ⟨#[]⟩, .int .u8 0] 24); have hsr : (w.alloc (.cells #[.int .u8 0, .string ⟨#[]⟩, .int .u8 0, .int .u8 0, .string ⟨#[]⟩, .int .u8 0] 24)).heap.size = w.heap.size + 1 := by simp
 have t1 : ¬ (s.size : Int) < 16 := by omega
 have t2 : (0 : Int) ≤ (p : Int) := by omega
 go_wp2_with fail
 refine (HPA.out _).mono ?_; rintro e w1 ⟨rfl, hb1⟩; have hR1 := hR.below hb1 (by omega); have hbel1 := hb.trans (hb1.mono (by omega)); have hs1 := hR1.lt; clear hb1 hR hb hsr HPA; rw [← HZ.out] at hR1
 go_wp2_with (first
  | (refine wpList_store_all rfl 24 (.tmp 8) (.tmp 34) rfl w1.heap.size cs rfl rfl 24 #[.int .u8 0, .string ⟨#[]⟩, .int .u8 0, .int .u8 0, .string ⟨#[]⟩, .int .u8 0] (Blk.new w1 _ _) (by rw [info_head, HS6.out]) (by rw [HS6.out]; rfl) HCO.out ?_; intro w2 hH2 hO2; have hR2 := (hR1.alloc (.cells #[.int .u8 0, .string ⟨#[]⟩, .int .u8 0, .int .u8 0, .string ⟨#[]⟩, .int .u8 0] 24)).only hO2 (by omega); have hb2 := hO2.below ((Below.refl w1.heap.size w1).alloc lr (.cells #[.int .u8 0, .string ⟨#[]⟩, .int .u8 0, .int .u8 0, .string ⟨#[]⟩, .int .u8 0] 24)) lr)
  | (refine wpList_store_all rfl 24 (.tmp 4) (.tmp 39) rfl w.heap.size #[.int .u8 0, .string ⟨#[]⟩, .int .u8 0, .int .u8 0, .string ⟨#[]⟩, .int .u8 0] rfl rfl 24 cs hR2 (by first | (rw [info_head]; rfl) | rw [info_head]) (by simp [HS6.out]) (by simp [Value.oneCell']) ?_; intro w3 hR3 hO3))
 rw [← HZ.out] at hR3; refine bodyPost_ret (results_cell4 rfl _ _ w.heap.size 24 _ _ rfl hR3 Tryz.underlying24 rfl (by rw [info_head, HS6.out])) rfl ?_; exact ⟨rfl, hO3.below (hbel1.trans (hb2.mono hbel1.size)) lr⟩

theorem refUnwrap_keys_bad (s : ByteArray) (hs : 16 ≤ s.size) (hss : s.size ≤ 1500) (hps : parseEr s = .ok) (A0 : Option Addr) (n c0 : Nat) (hn : n ≤ 1000) (er : Er) (he : keysEr (hdOf s).ver.toNat n = er) (hne : er ≠ .ok) (w : World) :
    Calls Tryz.prog 26 #[.slice A0 n c0, .string s] w fun e w' => e = .returned (.tuple #[.agg Hd.zero.cells, .slice none 0 0, .int .i64 (erCode er), .int .i64 (-1)]) ∧ Below w.heap.size w w' := by
 have HPA := Hh (fun W => refParse_any s hs (by omega) W _ hps); have he1 : isOk .ok = true := rfl; have he2 : erAt .ok = -1 := rfl; rw [he1, he2] at HPA; simp only [if_true] at HPA
 obtain ⟨k, hk, hk2⟩ := keysEr_no he hne; have HKB := Hh (fun W => refKeys_bad (hdOf s).ver.toNat n hn er he hne A0 c0 W); have hz : Hd.zero.cells = #[.int .u8 0, .string ⟨#[]⟩, .int .u8 0, .int .u8 0, .string ⟨#[]⟩, .int .u8 0] := rfl; have hcs6 : (hdOf s).cells.size = 6 := rfl; have hco : (hdOf s).cells.all (·.oneCell') = true := by simp [Hd.cells, Value.oneCell']
 have hcv : ∀ W g, Blk W g 24 (hdOf s).cells → W.cell? ⟨g, 0, none⟩ = some (.int .u8 ((hdOf s).ver.toNat : Int)) := fun W g hW => hW.cell 0; generalize numOf s = pn at *; generalize (hdOf s).cells = cs at *; generalize (hdOf s).ver.toNat = v at *; have HS6 := Hh hcs6; clear hcs6; have HCV := Hh hcv; clear hcv; have HCO := Hh hco; clear hco hps he1 he2 he hne; subst hk; have hec : erCode (.no k) = (k : Int) := rfl; rw [hec] at HKB ⊢; clear hec; rw [hz]; clear hz
 go_enter Tryz.func26, Tryz.ntmps26
 have hR := Blk.new w 24 #[.int .u8 0, .string ⟨#[]⟩, .int .u8 0, .int .u8 0, .string ⟨#[]⟩, .int .u8 0]; have hb := (Below.refl w.heap.size w).alloc lr (.cells #[.int .u8 0, .string ⟨#[]⟩, .int .u8 0, .int .u8 0, .string ⟨#[]⟩, .int .u8 0] 24); have hsr : (w.alloc (.cells #[.int .u8 0, .string ⟨#[]⟩, .int .u8 0, .int .u8 0, .string ⟨#[]⟩, .int .u8 0] 24)).heap.size = w.heap.size + 1 := by simp
 have t1 : ¬ (s.size : Int) < 16 := by omega
 have t2 : ((k : Int) != 0) = true := by rw [bne_iff_ne]; omega
 go_wp2_with fail
 refine (HPA.out _).mono ?_; rintro e w1 ⟨rfl, hb1⟩; have hR1 := hR.below hb1 (by omega); have hbel1 := hb.trans (hb1.mono (by omega)); have hs1 := hR1.lt; clear hb1 hR hb hsr HPA; go_wp2_with (refine wpList_store_all rfl 24 (.tmp 8) (.tmp 34) rfl w1.heap.size cs rfl rfl 24 #[.int .u8 0, .string ⟨#[]⟩, .int .u8 0, .int .u8 0, .string ⟨#[]⟩, .int .u8 0] (Blk.new w1 _ _) (by rw [info_head, HS6.out]) (by rw [HS6.out]; rfl) HCO.out ?_; intro w2 hH2 hO2; have hc2 := HCV.out _ _ hH2)
 have hR2 := (hR1.alloc (.cells #[.int .u8 0, .string ⟨#[]⟩, .int .u8 0, .int .u8 0, .string ⟨#[]⟩, .int .u8 0] 24)).only hO2 (by omega); have hbel2 := hO2.below (hbel1.alloc hbel1.size (.cells #[.int .u8 0, .string ⟨#[]⟩, .int .u8 0, .int .u8 0, .string ⟨#[]⟩, .int .u8 0] 24)) (by omega); clear hO2 hR1 hbel1; refine (HKB.out _).mono ?_; rintro e w3 ⟨rfl, rfl⟩; go_wp2_with (refine wpList_store_all rfl 24 (.tmp 4) (.tmp 51) rfl w.heap.size #[.int .u8 0, .string ⟨#[]⟩, .int .u8 0, .int .u8 0, .string ⟨#[]⟩, .int .u8 0] rfl rfl 24 #[.int .u8 0, .string ⟨#[]⟩, .int .u8 0, .int .u8 0, .string ⟨#[]⟩, .int .u8 0] hR2 (by first | (rw [info_head]; rfl) | rw [info_head]) rfl (by simp [Value.oneCell']) ?_; intro w4 hR4 hO4)
 refine bodyPost_ret (results_cell4 rfl _ _ w.heap.size 24 _ _ rfl hR4 Tryz.underlying24 rfl (by first | (rw [info_head]; rfl) | rw [info_head])) rfl ?_; exact ⟨rfl, hO4.below hbel2 lr⟩
theorem refUnwrap_size_bad (s : ByteArray) (hs : 16 ≤ s.size) (hss : s.size ≤ 1500) (hps : parseEr s = .ok) (kind : Nat) (hkd : kindV (hdOf s).ver.toNat = kind) (wk : List Nat) (n : Nat) (hk : KeyOk kind wk) (hn : wk.length = n) (z : Nat) (hz : sizeN kind = z) (RL : Nat) (hRL : s.size = 16 + RL)
    (hbad : (numOf s != (s.size : Int)) = true ∨ ((numOf s != (s.size : Int)) = false ∧ (((RL : Int) % (2 * (z : Int)) != 0) = true)) ∨ ((numOf s != (s.size : Int)) = false ∧ (((RL : Int) % (2 * (z : Int)) != 0) = false) ∧ RL < 4 * z))
    (A0 : Option Addr) (c0 : Nat) (hc0 : n ≤ c0) (w : World) (hA0 : At w A0 wk) :
    Calls Tryz.prog 26 #[.slice A0 n c0, .string s] w fun e w' => e = .returned (.tuple #[.agg Hd.zero.cells, .slice none 0 0, .int .i64 2, .int .i64 (-1)]) ∧ Below w.heap.size w w' := by
 have hz16 := size_le kind; have hz0 := size_pos kind; rw [hz] at hz16 hz0; have HPA := Hh (fun W => refParse_any s hs (by omega) W _ hps); have he1 : isOk .ok = true := rfl; have he2 : erAt .ok = -1 := rfl; rw [he1, he2] at HPA; simp only [if_true] at HPA
 have HKO := Hh (fun W hA => refKeys_ok (hdOf s).ver.toNat kind hkd wk hk n hn A0 c0 hc0 W hA); have HKI := Hh (fun W => refKind_any (hdOf s).ver.toNat W); rw [hkd] at HKI; have HSZ := Hh (fun W => refSize_any kind hk.kind W); rw [hz] at HSZ; obtain ⟨RS, hRS⟩ : ∃ RS, s.extract 16 s.size = RS := ⟨_, rfl⟩; have hRl : RS.size = RL := by rw [← hRS, ByteArray.size_extract]; omega
 have hzz : Hd.zero.cells = #[.int .u8 0, .string ⟨#[]⟩, .int .u8 0, .int .u8 0, .string ⟨#[]⟩, .int .u8 0] := rfl; have hcs6 : (hdOf s).cells.size = 6 := rfl; have hco : (hdOf s).cells.all (·.oneCell') = true := by simp [Hd.cells, Value.oneCell']
 have hcv : ∀ W g, Blk W g 24 (hdOf s).cells → W.cell? ⟨g, 0, none⟩ = some (.int .u8 ((hdOf s).ver.toNat : Int)) := fun W g hW => hW.cell 0; generalize numOf s = pn at *; generalize (hdOf s).cells = cs at *; generalize madeN kind wk 0 = R0 at *; generalize madeN kind wk 1 = R1 at *; generalize (hdOf s).ver.toNat = v at *; have HA0 := Hh (fun W (hb : Below w.heap.size w W) => hA0.below hb lr); have HS6 := Hh hcs6; clear hcs6; have HCV := Hh hcv; clear hcv; have HRS := Hh hRS; clear hRS; have HRL := Hh hRl; clear hRl; have HCO := Hh hco; clear hco hps he1 he2 hA0 hkd hk hn hz hRL; rw [hzz]; clear hzz
 go_enter Tryz.func26, Tryz.ntmps26
 have hR := Blk.new w 24 #[.int .u8 0, .string ⟨#[]⟩, .int .u8 0, .int .u8 0, .string ⟨#[]⟩, .int .u8 0]; have hb := (Below.refl w.heap.size w).alloc lr (.cells #[.int .u8 0, .string ⟨#[]⟩, .int .u8 0, .int .u8 0, .string ⟨#[]⟩, .int .u8 0] 24); have hsr : (w.alloc (.cells #[.int .u8 0, .string ⟨#[]⟩, .int .u8 0, .int .u8 0, .string ⟨#[]⟩, .int .u8 0] 24)).heap.size = w.heap.size + 1 := by simp
 have t0 : ¬ (s.size : Int) < 16 := by omega
 go_wp2_with fail
 refine (HPA.out _).mono ?_; rintro e w1 ⟨rfl, hb1⟩; have hR1 := hR.below hb1 (by omega); have hbel1 := hb.trans (hb1.mono (by omega)); have hs1 := hR1.lt; clear hb1 hR hb hsr HPA; go_wp2_with (refine wpList_store_all rfl 24 (.tmp 8) (.tmp 34) rfl w1.heap.size cs rfl rfl 24 #[.int .u8 0, .string ⟨#[]⟩, .int .u8 0, .int .u8 0, .string ⟨#[]⟩, .int .u8 0] (Blk.new w1 _ _) (by rw [info_head, HS6.out]) (by rw [HS6.out]; rfl) HCO.out ?_; intro w2 hH2 hO2; have hc2 := HCV.out _ _ hH2)
 have hR2 := (hR1.alloc (.cells #[.int .u8 0, .string ⟨#[]⟩, .int .u8 0, .int .u8 0, .string ⟨#[]⟩, .int .u8 0] 24)).only hO2 (by omega); have hbel2 := hO2.below (hbel1.alloc hbel1.size (.cells #[.int .u8 0, .string ⟨#[]⟩, .int .u8 0, .int .u8 0, .string ⟨#[]⟩, .int .u8 0] 24)) (by omega); have hs2 := hH2.lt; clear hO2 hR1 hbel1; refine (HKO.out _ (HA0.out _ hbel2)).mono ?_; rintro e w3 ⟨⟨va, vb, rfl, -, -⟩, hb3⟩; have hR3 := hR2.below hb3 hR2.lt; have hH3 := hH2.below hb3 hs2; have hc3 := HCV.out _ _ hH3; have hbel3 := hbel2.trans (hb3.mono hbel2.size); clear hb3 hR2 hH2 hbel2 hc2; have hrs := HRS.out; have hrl := HRL.out; have t4 : IntKind.i64.wrap (2 * (z : Int)) = 2 * (z : Int) := IntWalk.i64_in _ (by omega); have t5 : IntKind.i64.wrap (4 * (z : Int)) = 4 * (z : Int) := IntWalk.i64_in _ (by omega); have hz2 : ((2 * (z : Int)) == 0) = false := by rw [beq_eq_false_iff_ne]; omega
 have hz3 : ¬ (2 * (z : Int)) = 0 := by omega
 have hz4 : 0 < 2 * (z : Int) := by omega
 go_wp2_with fail
 refine (HKI.out _).mono ?_; rintro e w4 ⟨rfl, rfl⟩; go_wp2_with fail
 refine (HSZ.out _).mono ?_; rintro e w4 ⟨rfl, rfl⟩
 rcases hbad with t1 | ⟨t1, t2⟩ | ⟨t1, t2, t3⟩
 all_goals first | (have t3 : (RL : Int) < 4 * (z : Int) := by omega) | skip
 all_goals (go_wp2_with (refine wpList_store_all rfl 24 (.tmp 4) (.tmp 79) rfl w.heap.size #[.int .u8 0, .string ⟨#[]⟩, .int .u8 0, .int .u8 0, .string ⟨#[]⟩, .int .u8 0] rfl rfl 24 #[.int .u8 0, .string ⟨#[]⟩, .int .u8 0, .int .u8 0, .string ⟨#[]⟩, .int .u8 0] hR3 (by first | (rw [info_head]; rfl) | rw [info_head]) rfl (by simp [Value.oneCell']) ?_; intro w5 hR5 hO5))
 all_goals refine bodyPost_ret (results_cell4 rfl _ _ w.heap.size 24 _ _ rfl hR5 Tryz.underlying24 rfl (by first | (rw [info_head]; rfl) | rw [info_head])) rfl ?_
 all_goals exact ⟨rfl, hO5.below hbel3 lr⟩
theorem refUnwrap_hex_bad (s : ByteArray) (hs : 16 ≤ s.size) (hss : s.size ≤ 1500) (hps : parseEr s = .ok) (kind : Nat) (hkd : kindV (hdOf s).ver.toNat = kind) (wk : List Nat) (n : Nat) (hk : KeyOk kind wk) (hn : wk.length = n) (z : Nat) (hz : sizeN kind = z) (RL : Nat) (hRL : s.size = 16 + RL)
    (hnum : (numOf s != (s.size : Int)) = false) (hm : (((RL : Int) % (2 * (z : Int)) != 0) = false)) (hl : 4 * z ≤ RL) (kb : Nat) (hkb : badAt isHex (s.extract 16 s.size).data.toList = some kb) (hkb2 : kb ≤ 1500)
    (A0 : Option Addr) (c0 : Nat) (hc0 : n ≤ c0) (w : World) (hA0 : At w A0 wk) :
    Calls Tryz.prog 26 #[.slice A0 n c0, .string s] w fun e w' => e = .returned (.tuple #[.agg Hd.zero.cells, .slice none 0 0, .int .i64 16, .int .i64 (16 + (kb : Int))]) ∧ Below w.heap.size w w' := by
 have hz16 := size_le kind; have hz0 := size_pos kind; rw [hz] at hz16 hz0; have HPA := Hh (fun W => refParse_any s hs (by omega) W _ hps); have he1 : isOk .ok = true := rfl; have he2 : erAt .ok = -1 := rfl; rw [he1, he2] at HPA; simp only [if_true] at HPA
 have HKO := Hh (fun W hA => refKeys_ok (hdOf s).ver.toNat kind hkd wk hk n hn A0 c0 hc0 W hA); have HKI := Hh (fun W => refKind_any (hdOf s).ver.toNat W); rw [hkd] at HKI; have HSZ := Hh (fun W => refSize_any kind hk.kind W); rw [hz] at HSZ; obtain ⟨RS, hRS⟩ : ∃ RS, s.extract 16 s.size = RS := ⟨_, rfl⟩; have hRl : RS.size = RL := by rw [← hRS, ByteArray.size_extract]; omega
 rw [hRS] at hkb; have HFI := Hh (fun W => refFirst16 RS (by omega) W); rw [show badZ isHex RS.data.toList = (kb : Int) by unfold badZ; rw [hkb]] at HFI; clear hkb; have hzz : Hd.zero.cells = #[.int .u8 0, .string ⟨#[]⟩, .int .u8 0, .int .u8 0, .string ⟨#[]⟩, .int .u8 0] := rfl; have hcs6 : (hdOf s).cells.size = 6 := rfl; have hco : (hdOf s).cells.all (·.oneCell') = true := by simp [Hd.cells, Value.oneCell']
 have hcv : ∀ W g, Blk W g 24 (hdOf s).cells → W.cell? ⟨g, 0, none⟩ = some (.int .u8 ((hdOf s).ver.toNat : Int)) := fun W g hW => hW.cell 0; generalize numOf s = pn at *; generalize (hdOf s).cells = cs at *; generalize madeN kind wk 0 = R0 at *; generalize madeN kind wk 1 = R1 at *; generalize (hdOf s).ver.toNat = v at *; have HA0 := Hh (fun W (hb : Below w.heap.size w W) => hA0.below hb lr); have HS6 := Hh hcs6; clear hcs6; have HCV := Hh hcv; clear hcv; have HRS := Hh hRS; clear hRS; have HRL := Hh hRl; clear hRl; have HCO := Hh hco; clear hco hps he1 he2 hA0 hkd hk hn hz hRL; rw [hzz]; clear hzz
 go_enter Tryz.func26, Tryz.ntmps26
 have hR := Blk.new w 24 #[.int .u8 0, .string ⟨#[]⟩, .int .u8 0, .int .u8 0, .string ⟨#[]⟩, .int .u8 0]; have hb := (Below.refl w.heap.size w).alloc lr (.cells #[.int .u8 0, .string ⟨#[]⟩, .int .u8 0, .int .u8 0, .string ⟨#[]⟩, .int .u8 0] 24); have hsr : (w.alloc (.cells #[.int .u8 0, .string ⟨#[]⟩, .int .u8 0, .int .u8 0, .string ⟨#[]⟩, .int .u8 0] 24)).heap.size = w.heap.size + 1 := by simp
 have t0 : ¬ (s.size : Int) < 16 := by omega
 go_wp2_with fail
 refine (HPA.out _).mono ?_; rintro e w1 ⟨rfl, hb1⟩; have hR1 := hR.below hb1 (by omega); have hbel1 := hb.trans (hb1.mono (by omega)); have hs1 := hR1.lt; clear hb1 hR hb hsr HPA; go_wp2_with (refine wpList_store_all rfl 24 (.tmp 8) (.tmp 34) rfl w1.heap.size cs rfl rfl 24 #[.int .u8 0, .string ⟨#[]⟩, .int .u8 0, .int .u8 0, .string ⟨#[]⟩, .int .u8 0] (Blk.new w1 _ _) (by rw [info_head, HS6.out]) (by rw [HS6.out]; rfl) HCO.out ?_; intro w2 hH2 hO2; have hc2 := HCV.out _ _ hH2)
 have hR2 := (hR1.alloc (.cells #[.int .u8 0, .string ⟨#[]⟩, .int .u8 0, .int .u8 0, .string ⟨#[]⟩, .int .u8 0] 24)).only hO2 (by omega); have hbel2 := hO2.below (hbel1.alloc hbel1.size (.cells #[.int .u8 0, .string ⟨#[]⟩, .int .u8 0, .int .u8 0, .string ⟨#[]⟩, .int .u8 0] 24)) (by omega); have hs2 := hH2.lt; clear hO2 hR1 hbel1; refine (HKO.out _ (HA0.out _ hbel2)).mono ?_; rintro e w3 ⟨⟨va, vb, rfl, -, -⟩, hb3⟩; have hR3 := hR2.below hb3 hR2.lt; have hH3 := hH2.below hb3 hs2; have hc3 := HCV.out _ _ hH3; have hbel3 := hbel2.trans (hb3.mono hbel2.size); clear hb3 hR2 hH2 hbel2 hc2; have hrs := HRS.out; have hrl := HRL.out; have t4 : IntKind.i64.wrap (2 * (z : Int)) = 2 * (z : Int) := IntWalk.i64_in _ (by omega); have t5 : IntKind.i64.wrap (4 * (z : Int)) = 4 * (z : Int) := IntWalk.i64_in _ (by omega); have hz2 : ((2 * (z : Int)) == 0) = false := by rw [beq_eq_false_iff_ne]; omega
 have hz3 : ¬ (2 * (z : Int)) = 0 := by omega
 have hz4 : 0 < 2 * (z : Int) := by omega
 go_wp2_with fail
 refine (HKI.out _).mono ?_; rintro e w4 ⟨rfl, rfl⟩; go_wp2_with fail
 refine (HSZ.out _).mono ?_; rintro e w4 ⟨rfl, rfl⟩; have t1 := hnum; have t2 := hm; have t3 : ¬ (RL : Int) < 4 * (z : Int) := by omega
 have t6 : (0 : Int) ≤ (kb : Int) := by omega
 have t7 : (kb : Int) ≤ 1500 := by omega
 clear hnum hm; go_wp2_with fail
 refine (HFI.out _).mono ?_; rintro e w4 ⟨rfl, rfl⟩; go_wp2_with (refine wpList_store_all rfl 24 (.tmp 4) (.tmp 84) rfl w.heap.size #[.int .u8 0, .string ⟨#[]⟩, .int .u8 0, .int .u8 0, .string ⟨#[]⟩, .int .u8 0] rfl rfl 24 #[.int .u8 0, .string ⟨#[]⟩, .int .u8 0, .int .u8 0, .string ⟨#[]⟩, .int .u8 0] hR3 (by first | (rw [info_head]; rfl) | rw [info_head]) rfl (by simp [Value.oneCell']) ?_; intro w5 hR5 hO5)
 refine bodyPost_ret (results_cell4 rfl _ _ w.heap.size 24 _ _ rfl hR5 Tryz.underlying24 rfl (by first | (rw [info_head]; rfl) | rw [info_head])) rfl ?_; exact ⟨rfl, hO5.below hbel3 lr⟩

/-- what comes of a text whose digits are right: its code is oc; its bits are bad; its size fits; it is long as it should be -/
def RestOut (w : World) (cs : Array Value) (kl : Nat) (KX : List Nat) (bad fit : Bool) (len : Prop) (oc : Bool) (e : Ending) (w' : World) : Prop :=
 (oc = false → e = .returned (.tuple #[.agg Hd.zero.cells, .slice none 0 0, .int .i64 4, .int .i64 (-1)]))
 ∧ (oc = true → (bad = true ∨ (bad = false ∧ fit = false) ∨ (bad = false ∧ fit = true ∧ ¬ len)) → e = .returned (.tuple #[.agg Hd.zero.cells, .slice none 0 0, .int .i64 6, .int .i64 (-1)]))
 ∧ (oc = true → bad = false → fit = true → len → ∃ gt ct, e = .returned (.tuple #[.agg cs, .slice (some ⟨gt, 2, none⟩) kl ct, .int .i64 0, .int .i64 (-1)]) ∧ kl ≤ ct ∧ Bs w' gt 2 KX)
 ∧ Below w.heap.size w w'

theorem RestOut.code {w : World} {cs : Array Value} {kl : Nat} {KX : List Nat} {bad fit : Bool} {len : Prop} {e : Ending} {w' : World} (h : e = .returned (.tuple #[.agg Hd.zero.cells, .slice none 0 0, .int .i64 4, .int .i64 (-1)])) (hb : Below w.heap.size w w') : RestOut w cs kl KX bad fit len false e w' :=
 ⟨fun _ => h, fun h => absurd h Bool.false_ne_true, fun h => absurd h Bool.false_ne_true, hb⟩
theorem RestOut.form {w : World} {cs : Array Value} {kl : Nat} {KX : List Nat} {bad fit : Bool} {len : Prop} {e : Ending} {w' : World} (hbad : bad = false → fit = true → len → False) (h : e = .returned (.tuple #[.agg Hd.zero.cells, .slice none 0 0, .int .i64 6, .int .i64 (-1)])) (hb : Below w.heap.size w w') : RestOut w cs kl KX bad fit len true e w' :=
 ⟨fun h => Bool.noConfusion h, fun _ _ => h, fun _ h1 h2 h3 => (hbad h1 h2 h3).elim, hb⟩
theorem RestOut.good {w : World} {cs : Array Value} {kl : Nat} {KX : List Nat} {bad fit : Bool} {len : Prop} {e : Ending} {w' : World} (hbad : bad = false) (hfit : fit = true) (hlen : len) (gt ct : Nat) (h : e = .returned (.tuple #[.agg cs, .slice (some ⟨gt, 2, none⟩) kl ct, .int .i64 0, .int .i64 (-1)])) (hct : kl ≤ ct) (hB : Bs w' gt 2 KX) (hb : Below w.heap.size w w') : RestOut w cs kl KX bad fit len true e w' :=
 ⟨fun h => Bool.noConfusion h, fun _ h1 => by
  rcases h1 with h1 | ⟨-, h1⟩ | ⟨-, -, h1⟩
  ·
   rw [hbad] at h1; exact Bool.noConfusion h1
  ·
   rw [hfit] at h1; exact Bool.noConfusion h1
  ·
   exact absurd hlen h1, fun _ _ _ _ => ⟨gt, ct, h, hct, hB⟩, hb⟩

theorem refUnwrap_rest (s : ByteArray) (hss : s.size ≤ 1000) (hps : parseEr s = .ok) (hnum : (numOf s != (s.size : Int)) = false) (kind : Nat) (hkd : kindV (hdOf s).ver.toNat = kind) (wk : List Nat) (n : Nat) (hk : KeyOk kind wk) (hn : wk.length = n) (q z : Nat) (hz : sizeN kind = z) (hsz : s.size = 16 + 2 * (q + z)) (hqm : q % z = 0) (hq0 : z ≤ q)
    (hhex : badAt isHex (s.extract 16 s.size).data.toList = none) (oc : Bool) (hoc : openC kind (madeN kind wk 0) (madeN kind wk 1) (unhexL (s.extract 16 s.size).data.toList) (s.extract 0 16) q = oc)
    (TX : List Nat) (hTX : openT kind (madeN kind wk 0) (unhexL (s.extract 16 s.size).data.toList) q = TX) (N kl fl : Nat) (hbits : 256 * TX.getD 0 0 + TX.getD 1 0 = N) (hkl : N / 8 = kl) (hfill : fillW (hdOf s).ver.toNat (kl : Int) = (fl : Int)) (hfl : fl ≤ 16)
    (A0 : Option Addr) (c0 : Nat) (hc0 : n ≤ c0) (w : World) (hA0 : At w A0 wk) :
    Calls Tryz.prog 26 #[.slice A0 n c0, .string s] w fun e w' =>
     RestOut w (hdOf s).cells kl ((TX.drop 2).take kl) ((N : Int) % 8 != 0) (fitsW (hdOf s).alg.toNat kl) (q = 2 + kl + fl) oc e w' := by
 have hz16 := size_le kind; have hz0 := size_pos kind; rw [hz] at hz16 hz0; have hs16 := parse_16 hps; have HPA := Hh (fun W => refParse_any s hs16 (by omega) W _ hps); have he1 : isOk .ok = true := rfl; have he2 : erAt .ok = -1 := rfl; rw [he1, he2] at HPA; simp only [if_true] at HPA
 have k0 := madeN_key hk (p := 0) (by omega); have k1 := madeN_key hk (p := 1) (by omega); have hl0 := (madeN_ok hk (p := 0) (by omega)).1; have hl1 := (madeN_ok hk (p := 1) (by omega)).1; rw [hn] at hl0 hl1; have hn32 := hk.pos; rw [hn] at hn32; have HKO := Hh (fun W hA => refKeys_ok (hdOf s).ver.toNat kind hkd wk hk n hn A0 c0 hc0 W hA); have HKI := Hh (fun W => refKind_any (hdOf s).ver.toNat W); rw [hkd] at HKI; have HSZ := Hh (fun W => refSize_any kind hk.kind W); rw [hz] at HSZ; have HFI := Hh (fun W => refFits_any (hdOf s).alg.toNat kl W); have HFL := Hh (fun W => refFill_any (hdOf s).ver.toNat (kl : Int) W); rw [hfill] at HFL; obtain ⟨RS, hRS⟩ : ∃ RS, s.extract 16 s.size = RS := ⟨_, rfl⟩; obtain ⟨PS, hPS⟩ : ∃ PS, s.extract 0 16 = PS := ⟨_, rfl⟩; have hRl : RS.size = 2 * (q + z) := by rw [← hRS, ByteArray.size_extract]; omega
 have hPl : PS.size = 16 := by rw [← hPS, ByteArray.size_extract]; omega
 rw [hRS] at hhex hoc hTX; rw [hPS] at hoc; have HFS := Hh (fun W => refFirst16 RS (by omega) W); rw [show badZ isHex RS.data.toList = -1 by unfold badZ; rw [hhex]] at HFS
 have hbl : (unhexL RS.data.toList).length = q + z := by
  rw [unhexL_len]; have : RS.data.toList.length = RS.size := by simp
  omega
 have hbb : Byt (unhexL RS.data.toList) := unhexL_lt (all_of_badAt hhex); have HUN := Hh (fun W => unhexR_any RS (by omega) (all_of_badAt hhex) (by omega) W); generalize unhexL RS.data.toList = BX at *; have hot := openT_ok (kind := kind) k0.1 (b := BX) (q := q) (by rw [hz]; exact hbl) hbb (by rw [hz]; exact hqm); have hsl : (BX.drop q).length = z := by rw [List.length_drop, hbl]; omega
 have htl : (BX.take q).length = q := by rw [List.length_take, hbl]; omega
 have hsb : Byt (BX.drop q) := fun c hc => hbb c (List.mem_of_mem_drop hc); have htb : Byt (BX.take q) := fun c hc => hbb c (List.mem_of_mem_take hc); have HCH := Hh (fun ca (hca : n ≤ ca) A S T cS cT hct W hA hS hT => refChD_any kind (by have := hk.kind; omega) (madeN kind wk 0) k0.1 n ca A #[.slice none 0 0, .slice none 0 0] ⟨none, none, 0, 0, 0, 0, rfl⟩ (doOk_dec k0 n ca hl0 hca A none none 0 0 0 0) (BX.drop q) (by rw [hz]; exact hsl) hsb (BX.take q) q htl (by omega) (by rw [hz]; exact hqm) (by omega) htb S T cS cT hct W hA hS hT); rw [show chN kind (madeN kind wk 0) (BX.drop q) (BX.take q) true = TX from hTX, hz] at HCH
 have hmb : Byt (sN PS ++ TX) := fun c hc => by
  rcases List.mem_append.1 hc with hc | hc
  ·
   exact sN_lt _ c hc
  ·
   rw [hTX] at hot; exact hot.2 c hc
 have hml : (sN PS ++ TX).length = PS.size + q := by rw [hTX] at hot; rw [List.length_append, sN_len, hot.1]
 have HCM := Hh (fun cb (hcb : n ≤ cb) B A ct W hC hT => refCmac_any kind (madeN kind wk 1) k1 n cb hl1 hcb B none none 0 0 0 0 (sN PS ++ TX) _ hml (by omega) (by omega) hmb A ct W hC hT); have hco := cmacN_ok (kind := kind) k1.1 hmb; have hoc2 : decide (cmacN kind (madeN kind wk 1) (sN PS ++ TX) = BX.drop q) = oc := by rw [← hoc]; unfold openC; rw [hTX]
 rw [hTX] at hot; generalize cmacN kind (madeN kind wk 1) (sN PS ++ TX) = CW at *; have HSA := Hh (fun A B ca cb W hA hB => same_any (BX.drop q) CW A B ca cb hsb hco.2 (by rw [hsl]; omega) W hA hB); rw [hz] at HCM hco; have hde : decide (BX.drop q = CW) = oc := by rw [← hoc2]; exact decide_eq_decide.2 ⟨Eq.symm, Eq.symm⟩
 rw [hde, hsl, hco.1] at HSA; clear hoc hoc2 hde
 have hBW : ∀ W g, At W (some ⟨g, 0, none⟩) BX → At W (some ⟨g, q, none⟩) (BX.drop q) ∧ At W (some ⟨g, 0, none⟩) (BX.take q) := fun W g hW => by
  obtain ⟨b, o, e, hB⟩ := hW (ne_nil hbl (by omega)); injection e with e; injection e with e1 e2; subst e1; subst e2; have h1 := hB.sub q z; rw [List.take_of_length_le (by rw [hsl]; exact Nat.le_refl _), Nat.zero_add] at h1; have h2 := hB.sub 0 q; rw [Nat.add_zero, List.drop_zero] at h2; exact ⟨fun _ => ⟨_, _, rfl, h1⟩, fun _ => ⟨_, _, rfl, h2⟩⟩
 have HBW := Hh hBW; clear hBW; have hB0 : TX.getD 0 0 < 256 := Byt.at_ hot.2 0; have hB1 : TX.getD 1 0 < 256 := Byt.at_ hot.2 1; have hN16 : N < 65536 := by omega
 have hz88 : z = 8 ∨ z = 16 := by
  have h := hz
  unfold sizeN at h
  split at h <;> omega
 have hq2 : 2 ≤ q := by omega
 have hTc : ∀ W g, At W (some ⟨g, 0, none⟩) TX → W.cell? ⟨g, 0, none⟩ = some (.int .u8 (TX.getD 0 0 : Nat)) ∧ W.cell? ⟨g, 1, none⟩ = some (.int .u8 (TX.getD 1 0 : Nat)) := fun W g hA => by
  obtain ⟨b, o, e, hB⟩ := hA (ne_nil hot.1 (by omega)); injection e with e; injection e with e1 e2; subst e1; subst e2; have h1 := hB.cellD 0 (by rw [hot.1]; omega); have h2 := hB.cellD 1 (by rw [hot.1]; omega); exact ⟨h1, h2⟩
 have hTs : ∀ W g, At W (some ⟨g, 0, none⟩) TX → Bs W g 2 ((TX.drop 2).take kl) := fun W g hA => by
  obtain ⟨b, o, e, hB⟩ := hA (ne_nil hot.1 (by omega)); injection e with e; injection e with e1 e2; subst e1; subst e2; have := hB.sub 2 kl
  rwa [Nat.zero_add] at this
 generalize (TX.drop 2).take kl = KX at *; generalize TX.getD 0 0 = x0 at *; generalize TX.getD 1 0 = x1 at *; have hcs6 : (hdOf s).cells.size = 6 := rfl; have hcob : (hdOf s).cells.all (·.oneCell') = true := by simp [Hd.cells, Value.oneCell']
 have hcv : ∀ W g, Blk W g 24 (hdOf s).cells → W.cell? ⟨g, 0, none⟩ = some (.int .u8 ((hdOf s).ver.toNat : Int)) ∧ W.cell? ⟨g, 2, none⟩ = some (.int .u8 ((hdOf s).alg.toNat : Int)) := fun W g hW => ⟨hW.cell 0, hW.cell 2⟩; generalize numOf s = pn at *; generalize (hdOf s).cells = cs at *; generalize madeN kind wk 0 = R0 at *; generalize madeN kind wk 1 = R1 at *; generalize (hdOf s).ver.toNat = v at *; generalize (hdOf s).alg.toNat = al at *; have HA0 := Hh (fun W (hb : Below w.heap.size w W) => hA0.below hb lr); have HS6 := Hh hcs6; have HCV := Hh hcv; have HRS := Hh hRS; have HPS := Hh hPS; have HRL := Hh hRl; have HPL := Hh hPl; have HCO := Hh hcob; have HBL := Hh hbl; have HTL := Hh hot.1; have HTC := Hh hTc; have HTS := Hh hTs; have HCL := Hh hco.1; have HML := Hh hml; have HR0 := Hh hl0; have HR1 := Hh hl1; have HBI := Hh hbits; have HKLL := Hh hkl; have HQM := Hh hqm; have HSL := Hh hsl; have HT0 := Hh (ne_nil hot.1 (by omega)); clear hcs6 hcv hRS hRl hPS hcob hbl hot hTc hTs hco hml hl0 hl1 hbits hkl hqm hsl htl hsb htb hmb hbb k0 k1 hfill hTX hhex hPl; have hq500 : q ≤ 500 := by omega
 clear hps he1 he2 hA0 hkd hk hn hz hsz
 go_enter Tryz.func26, Tryz.ntmps26
 have hR := Blk.new w 24 #[.int .u8 0, .string ⟨#[]⟩, .int .u8 0, .int .u8 0, .string ⟨#[]⟩, .int .u8 0]; have hb := (Below.refl w.heap.size w).alloc lr (.cells #[.int .u8 0, .string ⟨#[]⟩, .int .u8 0, .int .u8 0, .string ⟨#[]⟩, .int .u8 0] 24); have hsr : (w.alloc (.cells #[.int .u8 0, .string ⟨#[]⟩, .int .u8 0, .int .u8 0, .string ⟨#[]⟩, .int .u8 0] 24)).heap.size = w.heap.size + 1 := by simp
 have t0 : ¬ (s.size : Int) < 16 := by omega
 go_wp2_with fail
 refine (HPA.out _).mono ?_; rintro e w1 ⟨rfl, hb1⟩; have hR1 := hR.below hb1 (by omega); have hbel1 := hb.trans (hb1.mono (by omega)); have hs1 := hR1.lt; clear hb1 hR hb hsr HPA; go_wp2_with (refine wpList_store_all rfl 24 (.tmp 8) (.tmp 34) rfl w1.heap.size cs rfl rfl 24 #[.int .u8 0, .string ⟨#[]⟩, .int .u8 0, .int .u8 0, .string ⟨#[]⟩, .int .u8 0] (Blk.new w1 _ _) (by rw [info_head, HS6.out]) (by rw [HS6.out]; rfl) HCO.out ?_; intro w2 hH2 hO2; have hc2 := (HCV.out _ _ hH2).1)
 have hR2 := (hR1.alloc (.cells #[.int .u8 0, .string ⟨#[]⟩, .int .u8 0, .int .u8 0, .string ⟨#[]⟩, .int .u8 0] 24)).only hO2 (by omega); have hbel2 := hO2.below (hbel1.alloc hbel1.size (.cells #[.int .u8 0, .string ⟨#[]⟩, .int .u8 0, .int .u8 0, .string ⟨#[]⟩, .int .u8 0] 24)) (by omega); have hs2 := hH2.lt; clear hO2 hR1 hbel1; refine (HKO.out _ (HA0.out _ hbel2)).mono ?_; rintro e w3 ⟨⟨va, vb, rfl, hva, hvb⟩, hb3⟩; obtain ⟨ga, cA, rfl, hAa, hcapa, -⟩ := hva.at_ HR0.out (by omega); obtain ⟨gb, cB, rfl, hAb, hcapb, -⟩ := hvb.at_ HR1.out (by omega); have hR3 := hR2.below hb3 hR2.lt; have hH3 := hH2.below hb3 hs2; have hc3 := (HCV.out _ _ hH3).1; have hbel3 := hbel2.trans (hb3.mono hbel2.size); have HAa := Hh hAa; have HAb := Hh hAb; have hs3 := hH3.lt; clear hb3 hR2 hH2 hbel2 hc2 hva hvb hAa hAb; have hrs := HRS.out; have hrl := HRL.out; have t4 : IntKind.i64.wrap (2 * (z : Int)) = 2 * (z : Int) := IntWalk.i64_in _ (by omega); have t5 : IntKind.i64.wrap (4 * (z : Int)) = 4 * (z : Int) := IntWalk.i64_in _ (by omega); have hz2 : ((2 * (z : Int)) == 0) = false := by rw [beq_eq_false_iff_ne]; omega
 have hz3 : ¬ (2 * (z : Int)) = 0 := by omega
 have hz4 : 0 < 2 * (z : Int) := by omega
 have t1 := hnum
 have t2 : ((RS.size : Int) % (2 * (z : Int)) != 0) = false := by
  have h2 := HQM.out; rw [bne_eq_false_iff_eq]
  rcases hz88 with rfl | rfl <;> omega
 have t3 : ¬ (RS.size : Int) < 4 * (z : Int) := by omega
 clear hnum hz88 hrl; go_wp2_with fail
 refine (HKI.out _).mono ?_; rintro e w4 ⟨rfl, rfl⟩; go_wp2_with fail
 refine (HSZ.out _).mono ?_; rintro e w4 ⟨rfl, rfl⟩; go_wp2_with fail
 refine (HFS.out _).mono ?_; rintro e w4 ⟨rfl, rfl⟩; go_wp2_with fail
 refine (HUN.out _).mono ?_; rintro e w5 ⟨⟨vb, rfl, hvb⟩, hb5⟩; obtain ⟨gB, cX, rfl, hAtB, hcB, hgB⟩ := hvb.at_ HBL.out (by omega); have hbel5 := hbel3.trans (hb5.mono hbel3.size); have hR5 := hR3.below hb5 hR3.lt; have hH5 := hH3.below hb5 hs3; have hs5 := hH5.lt; have HAa5 := Hh (HAa.out.below hb5 lr); have HAb5 := Hh (HAb.out.below hb5 lr); have HAtB := Hh hAtB; have HQ := Hh (HBW.out _ _ hAtB); clear hvb hAtB hb5 hR3 hH3 HAa HAb hbel3 hs3 t2 t3 t4 t5 hz2 hz3 hz4 hc3 hrs; have e1 : IntKind.i64.wrap ((q : Int) + (z : Int) - (z : Int)) = (q : Int) := by rw [IntWalk.i64_in _ (by omega)]; omega
 have hqz : (q : Int) ≤ (q : Int) + (z : Int) := by omega
 have hqc : q ≤ cX := by omega
 have hcq : ¬ cX = q := by omega
 go_wp2_with fail
 refine (HCH.out _ hcapa _ _ _ _ _ hqc _ HAa5.out HQ.out.1 HQ.out.2).mono ?_; rintro e w6 ⟨⟨vt, rfl, hvt⟩, hb6⟩; obtain ⟨gt, ct, rfl, hAtT, hct, hgt⟩ := hvt.at_ HTL.out (by omega); have hbel6 := hbel5.trans (hb6.mono hbel5.size); have hR6 := hR5.below hb6 hR5.lt; have hH6 := hH5.below hb6 hs5; have hs6 := hH6.lt; have HAb6 := Hh (HAb5.out.below hb6 lr); have HQ6 := Hh (HQ.out.1.below hb6 lr); have HAtT6 := Hh hAtT; have hs56 := hb6.size; have hbA := (Below.refl w6.heap.size w6).alloc lr (.cells #[.slice none 0 0, .slice none 0 0] 85); clear hvt hAtT hb6 hR5 hH5 HAa5 HAb5 HAtB HQ hbel5; have hps := HPS.out; have hmx : PS.size + q ≤ 1000000000 := by rw [HPL.out]; omega
 go_wp2_with (first
  | (refine wpList_store_all rfl 85 (.tmp 20) (.tmp 107) rfl w6.heap.size #[.slice none 0 0, .slice none 0 0] rfl rfl 85 #[.slice none 0 0, .slice none 0 0] (Blk.new w6 _ _) (by rw [info_book]; rfl) rfl (by simp [Value.oneCell']) ?_; intro w7 hB7 hO7; have hb7 := hO7.below hbA lr; have hR7 := hR6.below hb7 hR6.lt; have hH7 := hH6.below hb7 hs6; have HAb7 := Hh (HAb6.out.below hb7 lr); have HQ7 := Hh (HQ6.out.below hb7 lr); have HAtT7 := Hh (HAtT6.out.below hb7 lr); have hbel7 := hbel6.trans (hb7.mono hbel6.size); have hs7 := hH7.lt; clear hB7 hO7 hb7 hR6 hH6 HAb6 HQ6 HAtT6 hbel6)
  | (refine wpList_to_room rfl 9 22 5 (.tmp 115) rfl PS rfl Tryz.underlying9 Tryz.underlying22 Tryz.underlying5 ?_; intro cap7 w8 hb8 hR8)
  | (at_builtin; refine wpList_append_conv rfl (.tmp 116) (.tmp 117) 22 rfl 5 1 Tryz.underlying22 info_byte (by omega) w7.heap.size w7.heap.size PS.size cap7 (sN PS) rfl hR8 hb8.size _ q ct TX rfl HTL.out ((HAtT7.out.below hb8 lr) HT0.out) hmx ?_; intro g9 cap9 w9 hg9 hB9 hb9))
 have hb79 := hb8.trans hb9; have hR9 := hR7.below hb79 hR7.lt; have hH9 := hH7.below hb79 hs7; have HAb9 := Hh (HAb7.out.below hb79 lr); have HQ9 := Hh (HQ7.out.below hb79 lr); have HAtT9 := Hh (HAtT7.out.below hb79 lr); have hbel9 := hbel7.trans (hb79.mono hbel7.size); have hs9 := hH9.lt; clear hb8 hb9 hb79 hR7 hH7 HAb7 HQ7 HAtT7 hbel7 hR8; refine (HCM.out _ hcapb _ _ _ _ HAb9.out (fun _ => ⟨_, _, rfl, hB9⟩)).mono ?_; rintro e wA ⟨⟨gm, om, cm, rfl, hgm, hBm⟩, hbA2⟩; have hRA := hR9.below hbA2 hR9.lt; have hHA := hH9.below hbA2 hs9; have HQA := Hh (HQ9.out.below hbA2 lr); have HAtTA := Hh (HAtT9.out.below hbA2 lr); have hbelA := hbel9.trans (hbA2.mono hbel9.size); have hsA := hHA.lt; have hgml := hBm.lt (ne_nil HCL.out hz0); have hbA3 := (Below.refl wA.heap.size wA).alloc lr (.cells #[.slice none 0 0, .slice none 0 0] 85); clear hbA2 hR9 hH9 HAb9 HQ9 HAtT9 hbel9 hB9 hbA; go_wp2_with (refine wpList_store_all rfl 85 (.tmp 23) (.tmp 120) rfl wA.heap.size #[.slice none 0 0, .slice none 0 0] rfl rfl 85 #[.slice none 0 0, .slice none 0 0] (Blk.new wA _ _) (by rw [info_book]; rfl) rfl (by simp [Value.oneCell']) ?_; intro wB hBB hOB; have hbB := hOB.below hbA3 lr; have hRB := hRA.below hbB hRA.lt; have hHB := hHA.below hbB hsA; have HQB := Hh (HQA.out.below hbB lr); have HAtTB := Hh (HAtTA.out.below hbB lr); have hBmB := hBm.below hbB hgml; have hbelB := hbelA.trans (hbB.mono hbelA.size); have hsB := hHB.lt; clear hBB hOB hbB hRA hHA HQA HAtTA hbelA hBm)
 refine (HSA.out _ _ _ _ _ HQB.out (fun _ => ⟨_, _, rfl, hBmB⟩)).mono ?_; rintro e wC ⟨rfl, nC, rfl⟩; have hRC : Blk (wB.drewN nC) w.heap.size 24 #[.int .u8 0, .string ⟨#[]⟩, .int .u8 0, .int .u8 0, .string ⟨#[]⟩, .int .u8 0] := hRB.below (below_drewN (Below.refl wB.heap.size wB) nC) hRB.lt; have hHC : Blk (wB.drewN nC) w1.heap.size 24 cs := hHB.below (below_drewN (Below.refl wB.heap.size wB) nC) hsB; have HAtTC : Hid (At (wB.drewN nC) (some ⟨gt, 0, none⟩) TX) := Hh (HAtTB.out.below (below_drewN (Below.refl wB.heap.size wB) nC) lr); have hbelC := below_drewN hbelB nC; have hsC := hHC.lt; generalize wB.drewN nC = wC at *; clear hRB hHB HQB HAtTB hBmB hbelB hsB
 rcases Bool.eq_false_or_eq_true oc with hoct | hocf
 rotate_left
 ·
  rw [hocf]; go_wp2_with (first | (refine wpList_store_all rfl 24 (.tmp 4) (.tmp 127) rfl w.heap.size #[.int .u8 0, .string ⟨#[]⟩, .int .u8 0, .int .u8 0, .string ⟨#[]⟩, .int .u8 0] rfl rfl 24 #[.int .u8 0, .string ⟨#[]⟩, .int .u8 0, .int .u8 0, .string ⟨#[]⟩, .int .u8 0] hRC (by first | (rw [info_head]; rfl) | rw [info_head]) rfl (by simp [Value.oneCell']) ?_; intro wD hRD hOD) | (refine bodyPost_ret (results_cell4 rfl _ _ w.heap.size 24 _ _ rfl hRD Tryz.underlying24 rfl (by first | (rw [info_head]; rfl) | rw [info_head])) rfl ?_; rw [hocf]; exact RestOut.code rfl (hOD.below hbelC lr)))
 ·
  rw [hoct]; have e8 : (N : Int) / 8 = (kl : Int) := by have := HKLL.out; omega
  have hbi := HBI.out; have ew0 : IntKind.i64.wrap (x0 : Int) = (x0 : Int) := IntWalk.i64_in _ (by omega); have ew1 : IntKind.i64.wrap (x1 : Int) = (x1 : Int) := IntWalk.i64_in _ (by omega); have ew2 : IntKind.i64.wrap (256 * (x0 : Int)) = 256 * (x0 : Int) := IntWalk.i64_in _ (by omega); have ew3 : IntKind.i64.wrap (256 * (x0 : Int) + (x1 : Int)) = (N : Int) := by rw [IntWalk.i64_in _ (by omega)]; omega
  have hq1 : (1 : Int) < (q : Int) := by omega
  have hq0i : (0 : Int) < (q : Int) := by omega
  have hq1n : 1 < q := by omega
  have hq0n : 0 < q := by omega
  clear hbi; go_wp2_with fail
  refine wp_region_tree (.q 0 (.q 1 (.q 2 (.q 3 (.q 4 (.q 5 (.q 6 (.q 7 (.q 8 (.q 9 (.q 10 (.done)))))))))))) (fun W => At W (some ⟨gt, 0, none⟩) TX) rfl (by kernel_rfl) (fun _ _ d _ _ h => by cases d <;> exact h) ?_; have hwd : At wC.drew (some ⟨gt, 0, none⟩) TX := HAtTC.out; have hbd : Below w.heap.size w wC.drew := below_drewN hbelC 1; have hRd : Blk wC.drew w.heap.size 24 #[.int .u8 0, .string ⟨#[]⟩, .int .u8 0, .int .u8 0, .string ⟨#[]⟩, .int .u8 0] := hRC; have hHd : Blk wC.drew w1.heap.size 24 cs := hHC; have hsd : w1.heap.size < wC.drew.heap.size := hsC
  change wpT _ _ _ _ _ _ wC.drew
  refine t_q rfl rfl hwd _ (fun W hW => by (go_simp; rfl)) ?_; go_simp
  refine t_q rfl rfl hwd _ (fun W hW => by (go_simp; rfl)) ?_; go_simp
  refine t_q rfl rfl hwd (.int .u8 (x0 : Int)) (fun W hW => by (have hc := (HTC.out W gt hW).1; go_simp)) ?_; go_simp
  iterate 4 (refine t_q rfl rfl hwd _ (fun W hW => by (go_simp; rfl)) ?_; go_simp)
  refine t_q rfl rfl hwd (.int .u8 (x1 : Int)) (fun W hW => by (have hc := (HTC.out W gt hW).2; go_simp)) ?_; go_simp
  iterate 3 (refine t_q rfl rfl hwd _ (fun W hW => by (go_simp; rfl)) ?_; go_simp)
  refine t_done ?_; clear hHC hRC hbelC hsC HAtTC; have HWD := Hh hwd; clear hwd; generalize wC.drew = wD at *; have hcA := (HCV.out _ _ hHd).2; have hcV := (HCV.out _ _ hHd).1
  by_cases e9 : ((N : Int) % 8 != 0) = true
  ·
   go_wp2_with (first | (refine wpList_store_all rfl 24 (.tmp 4) (.tmp 163) rfl w.heap.size #[.int .u8 0, .string ⟨#[]⟩, .int .u8 0, .int .u8 0, .string ⟨#[]⟩, .int .u8 0] rfl rfl 24 #[.int .u8 0, .string ⟨#[]⟩, .int .u8 0, .int .u8 0, .string ⟨#[]⟩, .int .u8 0] hRd (by first | (rw [info_head]; rfl) | rw [info_head]) rfl (by simp [Value.oneCell']) ?_; intro w8 hR8 hO8) | (refine bodyPost_ret (results_cell4 rfl _ _ w.heap.size 24 _ _ rfl hR8 Tryz.underlying24 rfl (by first | (rw [info_head]; rfl) | rw [info_head])) rfl ?_; rw [hoct]; exact RestOut.form (fun h _ _ => absurd e9 (by rw [h]; exact Bool.false_ne_true)) rfl (hO8.below hbd lr)))
  have e9 : ((N : Int) % 8 != 0) = false := by simpa using e9
  cases hfit : fitsW al kl with
  | false =>
   rw [hfit] at HFI; go_wp2_with fail
   refine (HFI.out _).mono ?_; rintro e w8 ⟨rfl, rfl⟩; go_wp2_with (first | (refine wpList_store_all rfl 24 (.tmp 4) (.tmp 163) rfl w.heap.size #[.int .u8 0, .string ⟨#[]⟩, .int .u8 0, .int .u8 0, .string ⟨#[]⟩, .int .u8 0] rfl rfl 24 #[.int .u8 0, .string ⟨#[]⟩, .int .u8 0, .int .u8 0, .string ⟨#[]⟩, .int .u8 0] hRd (by first | (rw [info_head]; rfl) | rw [info_head]) rfl (by simp [Value.oneCell']) ?_; intro w8 hR8 hO8) | (refine bodyPost_ret (results_cell4 rfl _ _ w.heap.size 24 _ _ rfl hR8 Tryz.underlying24 rfl (by first | (rw [info_head]; rfl) | rw [info_head])) rfl ?_; rw [hoct]; exact RestOut.form (fun _ h _ => absurd (hfit.symm.trans h) Bool.false_ne_true) rfl (hO8.below hbd lr)))
  | true =>
   rw [hfit] at HFI; have hkl3 := fits_len hfit; have HFT := Hh hfit; clear hfit; have ek : IntKind.i64.wrap (2 + (kl : Int)) = 2 + (kl : Int) := IntWalk.i64_in _ (by omega); have ek2 : IntKind.i64.wrap (2 + (kl : Int) + (fl : Int)) = 2 + (kl : Int) + (fl : Int) := IntWalk.i64_in _ (by omega); go_wp2_with fail
   refine (HFI.out _).mono ?_; rintro e w8 ⟨rfl, rfl⟩
   by_cases hlen : q = 2 + kl + fl
   ·
    have t7 : ((q : Int) != (2 : Int) + (kl : Int) + (fl : Int)) = false := by rw [bne_eq_false_iff_eq]; omega
    go_wp2_with fail
    refine (HFL.out _).mono ?_; rintro e w9 ⟨rfl, rfl⟩; go_wp2_with fail
    have hk0 : (2 : Int) ≤ 2 + (kl : Int) := by omega
    have ek0 : IntKind.i64.wrap (kl : Int) = (kl : Int) := IntWalk.i64_in _ (by omega); have hkc : 2 + kl ≤ ct := by omega
    have hkq : (2 : Int) + (kl : Int) ≤ (ct : Int) := by omega
    have hc2 : ¬ ct = 2 := by omega
    refine wp_region_tree (.q 0 (.q 1 (.q 2 (.q 3 (.q 4 (.q 5 (.e [6] fun _ => .q 7 (.q 8 (.q 9 (.done)))))))))) (fun W => Blk W w1.heap.size 24 cs) rfl (by kernel_rfl) (fun _ _ d _ _ h => by cases d <;> exact h) ?_; have hS : Blk wD.drew w1.heap.size 24 cs := hHd; have hbE : Below w.heap.size w wD.drew := below_drewN hbd 1; have hRE : Blk wD.drew w.heap.size 24 #[.int .u8 0, .string ⟨#[]⟩, .int .u8 0, .int .u8 0, .string ⟨#[]⟩, .int .u8 0] := hRd; have hsE : w1.heap.size < wD.drew.heap.size := hsd; have hTE : Bs wD.drew gt 2 KX := HTS.out wD.drew gt HWD.out
    change wpT _ _ _ _ _ _ wD.drew
    clear hHd hbd hRd HWD hcA hcV hsd; generalize wD.drew = wE at *; refine t_load_row rfl rfl 24 (.tmp 8) rfl w1.heap.size rfl 24 cs hS (fun W hW => hW) _ Tryz.underlying24 rfl (by rw [info_head, HS6.out]) ?_; go_simp
    iterate 4 (refine t_q rfl rfl hS _ (fun W hW => by (go_simp; rfl)) ?_; go_simp)
    refine t_q rfl rfl hS (.slice (some ⟨gt, 2, none⟩) kl (ct - 2)) (fun W hW => by (go_simp; omega)) ?_; go_simp
    refine t_e rfl rfl fun K hK => ?_; refine op_store_row 24 (.tmp 4) (.tmp 164) rfl w.heap.size cs rfl rfl 24 #[.int .u8 0, .string ⟨#[]⟩, .int .u8 0, .int .u8 0, .string ⟨#[]⟩, .int .u8 0] hRE (by rw [info_head, HS6.out]) (by rw [HS6.out]; rfl) HCO.out fun wL hBL hOL => ?_; have hSL : Blk wL w1.heap.size 24 cs := hS.only hOL (by omega); have hTL : Bs wL gt 2 KX := hTE.only hOL (by omega); refine hK _ _ hSL ?_; clear hK K hS hTE hRE; go_simp
    iterate 3 (refine t_q rfl rfl hSL _ (fun W hW => by (go_simp; rfl)) ?_; go_simp)
    refine t_done ?_; go_wp2_with (first | (refine bodyPost_ret (results_cell4 rfl _ _ w.heap.size 24 cs _ rfl hBL Tryz.underlying24 rfl (by rw [info_head, HS6.out])) rfl ?_; rw [hoct]; exact RestOut.good e9 HFT.out hlen gt (ct - 2) rfl (by omega) hTL (hOL.below hbE lr)))
   ·
    have t7 : ((q : Int) != (2 : Int) + (kl : Int) + (fl : Int)) = true := by rw [bne_iff_ne]; omega
    go_wp2_with fail
    refine (HFL.out _).mono ?_; rintro e w9 ⟨rfl, rfl⟩; go_wp2_with (first | (refine wpList_store_all rfl 24 (.tmp 4) (.tmp 163) rfl w.heap.size #[.int .u8 0, .string ⟨#[]⟩, .int .u8 0, .int .u8 0, .string ⟨#[]⟩, .int .u8 0] rfl rfl 24 #[.int .u8 0, .string ⟨#[]⟩, .int .u8 0, .int .u8 0, .string ⟨#[]⟩, .int .u8 0] hRd (by first | (rw [info_head]; rfl) | rw [info_head]) rfl (by simp [Value.oneCell']) ?_; intro w8 hR8 hO8) | (refine bodyPost_ret (results_cell4 rfl _ _ w.heap.size 24 _ _ rfl hR8 Tryz.underlying24 rfl (by first | (rw [info_head]; rfl) | rw [info_head])) rfl ?_; rw [hoct]; exact RestOut.form (fun _ _ h => absurd h hlen) rfl (hO8.below hbd lr)))
end Go.Proofs.YtfkjkkjimdilcaaGreatDoor
