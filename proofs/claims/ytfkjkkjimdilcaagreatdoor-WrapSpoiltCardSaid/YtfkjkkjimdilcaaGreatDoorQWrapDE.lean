/- Loads of whole rows by an operation that is guarded. The contract of wrap.Wrap, where all is right. The contract of wrap.opened. -/
import Derived.Test.YtfkjkkjimdilcaaGreatDoorQKit
import Derived.Test.YtfkjkkjimdilcaaGreatDoorQWrapAB
import Derived.Test.YtfkjkkjimdilcaaGreatDoorQHeadM
set_option maxHeartbeats 8000000
set_option maxRecDepth 100000
/- Loads of whole rows by an operation that is guarded. -/
namespace Go.Proofs.YtfkjkkjimdilcaaGreatDoor
open Go Go.RowKit Pr

section
variable {P : Program} {ops : Array Oper} {rest : List Oper} {o : Oper} {a : Act} {w : World} {Q : Exit → Act → World → Prop}
theorem wpList_wanted (hw : Region.wanted o (yielded ops a.tmps) = true) (h : ∀ K : Act → World → Prop, (∀ a w, wpList P ops Q rest a w → K a w) → o.wp P a w K Q) : wpList P ops Q (o :: rest) a w :=
 wpList_step fun K hK => by rw [if_pos hw]; exact h K hK
theorem wpList_load_rowG (hw : Region.wanted o (yielded ops a.tmps) = true) (ty : TypeId) (x : Operand) (ho : o.op = .load ty x)
    (g : Nat) (hx : a.eval x = .pointer (some ⟨g, 0, none⟩)) (t : TypeId) (cs : Array Value) (hg : Blk w g t cs) (d : TypeDesc)
    (hu : P.underlying ty = some d) (hd : (match d with | .struct _ | .array _ _ => true | _ => false) = true) (hi : (P.info? ty).map (·.size) = some cs.size)
    (h : wpList P ops Q rest (a.put o.dst (.agg cs)) w) : wpList P ops Q (o :: rest) a w :=
 wpList_wanted hw fun _ hK => wp_load_row ty x ho g hx t cs (0, 0) d hg hu hd hi (hK _ _ h)
end

def textW (key fill : List Nat) : List Nat := [8 * key.length / 256, 8 * key.length % 256] ++ key ++ fill
def lenW (kind T : Nat) : Nat := 16 + 2 * T + 2 * sizeN kind
def codeW (h : Hd) (wk key fill : List Nat) : List Nat := cmacN (kindV h.ver.toNat) (madeN (kindV h.ver.toNat) wk 1) (sN (str (printL h (lenW (kindV h.ver.toNat) (textW key fill).length))) ++ textW key fill)
def encW (h : Hd) (wk key fill : List Nat) : List Nat := chN (kindV h.ver.toNat) (madeN (kindV h.ver.toNat) wk 0) (codeW h wk key fill) (textW key fill) false
def wrapS (h : Hd) (wk key fill : List Nat) : List UInt8 := printL h (lenW (kindV h.ver.toNat) (textW key fill).length) ++ hexL (encW h wk key fill) ++ hexL (codeW h wk key fill)
theorem textW_len (key fill : List Nat) : (textW key fill).length = 2 + key.length + fill.length := by simp [textW]; omega
theorem textW_byt {key fill : List Nat} (gk : Byt key) (gf : Byt fill) (hl : key.length ≤ 1000) : Byt (textW key fill) := fun c hc => by
 unfold textW at hc
 simp only [List.mem_append, List.mem_cons, List.not_mem_nil, or_false] at hc
 rcases hc with ((rfl | rfl) | hc) | hc
 ·
  omega
 ·
  omega
 ·
  exact gk c hc
 ·
  exact gf c hc
theorem fits_len {alg kl : Nat} (h : fitsW alg kl = true) : kl = 16 ∨ kl = 24 ∨ kl = 32 := by
 unfold fitsW at h
 simp at h
 omega
/-- what is filled up is whole blocks -/
theorem fill_mod {v kl fl : Nat} (hv : kindV v ≠ 0) (hf : fillW v (kl : Int) = (fl : Int)) : (2 + kl + fl) % sizeN (kindV v) = 0 ∧ fl < sizeN (kindV v) := by
 unfold fillW at hf
 rw [if_neg (by omega), Int.toNat_natCast] at hf; have hz : sizeN (kindV v) = 8 ∨ sizeN (kindV v) = 16 := by unfold sizeN; split <;> omega
 rcases hz with h | h <;> rw [h] at hf ⊢ <;> omega

theorem printL_size (h : Hd) (hu : h.usage.size = 2) (hs : h.serial.size = 2) (n : Nat) : (printL h n).length = 16 := by
 unfold printL dig4
 simp [hu, hs]

theorem wrap_ok (h : Hd) (hr : rightEr h = .ok) (wk : List Nat) (n : Nat) (hk : KeyOk (kindV h.ver.toNat) wk) (hn : wk.length = n) (key fill : List Nat) (kl fl : Nat) (hkl : key.length = kl) (hfl : fill.length = fl) (gk : Byt key) (gf : Byt fill)
    (hfits : fitsW h.alg.toNat kl = true) (hfill : fillW h.ver.toNat (kl : Int) = (fl : Int)) (hf0 : 0 < fl) (A0 A1 A2 : Option Addr) (c0 c1 c2 : Nat) (w : World) (hA0 : At w A0 wk) (hA1 : At w A1 key) (hA2 : At w A2 fill) (hT : ∀ W, Below w.heap.size w W → TabOk W) :
    Calls Tryz.prog 14 #[.slice A0 n c0, .agg h.cells, .slice A1 kl c1, .slice A2 fl c2] w fun e w' => e = .returned (.tuple #[.string (str (wrapS h wk key fill)), .nilIface]) ∧ Below w.heap.size w w' := by
 obtain ⟨-, -, -, -, hu2, hs2⟩ := right_ok hr; have hkl3 := fits_len hfits; have hkd := hk.kind; have hfm := fill_mod (by omega) hfill; have hz16 := size_le (kindV h.ver.toNat); have hz0 := size_pos (kindV h.ver.toNat); have hTl := textW_len key fill; rw [hkl, hfl] at hTl; have hTb := textW_byt gk gf (by omega); have hTe : textW key fill = [8 * kl / 256, 8 * kl % 256] ++ key ++ fill := by unfold textW; rw [hkl]
 have k0 := madeN_key hk (p := 0) (by omega); have k1 := madeN_key hk (p := 1) (by omega); have HRI := Hh (fun W => right_any h (by omega) (by omega) W); rw [hr] at HRI; have HCI := Hh (fun W hA => ciphers_ok h.ver.toNat (kindV h.ver.toNat) rfl wk hk n hn A0 c0 W hA); have HFI := Hh (fun W => fitsW_any h.alg.toNat kl W); rw [hfits] at HFI; have HFL := Hh (fun W => fill_any h (kl : Int) (by omega) W); rw [hfill] at HFL; have HSO := Hh (fun W => sizeOf_any h.ver.toNat W); obtain ⟨N, hN⟩ : ∃ N, lenW (kindV h.ver.toNat) (textW key fill).length = N := ⟨_, rfl⟩; have hN2 : 16 + 2 * (2 + kl + fl) + 2 * sizeN (kindV h.ver.toNat) = N := by rw [← hN, hTl]; rfl
 have HPR := Hh (fun W hT => print_ok h hr N (by omega) (by omega) W hT); have hPl := printL_size h hu2 hs2 N; have hcw : codeW h wk key fill = cmacN (kindV h.ver.toNat) (madeN (kindV h.ver.toNat) wk 1) (sN (str (printL h N)) ++ textW key fill) := by unfold codeW; rw [hN]
 have hew : encW h wk key fill = chN (kindV h.ver.toNat) (madeN (kindV h.ver.toNat) wk 0) (codeW h wk key fill) (textW key fill) false := rfl; have hws : wrapS h wk key fill = printL h N ++ hexL (encW h wk key fill) ++ hexL (codeW h wk key fill) := by unfold wrapS; rw [hN]
 have hPS : (str (printL h N)).size = 16 := by rw [str_size, hPl]
 have hml : (sN (str (printL h N)) ++ textW key fill).length = (str (printL h N)).size + (2 + kl + fl) := by rw [List.length_append, sN_len, hTl]
 have hmb : Byt (sN (str (printL h N)) ++ textW key fill) := fun c hc => by
  rcases List.mem_append.1 hc with hc | hc
  ·
   exact sN_lt _ c hc
  ·
   exact hTb c hc
 have HCM := Hh (fun g A ct W hC hT => cmac_any g (kindV h.ver.toNat) (madeN (kindV h.ver.toNat) wk 1) k1 (.pointer none) (sN (str (printL h N)) ++ textW key fill) _ hml (by omega) (by omega) hmb (sizeN (kindV h.ver.toNat)) (by omega) lr A ct W hC hT); have hco := cmacN_ok (kind := kindV h.ver.toNat) k1.1 hmb; rw [← hcw] at HCM hco; rw [List.take_of_length_le (by rw [hco.1]; exact Nat.le_refl _)] at HCM; have HCH := Hh (fun g A0 c0 A1 ct hct W hC hS hT => chained_any g (kindV h.ver.toNat) (madeN (kindV h.ver.toNat) wk 0) k0 (.pointer none) false (codeW h wk key fill) hco.1 hco.2 (textW key fill) (2 + kl + fl) hTl (by omega) (by omega) hfm.1 hTb A0 c0 A1 ct hct W hC hS hT); have hxo := chN_ok (kind := kindV h.ver.toNat) k0.1 hco.1 hco.2 hTb (by rw [hTl]; exact hfm.1) false; rw [← hew] at HCH hxo; rw [hws]; generalize codeW h wk key fill = CW at *; generalize encW h wk key fill = EW at *; have hHX := Hh (fun A cp W hA => hex_any EW hxo.2 (by rw [hxo.1, hTl]; omega) A cp W hA); have hHC := Hh (fun A cp W hA => hex_any CW hco.2 (by rw [hco.1]; omega) A cp W hA); have hel := hxo.1; rw [hTl] at hel; have hcl := hco.1; rw [hel] at hHX; rw [hcl] at hHC; generalize madeN (kindV h.ver.toNat) wk 0 = R0 at *; generalize madeN (kindV h.ver.toNat) wk 1 = R1 at *; obtain ⟨PS, hPSe⟩ : ∃ PS, str (printL h N) = PS := ⟨_, rfl⟩; have hfin : str (printL h N ++ hexL EW ++ hexL CW) = PS ++ str (hexL EW) ++ str (hexL CW) := by rw [← hPSe, str_add, str_add]
 rw [hPSe] at HPR hPS hml HCM; rw [hfin]; have hS1 : (str (hexL EW)).size ≤ 200 := by rw [str_size, hexL_len, hel]; omega
 have hS2 : (str (hexL CW)).size ≤ 200 := by rw [str_size, hexL_len, hcl]; omega
 rw [show (⟨(hexL EW).toArray⟩ : ByteArray) = str (hexL EW) from rfl] at hHX; rw [show (⟨(hexL CW).toArray⟩ : ByteArray) = str (hexL CW) from rfl] at hHC; clear hfin; generalize str (hexL EW) = S1 at *; generalize str (hexL CW) = S2 at *; have hPSl : PS.size ≤ 16 := by rw [hPS]; exact Nat.le_refl _
 generalize textW key fill = TX at *; generalize sizeN (kindV h.ver.toNat) = z at *; generalize kindV h.ver.toNat = kind at *; obtain ⟨T, hTT⟩ : ∃ T, 2 + kl + fl = T := ⟨_, rfl⟩; rw [hTT] at HCH hHX hml HCM hTl hel; have hT2 : 2 + kl + fl ≤ T := by omega
 have hT3 : T ≤ 2 + kl + fl := by omega
 have eN : (16 + 2 * (T : Int) + 2 * (z : Int)) = (N : Int) := by omega
 have HEN := Hh eN; clear eN hTT; have hsz6 : h.cells.size = 6 := rfl; have hcv : ∀ W, Blk W w.heap.size 24 h.cells → W.cell? ⟨w.heap.size, 0, none⟩ = some (.int .u8 (h.ver.toNat : Int)) ∧ W.cell? ⟨w.heap.size, 2, none⟩ = some (.int .u8 (h.alg.toNat : Int)) := fun W hW => ⟨hW.cell 0, hW.cell 2⟩; generalize h.cells = cs at *; generalize h.ver.toNat = v at *; generalize h.alg.toNat = al at *; have HA0 := Hh (fun W (hb : Below w.heap.size w W) => hA0.below hb lr); have HA1 := Hh (fun W (hb : Below w.heap.size w W) => hA1.below hb lr); have HA2 := Hh (fun W (hb : Below w.heap.size w W) => hA2.below hb lr); have HT := Hh hT; have HCV := Hh hcv; have HS6 := Hh hsz6; have HTE := Hh hTe; have HTB := Hh hTb; have HKL := Hh hkl; have HFLL := Hh hfl; have HTL := Hh hTl; have HEL := Hh hel; have HCL := Hh hcl; have HPS := Hh hPS; have HML := Hh hml; have HN2 := Hh hN2; have hN9 : N ≤ 9999 := by omega
 have hfl16 : fl ≤ 16 := by omega
 have hkl32 : kl ≤ 32 := by omega
 have hkl16 : 16 ≤ kl := by omega
 clear hA0 hA1 hA2 hT hcv hsz6 hTe hTb hkl hfl hTl hel hcl hPS hml hN2 hws hew hcw hxo hco k0 k1 hk hn hfits hfill hN hPl hPSe hr hfm hmb gk gf hu2 hs2 hkl3 hkd
 go_enter Tryz.func14, Tryz.ntmps14
 have hBa := Blk.new w 24 cs; have hba := (Below.refl w.heap.size w).alloc lr (.cells cs 24); have hsa : (w.alloc (.cells cs 24)).heap.size = w.heap.size + 1 := by simp
 go_wp2_with (refine wpList_load_row rfl 24 (.tmp 5) rfl w.heap.size rfl 24 cs (0,0) _ hBa Tryz.underlying24 rfl (by rw [info_head, HS6.out]) ?_)
 refine (HRI.out _).mono ?_; rintro e w1 ⟨⟨u, rfl, hu⟩, hb1⟩; obtain rfl : u = _ := hu; have hB1 := hBa.below hb1 (by omega); have hbel1 := hba.trans (hb1.mono (by omega)); have hs1 : w.heap.size < w1.heap.size := hB1.lt; have hcell1 := (HCV.out _ hB1).1; clear hb1 hBa hba hsa; go_wp2_with fail
 refine (HCI.out _ (HA0.out _ hbel1)).mono ?_; rintro e w2 ⟨⟨g1, g2, rfl, hC1, hC2⟩, hb2⟩; have hB2 := hB1.below hb2 hs1; have hbel2 := hbel1.trans (hb2.mono hbel1.size); have hcell2 := (HCV.out _ hB2).2; have HC1 := Hh hC1; clear hC1; have HC2 := Hh hC2; clear hC2; clear hb2 hB1 hbel1 hcell1; go_wp2_with fail
 refine (HFI.out _).mono ?_; rintro e w3 ⟨rfl, rfl⟩; go_wp2_with (refine wpList_load_rowG rfl 24 (.tmp 5) rfl w.heap.size rfl 24 cs hB2 _ Tryz.underlying24 rfl (by rw [info_head, HS6.out]) ?_)
 refine (HFL.out _).mono ?_; rintro e w3 ⟨rfl, hb3⟩; have hs2 := hB2.lt; have hB3 := hB2.below hb3 hs2; have hbel3 := hbel2.trans (hb3.mono hbel2.size); have HC1' := Hh (HC1.out.below hb3 lr); clear HC1; have HC2' := Hh (HC2.out.below hb3 lr); clear HC2; have hs3 := hB3.lt; clear hb3 hB2 hbel2 hcell2; obtain ⟨N8, hN8⟩ : ∃ N8, 8 * kl = N8 := ⟨_, rfl⟩; obtain ⟨hb, hhb⟩ : ∃ hb, N8 / 256 = hb := ⟨_, rfl⟩; obtain ⟨lb, hlb⟩ : ∃ lb, N8 % 256 = lb := ⟨_, rfl⟩; have e8 : IntKind.i64.wrap (8 * (kl : Int)) = (N8 : Int) := by rw [IntWalk.i64_in _ (by omega)]; omega
 have e9 : (N8 : Int) / 256 = (hb : Int) := by omega
 have e10 : (N8 : Int) % 256 = (lb : Int) := by omega
 have hN256 : N8 ≤ 256 := by omega
 have hhb1 : hb ≤ 1 := by omega
 have hTX : ([hb, lb] ++ key) ++ fill = TX := by rw [HTE.out, hN8, hhb, hlb]
 have HTX := Hh hTX; clear hTX hN8 hhb hlb HTE; have hbA := (Below.refl w3.heap.size w3).alloc lr (.cells #[.int .u8 (hb : Int), .int .u8 (lb : Int)] 5); have hBlA : Blk (w3.alloc (.cells #[.int .u8 (hb : Int), .int .u8 (lb : Int)] 5)) w3.heap.size 5 (byteCells [hb, lb]) := Blk.new w3 _ _; have hownA : OwnN 5 .u8 (w3.alloc (.cells #[.int .u8 (hb : Int), .int .u8 (lb : Int)] 5)) w3.heap.size (.slice (some ⟨w3.heap.size, 0, none⟩) 2 2) [hb, lb] := Own.ofBlk hBlA lr rfl (by omega); have hAk := (HA1.out _ (hbel3.trans (hbA.mono hbel3.size))) (ne_nil HKL.out (by omega)); have HAk := Hh hAk; have hsA : w3.heap.size ≤ (w3.alloc (.cells #[.int .u8 (hb : Int), .int .u8 (lb : Int)] 5)).heap.size := by simp
 have hl1 : ([hb, lb] : List Nat).length + kl ≤ 1000000000 := by show 2 + kl ≤ _; omega
 have hl2 : ([hb, lb] ++ key).length + fl ≤ 1000000000 := by rw [List.length_append, HKL.out]; show 2 + kl + fl ≤ _; omega
 clear hAk hBlA
 go_wp2_with (first
  | (at_builtin; refine wpList_append_nums rfl (.tmp 62) (.tmp 63) 22 rfl .u8 5 1 Tryz.underlying22 info_byte w3.heap.size w3 _ [hb, lb] rfl hownA hbA hsA _ kl c1 key rfl HKL.out HAk.out hl1 (by omega) ?_; intro v4 w4 hown4 hbel4 hsz4)
  | (at_builtin; refine wpList_append_nums rfl (.tmp 65) (.tmp 66) 22 rfl .u8 5 1 Tryz.underlying22 info_byte w3.heap.size w3 _ ([hb, lb] ++ key) rfl hown4 hbel4 hbel4.size _ fl c2 fill rfl HFLL.out ((HA2.out _ (hbel3.trans (hbel4.mono hbel3.size))) (ne_nil HFLL.out hf0)) hl2 (by omega) ?_; intro v5 w5 hown5 hbel5 hsz5; have hcell5 := (HCV.out w5 (hB3.below hbel5 hs3)).1))
 rw [HTX.out] at hown5; obtain ⟨g5, cap5, rfl, hAt5, hcap5, hg5⟩ := Own.at_ (OwnN.bytes hown5) HTL.out (by omega); have HAt5 := Hh hAt5; clear hAt5 hown5 hown4; have hB5 := hB3.below hbel5 hs3; have hs5 := hB5.lt; have hbelw5 := hbel3.trans (hbel5.mono hbel3.size); have HC1 := Hh (HC1'.out.below hbel5 lr); have HC2 := Hh (HC2'.out.below hbel5 lr); clear HC1' HC2' hbel4 hbel5 hsz4 hsz5 hownA hbA hB3 hbel3; refine (HSO.out _).mono ?_; rintro e w6 ⟨rfl, rfl⟩; clear hcell5 e8 e9 e10; go_wp2_with (refine wpList_load_row rfl 24 (.tmp 5) rfl w.heap.size rfl 24 cs (0,0) _ hB5 Tryz.underlying24 rfl (by rw [info_head, HS6.out]) ?_)
 rw [HEN.out]; refine (HPR.out _ (fun W hW => HT.out W (hbelw5.trans (hW.mono hbelw5.size)))).mono ?_; rintro e w6 ⟨rfl, hb6⟩; have hbelw6 := hbelw5.trans (hb6.mono hbelw5.size); have HC1' := Hh (HC1.out.below hb6 lr); have HC2' := Hh (HC2.out.below hb6 lr); have HAt6 := Hh (HAt5.out.below hb6 lr); clear HC1 HC2 HAt5 hB5 hs5 hb6 hbelw5; have hTX0 := ne_nil HTL.out (by omega); have hmx : PS.size + T ≤ 1000000000 := by rw [HPS.out]; omega
 go_wp2_with (first
  | (refine wpList_to_room rfl 9 22 5 (.tmp 88) rfl PS rfl Tryz.underlying9 Tryz.underlying22 Tryz.underlying5 ?_; intro cap7 w7 hb7 hR7)
  | (at_builtin; refine wpList_append_conv rfl (.tmp 89) (.tmp 90) 22 rfl 5 1 Tryz.underlying22 info_byte (by omega) w6.heap.size w6.heap.size PS.size cap7 (sN PS) rfl hR7 hb7.size _ T cap5 TX rfl HTL.out ((HAt6.out.below hb7 lr) hTX0) hmx ?_; intro g8 cap8 w8 hg8 hB8 hb8))
 have hb68 := hb7.trans hb8; have HC2 := Hh (HC2'.out.below hb68 lr); have HC1 := Hh (HC1'.out.below hb68 lr); have HAt8 := Hh (HAt6.out.below hb68 lr); have hbelw8 := hbelw6.trans (hb68.mono hbelw6.size); have HB8 := Hh hB8; clear HC1' HC2' HAt6 hb68 hb7 hb8 hR7 hB8 hbelw6; refine (HCM.out _ _ _ _ HC2.out (fun _ => ⟨_, _, rfl, HB8.out⟩)).mono ?_; rintro e w9 ⟨⟨v9, rfl, hv9⟩, hb9⟩; obtain ⟨g9, c9, rfl, hAt9, hcap9, hg9⟩ := hv9.at_ HCL.out hz0; have HC1' := Hh (HC1.out.below hb9 lr); have HAt9' := Hh (HAt8.out.below hb9 lr); have HAt9 := Hh hAt9; have hbelw9 := hbelw8.trans (hb9.mono hbelw8.size); clear hv9 hAt9 HC1 HC2 HAt8 HB8 hb9 hbelw8; go_wp2_with fail
 refine (HCH.out _ _ _ _ _ hcap5 _ HC1'.out HAt9.out HAt9'.out).mono ?_; rintro e wA ⟨⟨vA, rfl, hvA⟩, hbA⟩; obtain ⟨gA, cA, rfl, hAtA, hcapA, hgA⟩ := hvA.at_ HEL.out (by omega); have HAtA := Hh hAtA; have HAt9A := Hh (HAt9.out.below hbA lr); have hbelwA := hbelw9.trans (hbA.mono hbelw9.size); clear hvA hAtA hbA HAt9 HAt9' HC1' hbelw9; go_wp2_with fail
 refine (hHX.out _ _ _ HAtA.out).mono ?_; rintro e wB ⟨rfl, hbB⟩; have hs12 : (PS ++ S1).size ≤ 216 := by rw [ByteArray.size_append]; omega
 have HAtB := Hh (HAt9A.out.below hbB lr); have hbelwB := hbelwA.trans (hbB.mono hbelwA.size); clear HAtA HAt9A hbB hbelwA; go_wp2_with fail
 refine (hHC.out _ _ _ HAtB.out).mono ?_; rintro e wC ⟨rfl, hbC⟩; have hbelwC := hbelwB.trans (hbC.mono hbelwB.size); go_wp2
 go_ret2
 exact ⟨rfl, hbelwC⟩

/-- what is deciphered, and whether its code is right -/
def openT (kind : Nat) (R0 b : List Nat) (q : Nat) : List Nat := chN kind R0 (b.drop q) (b.take q) true
def openC (kind : Nat) (R0 R1 b : List Nat) (P : ByteArray) (q : Nat) : Bool := decide (cmacN kind R1 (sN P ++ openT kind R0 b q) = b.drop q)
theorem openT_ok {kind : Nat} {R0 b : List Nat} (hk : Byt R0) {q : Nat} (hb : b.length = q + sizeN kind) (gb : Byt b) (hm : q % sizeN kind = 0) : (openT kind R0 b q).length = q ∧ Byt (openT kind R0 b q) := by
 have h1 : (b.drop q).length = sizeN kind := by rw [List.length_drop, hb]; omega
 have h2 : (b.take q).length = q := by rw [List.length_take, hb]; omega
 have := chN_ok hk h1 (fun c hc => gb c (List.mem_of_mem_drop hc)) (fun c hc => gb c (List.mem_of_mem_take hc)) (by rw [h2]; exact hm) true; rw [h2] at this; exact this

theorem opened_any (g1 g2 kind : Nat) (R0 R1 : List Nat) (k0 : KeyOk kind R0) (k1 : KeyOk kind R1) (P : ByteArray) (hP : P.size ≤ 100) (b : List Nat) (q z : Nat) (hz : sizeN kind = z) (hb : b.length = q + z) (hq0 : 0 < q) (hq : q ≤ 700) (hqm : q % z = 0) (gb : Byt b) (A : Option Addr) (cb : Nat) (hcb : q + z ≤ cb) (w : World)
    (hC1 : CipherAt w g1 kind R0 (.pointer none)) (hC2 : CipherAt w g2 kind R1 (.pointer none)) (hA : At w A b) :
    Calls Tryz.prog 40 #[.pointer (some ⟨g1, 0, none⟩), .pointer (some ⟨g2, 0, none⟩), .string P, .slice A (q + z) cb] w fun e w' =>
     (if openC kind R0 R1 b P q then ∃ v, e = .returned (.tuple #[v, .nilIface]) ∧ Own w' w.heap.size v (openT kind R0 b q) else e = .returned (.tuple #[.slice none 0 0, .iface 64 (.int .i64 4)])) ∧ Below w.heap.size w w' := by
 have hz0 := size_pos kind; have hz16 := size_le kind; rw [hz] at hz0 hz16; obtain ⟨bb, bo, rfl, hB⟩ := hA (ne_nil hb (by omega)); have hsl : (b.drop q).length = z := by rw [List.length_drop, hb]; omega
 have htl : (b.take q).length = q := by rw [List.length_take, hb]; omega
 have hsb : Byt (b.drop q) := fun c hc => gb c (List.mem_of_mem_drop hc); have htb : Byt (b.take q) := fun c hc => gb c (List.mem_of_mem_take hc); have HSZ := Hh (fun W hC => size_any kind g1 (by rcases k0.kind with h | h <;> omega) R0 (.pointer none) W hC); rw [hz] at HSZ; have hot := openT_ok (kind := kind) k0.1 (b := b) (q := q) (by rw [hz]; exact hb) gb (by rw [hz]; exact hqm); have HCH := Hh (fun A0 c0 A1 ct hct W hC hS hT => chained_any g1 kind R0 k0 (.pointer none) true (b.drop q) (by rw [hz]; exact hsl) hsb (b.take q) q htl (by omega) hq0 (by rw [hz]; exact hqm) htb A0 c0 A1 ct hct W hC hS hT); rw [hz] at HCH; have hoe : openT kind R0 b q = chN kind R0 (b.drop q) (b.take q) true := rfl; rw [← hoe] at HCH
 have hmb : Byt (sN P ++ openT kind R0 b q) := fun c hc => by
  rcases List.mem_append.1 hc with hc | hc
  ·
   exact sN_lt _ c hc
  ·
   exact hot.2 c hc
 have hml : (sN P ++ openT kind R0 b q).length = P.size + q := by rw [List.length_append, sN_len, hot.1]
 have HCM := Hh (fun A ct W hC hT => cmac_any g2 kind R1 k1 (.pointer none) (sN P ++ openT kind R0 b q) _ hml (by omega) (by omega) hmb (sizeN kind) (size_pos kind) lr A ct W hC hT); have hco := cmacN_ok (kind := kind) k1.1 hmb; rw [List.take_of_length_le (by rw [hco.1]; exact Nat.le_refl _)] at HCM; rw [hz] at HCM hco; have hoc : openC kind R0 R1 b P q = decide (cmacN kind R1 (sN P ++ openT kind R0 b q) = b.drop q) := rfl; rw [hoc]; generalize cmacN kind R1 (sN P ++ openT kind R0 b q) = CW at *; have HEQ := Hh (fun A B ca cb W hA hB => equal_any CW (b.drop q) A B ca cb hco.2 hsb (by rw [hco.1]; omega) (by rw [hsl]; omega) W hA hB); rw [hco.1, hsl] at HEQ; generalize openT kind R0 b q = TX at *
 have hBW : ∀ W, Below w.heap.size w W → At W (some ⟨bb, bo + q, none⟩) (b.drop q) ∧ At W (some ⟨bb, bo, none⟩) (b.take q) := fun W hW => by
  have hBB := hB.below hW (hB.lt (ne_nil hb (by omega))); have h1 := hBB.sub q z; rw [List.take_of_length_le (by rw [hsl]; exact Nat.le_refl _)] at h1; have h2 := hBB.sub 0 q; rw [Nat.add_zero, List.drop_zero] at h2; exact ⟨fun _ => ⟨_, _, rfl, h1⟩, fun _ => ⟨_, _, rfl, h2⟩⟩
 have HBW := Hh hBW; clear hBW; have HC1 := Hh (fun W (hb : Below w.heap.size w W) => hC1.below hb lr); have HC2 := Hh (fun W (hb : Below w.heap.size w W) => hC2.below hb lr); have HC10 := Hh hC1; have HTL := Hh hot.1; have HCL := Hh hco.1; have e1 : IntKind.i64.wrap ((q : Int) + (z : Int) - (z : Int)) = (q : Int) := by rw [IntWalk.i64_in _ (by omega)]; omega
 obtain ⟨D, hD⟩ : ∃ D, decide (CW = b.drop q) = D := ⟨_, rfl⟩; rw [hD] at HEQ ⊢; have hmx : P.size + q ≤ 1000000000 := by omega
 have hq00 : TX ≠ [] := ne_nil hot.1 hq0; have HQ00 := Hh hq00; clear hq00 hD hoc hco hml hmb hoe hot hsl htl hsb htb hB hC1 hC2 hA hz hqm hb k0 k1 gb
 go_enter Tryz.func40, Tryz.ntmps40
 go_wp2_with fail
 refine (HSZ.out _ HC10.out).mono ?_; rintro e w1 ⟨rfl, rfl⟩; go_wp2_with fail
 refine wp_region_tree (.q 0 (.q 1 (.q 2 (.q 3 (.q 4 (.q 5 (.q 6 (.e [7] fun _ => .q 8 (.q 9 (.q 10 (.q 11 (.q 12 (.done))))))))))))) (fun W => Below w.heap.size w W) rfl (by kernel_rfl) (fun _ _ d _ _ h => by cases d <;> exact h) ?_; have hw : Below w.heap.size w w.drew := below_drewN (Below.refl _ _) 1; have hqz : (q : Int) ≤ (q : Int) + (z : Int) := by omega
 have hqc : q ≤ cb := by omega
 have hcq : ¬ cb = q := by omega
 iterate 7 (refine t_q rfl rfl hw _ (fun W hW => by (go_simp; rfl)) ?_; go_simp)
 refine t_e rfl rfl fun K hK => ?_; go_simp
 refine (HCH.out _ _ _ _ hqc _ (HC1.out _ hw) (HBW.out _ hw).1 (HBW.out _ hw).2).mono ?_; rintro e w2 ⟨⟨v, rfl, hv⟩, hb2⟩; have hw2 := hw.trans (hb2.mono hw.size); refine hK _ _ hw2 ?_; clear hK K; go_simp
 iterate 5 (refine t_q rfl rfl hw2 _ (fun W hW => by (go_simp; rfl)) ?_; go_simp)
 refine t_done ?_; obtain ⟨gt, ct, rfl, hAt, hct, hgt⟩ := hv.at_ HTL.out hq0; have hv0 := hv.more (C := w.heap.size) hw.size; have HV := Hh hv0; have HAt := Hh hAt; have hbel2 := hw2; clear hv hAt hw hw2 hv0 hb2
 go_wp2_with (first
  | (refine wpList_to_room rfl 9 22 5 (.tmp 35) rfl P rfl Tryz.underlying9 Tryz.underlying22 Tryz.underlying5 ?_; intro cap7 w7 hb7 hR7)
  | (at_builtin; refine wpList_append_conv rfl (.tmp 36) (.tmp 37) 22 rfl 5 1 Tryz.underlying22 info_byte (by omega) w2.heap.size w2.heap.size P.size cap7 (sN P) rfl hR7 hb7.size _ q ct TX rfl HTL.out ((HAt.out.below hb7 lr) HQ00.out) hmx ?_; intro g8 cap8 w8 hg8 hB8 hb8))
 have hb28 := hb7.trans hb8; have hbel8 := hbel2.trans (hb28.mono hbel2.size); have HV8 := Hh (HV.out.below hb28 lr); have HB8 := Hh hB8; clear hb7 hb8 hR7 hB8 hb28 hbel2 HV HAt; refine (HSZ.out _ (HC1.out _ hbel8)).mono ?_; rintro e w9 ⟨rfl, rfl⟩; go_wp2_with fail
 refine (HCM.out _ _ _ (HC2.out _ hbel8) (fun _ => ⟨_, _, rfl, HB8.out⟩)).mono ?_; rintro e w9 ⟨⟨v9, rfl, hv9⟩, hb9⟩; obtain ⟨g9, c9, rfl, hAt9, hcap9, hg9⟩ := hv9.at_ HCL.out hz0; have hbel9 := hbel8.trans (hb9.mono hbel8.size); have HV9 := Hh (HV8.out.below hb9 lr); have HAt9 := Hh hAt9; clear hv9 hAt9 HB8 hb9 HV8 hbel8; go_wp2_with fail
 refine (HEQ.out _ _ _ _ _ HAt9.out (HBW.out _ hbel9).1).mono ?_; rintro e wA ⟨rfl, nA, rfl⟩; have hbelA := below_drewN hbel9 nA; have HVA := Hh (HV9.out.below (C := w9.heap.size) (below_drewN (Below.refl w9.heap.size w9) nA) lr); clear HV9 HAt9 hbel9
 cases D with
 | true =>
  go_wp2
  go_ret2
  exact ⟨⟨_, rfl, HVA.out⟩, hbelA⟩
 | false =>
  go_wp2
  go_ret2
  exact ⟨rfl, hbelA⟩
end Go.Proofs.YtfkjkkjimdilcaaGreatDoor
