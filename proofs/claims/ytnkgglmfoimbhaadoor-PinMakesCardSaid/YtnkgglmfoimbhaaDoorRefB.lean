/- The contracts of lockboxref14.Make, read, Open. -/
import Derived.Test.YtnkgglmfoimbhaaDoorRefA
namespace Go.Proofs.YtnkgglmfoimbhaaDoor
open Go Go.RowKit Pr

theorem OwnN.form2 {e : TypeId} {kd : IntKind} {w : World} {B : Nat} {v : Value} {l : List Nat} (h : OwnN e kd w B v l) (hl : l ≠ []) : ∃ g cap, v = .slice (some ⟨g, 0, none⟩) l.length cap ∧ B ≤ g ∧ l.length ≤ cap ∧ g < w.heap.size ∧ Ns kd w g 0 l := by
  rcases h.2 with ⟨_, h0⟩ | ⟨g, cap, cur, rfl, hg, hb, hc, hm, hs, ht⟩
  · exact absurd (List.length_eq_zero_iff.1 h0) hl
  · refine ⟨g, cap, rfl, hg, hc, (World.ownsRow.lt h g rfl).2, fun j v hv => ?_⟩
    have := World.ownsRow.cells h (g := g) rfl j v hv
    rw [Addr.add_mid] at this
    exact this
theorem OwnN.free {e : TypeId} {kd : IntKind} {w : World} {B g n cap : Nat} {l : List Nat} (h : OwnN e kd w B (.slice (some ⟨g, 0, none⟩) n cap) l) (k : Nat) : w.frozen? ⟨g, k, none⟩ = false := by
  rcases h.2 with ⟨h2, _⟩ | ⟨g', cap', cur, hv, hg, hb, _⟩
  · cases h2
  · injection hv with e1 e2 e3
    injection e1 with e1
    injection e1 with e1
    subst e1
    exact Blk.frozen hb k

/-- the account's field as a list -/
def fieldL (f : Nat) (a : List UInt8) : List Nat := (List.range 16).map (fieldD f a)
theorem fieldL_getD (f : Nat) (a : List UInt8) (i : Nat) (h : i < 16) : (fieldL f a).getD i 0 = fieldD f a i := range_getD _ _ _ h
theorem turnD_xor (f : Nat) (a : List UInt8) (l : List Nat) (hl : l.length = 16) : turnD f a l = xorTo l (fieldL f a) 16 := by
  apply List.ext_getElem
  · rw [turnD_len, xorTo_len, hl]
  · intro i h1 h2
    have hi : i < 16 := by rw [turnD_len] at h1; exact h1
    have e1 : (turnD f a l)[i] = (turnD f a l).getD i 0 := (getD_of _ _ h1).symm
    have e2 : (xorTo l (fieldL f a) 16)[i] = (xorTo l (fieldL f a) 16).getD i 0 := (getD_of _ _ h2).symm
    refine e1.trans (Eq.trans ?_ e2.symm)
    rw [turnD_getD _ _ _ _ hi, xorTo_getD _ _ _ _ hi (by omega), fieldL_getD _ _ _ hi]
theorem xorTo_succ (x y : List Nat) (k : Nat) : xorTo x y (k + 1) = (xorTo x y k).set k (x.getD k 0 ^^^ y.getD k 0) := rfl
theorem xorTo_rest (x y : List Nat) (k : Nat) : (xorTo x y k).getD k 0 = x.getD k 0 := by
  rw [List.getD_eq_getElem?_getD, xorTo_get x y k k (Nat.le_refl _), ← List.getD_eq_getElem?_getD]
theorem i64_xor16 (a b : Nat) (ha : a < 16) (hb : b < 16) : bits .xor .i64 (a : Int) (b : Int) = ((a ^^^ b : Nat) : Int) := by
  have : ∀ a < 16, ∀ b < 16, bits .xor .i64 ((a : Nat) : Int) ((b : Nat) : Int) = ((a ^^^ b : Nat) : Int) := by decide +kernel
  exact this a ha b hb

/-- a list of digits that is read where it lies -/
def DigAt (w : World) (A : Option Addr) (l : List Nat) : Prop := ∃ b o, A = some ⟨b, o, none⟩ ∧ b < w.heap.size ∧ ∀ k, k < 16 → ∀ W, Below w.heap.size w W → W.cell? ⟨b, o + k, none⟩ = some (.int .i64 (l.getD k 0 : Nat))
theorem DigAt.of {w : World} {A : Option Addr} {l : List Nat} (hl : l.length = 16) (h : AtN .i64 w A l) : DigAt w A l := by
  obtain ⟨b, o, e, hN⟩ := h (by intro h; rw [h] at hl; cases hl)
  have hlt := hN.lt (by intro h; rw [h] at hl; cases hl)
  refine ⟨b, o, e, hlt, fun k hk W hW => ?_⟩
  rw [getD_of _ _ (by omega)]
  exact (hN.below hW hlt).cell k (by omega)

def readZ (l : List Nat) (f : Nat) : Int := match readAt l f with | some i => i | none => -1
/-- the digits that were read, ahead of place k -/
def pinTo (l : List Nat) (k : Nat) : List UInt8 := ((l.drop 2).take (min (l.getD 1 0) (k - 2))).map hexd
theorem pinTo_two (l : List Nat) : pinTo l 2 = [] := by unfold pinTo; simp
theorem pinTo_end (l : List Nat) (h : l.getD 1 0 ≤ 14) : pinTo l 16 = readV l := by unfold pinTo readV; rw [Nat.min_eq_left (by omega)]
theorem pinTo_more (l : List Nat) (hl : l.length = 16) (k : Nat) (h2 : 2 ≤ k) (hk : k < 16) (h : k < 2 + l.getD 1 0) : pinTo l (k + 1) = pinTo l k ++ [hexd (l.getD k 0)] := by
  unfold pinTo
  rw [Nat.min_eq_right (by omega), Nat.min_eq_right (by omega), show k + 1 - 2 = (k - 2) + 1 by omega, List.take_succ_eq_append_getElem (by rw [List.length_drop]; omega), List.map_append]
  congr 1
  simp only [List.getElem_drop, List.map_cons, List.map_nil]
  rw [getD_of l k (by omega)]
  congr 3
  omega
theorem pinTo_same (l : List Nat) (k : Nat) (h : ¬ k < 2 + l.getD 1 0) : pinTo l (k + 1) = pinTo l k := by
  unfold pinTo
  rw [Nat.min_eq_left (by omega), Nat.min_eq_left (by omega)]
theorem pinTo_len (l : List Nat) (hl : l.length = 16) (k : Nat) : (pinTo l k).length ≤ 14 := by
  unfold pinTo
  rw [List.length_map, List.length_take, List.length_drop]
  omega

theorem noD_int0 (c : Nat) : noD 0 c = ((c : Int) != 15) := by
  unfold noD
  by_cases h : c = 15
  · subst h; rfl
  · have : ((c : Int) != 15) = true := by rw [bne_iff_ne]; omega
    rw [this]; simp [h]
theorem noD_int1 (c : Nat) : noD 1 c = false := by unfold noD; simp
theorem noD_int3 (c : Nat) : noD 3 c = decide ((c : Int) < 10) := by
  unfold noD
  by_cases h : c < 10
  · have : decide ((c : Int) < 10) = true := by simp; omega
    rw [this]; simp [h]
  · have : decide ((c : Int) < 10) = false := by simp; omega
    rw [this]; simp [h]
theorem noD_int4 (c : Nat) : noD 4 c = ((c : Int) != 10) := by
  unfold noD
  by_cases h : c = 10
  · subst h; rfl
  · have : ((c : Int) != 10) = true := by rw [bne_iff_ne]; omega
    rw [this]; simp [h]

set_option maxHeartbeats 4000000 in
set_option maxRecDepth 100000 in
theorem readR_any (l : List Nat) (hl : l.length = 16) (hlt : ∀ c ∈ l, c < 16) (f : Nat) (hf : f = 0 ∨ f = 1 ∨ f = 3 ∨ f = 4) (A : Option Addr) (cp : Nat) (w : World) (hA : AtN .i64 w A l) :
    Calls Tryd.prog 39 #[.slice A 16 cp, .int .i64 f] w fun e w' =>
      e = .returned (.tuple #[.string (str (readStr l f)), .int .i64 (readZ l f)]) ∧ Below w.heap.size w w' := by
  obtain ⟨bl, o, rfl, hbl, hD⟩ := DigAt.of hl hA
  have c0 : ∀ W, Below w.heap.size w W → W.cell? ⟨bl, o, none⟩ = some (.int .i64 (l.getD 0 0 : Nat)) := fun W hW => hD 0 (by omega) W hW
  have c1 : ∀ W, Below w.heap.size w W → W.cell? ⟨bl, o + 1, none⟩ = some (.int .i64 (l.getD 1 0 : Nat)) := fun W hW => hD 1 (by omega) W hW
  have d0 := getD_lt16 l hlt 0
  have d1 := getD_lt16 l hlt 1
  have HD := Lib.hid hD; clear hD
  have k0 := c0 w (Below.refl _ _)
  have k1 := c1 w (Below.refl _ _)
  have HC1 := Lib.hid c1; clear c0 c1
  have hdef : readZ l f = match readAt l f with | some i => (i : Int) | none => -1 := rfl
  have hdef2 : readStr l f = match readAt l f with | some _ => [] | none => readV l := rfl
  have hse : str [] = ⟨#[]⟩ := rfl
  by_cases h0 : l.getD 0 0 = f
  · by_cases h1 : 4 ≤ l.getD 1 0 ∧ l.getD 1 0 ≤ 12
    · rw [readAt_loop h0 h1.1 h1.2] at hdef hdef2
      have hb : ∀ k, badD f (l.getD 1 0) k (l.getD k 0) = if k < 2 + l.getD 1 0 then decide (9 < l.getD k 0) else noD f (l.getD k 0) := fun k => rfl
      have hstep : ∀ k m, firstD f l k (m + 1) = if badD f (l.getD 1 0) k (l.getD k 0) then some k else firstD f l (k + 1) m := fun k m => rfl
      have hmore : ∀ k, 2 ≤ k → k < 16 → k < 2 + l.getD 1 0 → pinTo l (k + 1) = pinTo l k ++ [hexd (l.getD k 0)] := fun k a b c => pinTo_more l hl k a b c
      have hsame : ∀ k, ¬ k < 2 + l.getD 1 0 → pinTo l (k + 1) = pinTo l k := fun k a => pinTo_same l k a
      have hplen : ∀ k, (pinTo l k).length ≤ 14 := pinTo_len l hl
      have hpend := pinTo_end l (by omega)
      have t0 : ((l.getD 0 0 : Int) != (f : Int)) = false := by rw [bne_eq_false_iff_eq]; omega
      clear h0
      generalize l.getD 0 0 = x0 at *
      obtain ⟨n, hn⟩ : ∃ n, l.getD 1 0 = n := ⟨_, rfl⟩
      rw [hn] at k1 HC1 h1 d1 hb hstep hmore hsame
      obtain ⟨n4, n12⟩ := h1
      have HDEF := Lib.hid hdef; clear hdef
      have HDEF2 := Lib.hid hdef2; clear hdef2
      have HB := Lib.hid hb; clear hb
      have HST := Lib.hid hstep; clear hstep
      have HMORE := Lib.hid hmore; clear hmore
      have HSAME := Lib.hid hsame; clear hsame
      have HPL := Lib.hid hplen; clear hplen
      have HPE := Lib.hid hpend; clear hpend
      have HLT := Lib.hid (fun i => getD_lt16 l hlt i)
      have HSE := Lib.hid hse; clear hse
      clear hl hlt hA
      clear hn
      have main : ∀ f', f = f' → f' = 0 ∨ f' = 1 ∨ f' = 3 ∨ f' = 4 → Calls Tryd.prog 39 #[.slice (some ⟨bl, o, none⟩) 16 cp, .int .i64 (f' : Nat)] w fun e w' =>
          e = .returned (.tuple #[.string (str (readStr l f)), .int .i64 (readZ l f)]) ∧ Below w.heap.size w w' := by
        clear hf
        intro f' hff hf
        have hnd : ∀ c, noD f c = noD f' c := by rw [hff]; exact fun _ => rfl
        rw [hff] at t0
        have HND := Lib.hid hnd; clear hnd hff
        rcases hf with rfl | rfl | rfl | rfl
        all_goals
          go_enter Tryd.func39, Tryd.ntmps39
          go_wp2
          go_loopw [6, 7] (fun v i wr => ∃ k : Nat, 2 ≤ k ∧ k ≤ 16 ∧ i = .int .i64 k ∧ Hid (firstD f l 2 14 = firstD f l k (16 - k)) ∧ v = .string (str (pinTo l k)) ∧ Below w.heap.size w wr) (fun _ i _ => 16 - (intOf i).toNat)
          case atStart => exact ⟨2, by omega, by omega, rfl, rfl, by rw [pinTo_two]; rfl, Below.refl _ _⟩
          case round =>
            obtain ⟨k, hk2, hk, rfl, hfd, rfl, hbel⟩ := hrel
            have hc1 := HC1.out wr hbel
            by_cases hlt : k < 16
            · have hck := HD.out k hlt wr hbel
              have hc16 := HLT.out k
              have hbk := HB.out k
              have hsk := HST.out k (15 - k)
              rw [show 15 - k + 1 = 16 - k by omega, hbk] at hsk
              have hmo := HMORE.out k hk2 hlt
              have hsa := HSAME.out k
              have hpl := HPL.out k
              rw [HND.out] at hsk
              clear hbk
              generalize l.getD k 0 = c at *
              by_cases hkn : k < 2 + n
              · have hkn' : (k : Int) < 2 + n := by omega
                rw [if_pos hkn] at hsk
                have hmo := hmo hkn
                clear hsa
                by_cases h9 : 9 < c
                · have hfin : firstD f l 2 14 = some k := by rw [hfd.out, hsk, if_pos (by simpa using h9)]
                  have hZ := HDEF.out
                  have hS := HDEF2.out
                  rw [hfin] at hZ hS
                  have HZ := Lib.hid hZ; clear hZ
                  have HS := Lib.hid hS; clear hS
                  clear hfin hsk hmo
                  go_wp2
                  go_ret2
                  rw [HZ.out, HS.out, HSE.out]
                  exact ⟨rfl, hbel⟩
                · have hnx : firstD f l 2 14 = firstD f l (k + 1) (16 - (k + 1)) := by rw [hfd.out, hsk, if_neg (by simpa using h9), show 16 - (k + 1) = 15 - k by omega]
                  have HNX := Lib.hid hnx; clear hnx hsk
                  have hX : str (pinTo l k) ++ ⟨#[hexd c]⟩ = str (pinTo l (k + 1)) := by
                    have e : (⟨#[hexd c]⟩ : ByteArray) = str [hexd c] := rfl
                    rw [hmo, e, str_add]
                  have hXs : (str (pinTo l k)).size ≤ 14 := by rw [str_size]; exact hpl
                  clear hmo hpl
                  generalize str (pinTo l k) = X at *
                  have HX := Lib.hid hX; clear hX
                  have hdg := digit8_any c hc16 wr
                  obtain ⟨Y, hY⟩ : ∃ Y : ByteArray, (⟨#[hexd c]⟩ : ByteArray) = Y := ⟨_, rfl⟩
                  have hYs : Y.size = 1 := by rw [← hY]; rfl
                  rw [hY] at hdg HX
                  have HDG := Lib.hid hdg
                  have b1 : ¬ 9223372036854775807 < X.size + Y.size := by omega
                  clear hdg hY hYs
                  go_wp2_with fail
                  refine HDG.out.mono ?_
                  rintro e w1 ⟨rfl, hb1⟩
                  have hbel1 := hbel.trans (hb1.mono hbel.size)
                  go_wp2
                  go_roundw
                  case rel => exact ⟨k + 1, by omega, by omega, by go_num, HNX, by rw [HX.out], hbel1⟩
                  case measure => simp [intOf]; omega
              · have hkn' : ¬ (k : Int) < 2 + n := by omega
                rw [if_neg hkn] at hsk
                have hsa := hsa hkn
                clear hmo
                split at hsk
                · rename_i hb
                  have hfin : firstD f l 2 14 = some k := by rw [hfd.out, hsk]
                  have hZ := HDEF.out
                  have hS := HDEF2.out
                  rw [hfin] at hZ hS
                  have HZ := Lib.hid hZ; clear hZ
                  have HS := Lib.hid hS; clear hS
                  clear hfin hsk hsa
                  first
                    | (exact absurd ((noD_int1 c).symm.trans hb) (by decide))
                    | ((first
                        | (have tt := (noD_int0 c).symm.trans hb)
                        | (have tt := (noD_int3 c).symm.trans hb)
                        | (have tt := (noD_int4 c).symm.trans hb))
                       clear hb
                       go_wp2
                       go_ret2
                       rw [HZ.out, HS.out, HSE.out]
                       exact ⟨rfl, hbel⟩)
                · rename_i hb
                  replace hb := eq_false_of_ne_true hb
                  have hnx : firstD f l 2 14 = firstD f l (k + 1) (16 - (k + 1)) := by rw [hfd.out, hsk, show 16 - (k + 1) = 15 - k by omega]
                  have HNX := Lib.hid hnx; clear hnx hsk
                  have HSA := Lib.hid hsa; clear hsa
                  first
                    | (have tt := (noD_int0 c).symm.trans hb)
                    | (have tt := (noD_int3 c).symm.trans hb)
                    | (have tt := (noD_int4 c).symm.trans hb)
                    | (have tt := (noD_int1 c).symm.trans hb)
                  clear hb
                  go_wp2
                  go_roundw
                  case rel => exact ⟨k + 1, by omega, by omega, by go_num, HNX, by rw [HSA.out], hbel⟩
                  case measure => simp [intOf]; omega
            · obtain rfl : k = 16 := by omega
              have hfin : firstD f l 2 14 = none := by rw [hfd.out]; rfl
              have hZ := HDEF.out
              have hS := HDEF2.out
              rw [hfin] at hZ hS
              have HZ := Lib.hid hZ; clear hZ
              have HS := Lib.hid hS; clear hS
              clear hfin
              go_wp2
              go_ret2
              rw [HZ.out, HS.out, ← HPE.out]
              exact ⟨rfl, hbel⟩
      exact main f rfl hf
    · have hZ : readZ l f = 1 := by
        rw [hdef]
        unfold readAt
        rw [if_neg (by simp only [ne_eq, Classical.not_not]; exact h0), if_pos (by omega)]
        rfl
      have hS : readStr l f = [] := by
        rw [hdef2]
        unfold readAt
        rw [if_neg (by simp only [ne_eq, Classical.not_not]; exact h0), if_pos (by omega)]
      rw [hZ, hS, hse]
      have t0 : ((l.getD 0 0 : Int) != (f : Int)) = false := by rw [bne_eq_false_iff_eq]; omega
      clear hdef hdef2 hZ hS hse h0 hl hlt hf
      generalize l.getD 0 0 = x0 at *
      generalize l.getD 1 0 = n at *
      by_cases hn4 : n < 4
      · go_enter Tryd.func39, Tryd.ntmps39
        go_wp2
        go_ret2
        exact ⟨rfl, Below.refl _ _⟩
      · have hn12 : 12 < n := by omega
        go_enter Tryd.func39, Tryd.ntmps39
        go_wp2
        go_ret2
        exact ⟨rfl, Below.refl _ _⟩
  · have hZ : readZ l f = 0 := by
      rw [hdef]
      unfold readAt
      rw [if_pos h0]
      rfl
    have hS : readStr l f = [] := by
      rw [hdef2]
      unfold readAt
      rw [if_pos h0]
    rw [hZ, hS, hse]
    have t0 : ((l.getD 0 0 : Int) != (f : Int)) = true := by rw [bne_iff_ne]; omega
    clear hdef hdef2 hZ hS hse h0 hl hlt hf
    generalize l.getD 0 0 = x0 at *
    generalize l.getD 1 0 = n at *
    go_enter Tryd.func39, Tryd.ntmps39
    go_wp2
    go_ret2
    exact ⟨rfl, Below.refl _ _⟩

theorem nibN16 (b : List Nat) (hb : b.length = 8) : (nibN b).length = 16 := by rw [nibN_len, hb]

set_option maxHeartbeats 4000000 in
set_option maxRecDepth 100000 in
theorem refOpen_any (f : Nat) (hf : f = 0 ∨ f = 1 ∨ f = 3) (b : List Nat) (hb : b.length = 8) (gb : ∀ c ∈ b, c < 256) (A : Option Addr) (cp : Nat) (a : ByteArray) (h13 : 13 ≤ a.size) (h19 : a.size ≤ 19) (had : ∀ c ∈ a.data.toList, isDec c = true) (w : World) (hA : At w A b) :
    Calls Tryd.prog 19 #[.int .i64 f, .slice A 8 cp, .string a] w fun e w' =>
      e = .returned (.tuple #[.string (str (readStr (turnD f a.data.toList (nibN b)) f)), .int .i64 (readZ (turnD f a.data.toList (nibN b)) f)]) ∧ Below w.heap.size w w' := by
  have HN := Lib.hid (nibblesR_any b 8 hb (by omega) gb A cp w hA)
  have hLl := nibN16 b hb
  have hLt := nibN_lt b gb
  have hDlt := turnD_lt f a.data.toList (nibN b) had hLt
  have hDl := turnD_len f a.data.toList (nibN b)
  have HR := Lib.hid (fun A cp W hA => readR_any (turnD f a.data.toList (nibN b)) hDl hDlt f (by omega) A cp W hA)
  generalize hD : turnD f a.data.toList (nibN b) = D at *
  rw [turnD_xor f a.data.toList _ hLl] at hD
  have hFl : ∀ i, i < 16 → (fieldL f a.data.toList).getD i 0 = fieldD f a.data.toList i := fun i hi => fieldL_getD _ _ i hi
  have hFlt : ∀ i, (fieldD f a.data.toList i) < 16 := fieldD_lt f a.data.toList had
  have HF := Lib.hid (fun i hi W => fieldR_any f a h13 h19 had i hi W)
  generalize nibN b = L at *
  generalize fieldL f a.data.toList = F at *
  generalize fieldD f a.data.toList = fd at *
  have HFL := Lib.hid hFl; clear hFl
  have HFLT := Lib.hid hFlt; clear hFlt
  have HLT := Lib.hid (fun i => getD_lt16 L hLt i)
  have HLL := Lib.hid hLl; clear hLl
  have HDD := Lib.hid hD; clear hD
  have HDL := Lib.hid hDl; clear hDl
  clear hA hb gb had hLt hDlt hf
  go_enter Tryd.func19, Tryd.ntmps19
  go_wp2_with fail
  refine HN.out.mono ?_
  rintro e w1 ⟨⟨v, rfl, hv⟩, hb1⟩
  obtain ⟨g, cap, rfl, hg, hcap, hgl, -⟩ := hv.form2 (by intro h; have := HLL.out; rw [h] at this; cases this)
  rw [HLL.out] at hcap hv ⊢
  clear HN
  go_wp2
  go_loopw [9] (fun i wr => ∃ k : Nat, k ≤ 16 ∧ i = .int .i64 k ∧ OwnN 3 .i64 wr w.heap.size (.slice (some ⟨g, 0, none⟩) 16 cap) (xorTo L F k) ∧ Below w.heap.size w wr) (fun i _ => 16 - (intOf i).toNat)
  case atStart => exact ⟨0, by omega, rfl, hv, hb1⟩
  case round =>
    obtain ⟨k, hk, rfl, hown, hbel⟩ := hrel
    by_cases hlt : k < 16
    · have hXl : (xorTo L F k).length = 16 := by rw [xorTo_len, HLL.out]
      obtain ⟨g', cap', hgg, _, _, hgl', hNs⟩ := hown.form2 (by intro h; rw [h] at hXl; cases hXl)
      obtain ⟨rfl, rfl⟩ : g = g' ∧ cap = cap' := by injection hgg with e1 _ e3; injection e1 with e1; injection e1 with e1; exact ⟨e1, e3⟩
      have hcell := hNs.cell k (by rw [hXl]; exact hlt)
      rw [← getD_of _ _ (by rw [hXl]; exact hlt), xorTo_rest] at hcell
      rw [Nat.zero_add] at hcell
      have hfr := hown.free k
      have hx16 := HLT.out k
      have hf16 := HFLT.out k
      have hst := hown.set k (L.getD k 0 ^^^ F.getD k 0)
      rw [← xorTo_succ, HFL.out k hlt] at hst
      have hX := i64_xor16 _ _ hx16 hf16
      have hfk := HF.out k hlt
      generalize L.getD k 0 = x at *
      generalize fd k = y at *
      rw [← hX] at hst
      have HST := Lib.hid hst; clear hst hX
      have HFK := Lib.hid hfk; clear hfk
      clear hNs hXl hgg
      have hcell' : wr.drew.cell? ⟨g, k, none⟩ = some (.int .i64 (x : Int)) := hcell
      have hfr' : wr.drew.frozen? ⟨g, k, none⟩ = false := hfr
      have HST' : Hid (OwnN 3 .i64 (wr.drew.setCell ⟨g, k, none⟩ (.int .i64 (bits .xor .i64 (x : Int) (y : Int)))) w.heap.size (.slice (some ⟨g, 0, none⟩) 16 cap) (xorTo L F (k + 1))) := HST
      clear HST
      go_wp2_with fail
      go_still_tail 12, (by kernel_rfl)
      still_call ((HFK.out _).mono (fun e w' h => ⟨h.1, h.2.symm⟩))
      repeat still_step
      refine wpStill_nil ?_
      change wpList _ _ _ _ _ wr.drew
      have hbr2 : Below w.heap.size w wr.drew := below_drewN hbel 1
      generalize wr.drew = w2 at *
      go_wp2
      go_roundw
      case rel => exact ⟨k + 1, by omega, by go_num, HST'.out, hbr2.setCell (by show w.heap.size ≤ g; omega) _⟩
      case measure => simp [intOf]; omega
    · obtain rfl : k = 16 := by omega
      rw [HDD.out] at hown
      obtain ⟨A2, cap2, hh, hcc, hAt⟩ := hown.form
      have hR := HR.out (some ⟨g, 0, none⟩) cap wr (by
        injection hh with e1
        rw [e1]; exact hAt)
      have HR2 := Lib.hid hR; clear hR
      clear HR hh hAt hcc
      go_wp2_with fail
      refine HR2.out.mono ?_
      rintro e w5 ⟨rfl, hb5⟩
      go_wp2
      go_ret2
      exact ⟨rfl, hbel.trans (hb5.mono hbel.size)⟩
end Go.Proofs.YtnkgglmfoimbhaaDoor
