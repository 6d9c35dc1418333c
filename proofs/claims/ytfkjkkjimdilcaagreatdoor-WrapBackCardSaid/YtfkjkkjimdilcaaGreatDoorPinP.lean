/- Plain definitions and facts of PIN blocks, as lists of digits; no program in sight. -/
import Derived.Test.YtfkjkkjimdilcaaGreatDoorPureAll
namespace Go.Proofs.YtfkjkkjimdilcaaGreatDoor.Pr

/-- bytes of two digits each -/
def packN (l : List Nat) : List Nat := (List.range (l.length / 2)).map fun j => 16 * l.getD (2 * j) 0 + l.getD (2 * j + 1) 0
/-- the two digits of each byte -/
def nibN (l : List Nat) : List Nat := l.flatMap fun c => [c / 16, c % 16]
theorem packN_len (l : List Nat) : (packN l).length = l.length / 2 := by simp [packN]
theorem nibN_snoc (l : List Nat) (c : Nat) : nibN (l ++ [c]) = nibN l ++ [c / 16, c % 16] := by simp [nibN]
theorem nibN_len (l : List Nat) : (nibN l).length = 2 * l.length := by
  induction l with
  | nil => rfl
  | cons a l ih => simp only [nibN, List.flatMap_cons, List.length_append, List.length_cons, List.length_nil] at *; omega
theorem nibN_lt (l : List Nat) (h : ∀ c ∈ l, c < 256) : ∀ c ∈ nibN l, c < 16 := by
  intro c hc
  simp only [nibN, List.mem_flatMap, List.mem_cons, List.not_mem_nil, or_false] at hc
  obtain ⟨a, ha, h1⟩ := hc
  have := h a ha
  omega
theorem nibN_getD (l : List Nat) : ∀ j, (nibN l).getD (2 * j) 0 = l.getD j 0 / 16 ∧ (nibN l).getD (2 * j + 1) 0 = l.getD j 0 % 16 := by
  induction l with
  | nil => intro j; simp [nibN]
  | cons a l ih =>
    intro j
    have e : nibN (a :: l) = a / 16 :: a % 16 :: nibN l := by simp [nibN]
    rw [e]
    match j with
    | 0 => simp
    | j + 1 =>
      have := ih j
      rw [show 2 * (j + 1) = 2 * j + 1 + 1 by omega, show 2 * j + 1 + 1 + 1 = (2 * j + 1) + 1 + 1 by omega]
      simpa using this
theorem getD_lt16 (l : List Nat) (h : ∀ c ∈ l, c < 16) (i : Nat) : l.getD i 0 < 16 := by
  rw [List.getD_eq_getElem?_getD]
  cases hq : l[i]? with
  | none => simp
  | some c => exact h c (List.mem_of_getElem? hq)
theorem packN_nibN (l : List Nat) : packN (nibN l) = l := by
  apply List.ext_getElem
  · rw [packN_len, nibN_len]; omega
  · intro i h1 h2
    have := nibN_getD l i
    simp only [packN, List.getElem_map, List.getElem_range]
    rw [this.1, this.2, List.getD_eq_getElem?_getD, List.getElem?_eq_getElem h2]
    simp only [Option.getD_some]
    omega
theorem packN_getD (l : List Nat) (j : Nat) (h : 2 * j + 1 < l.length) : (packN l).getD j 0 = 16 * l.getD (2 * j) 0 + l.getD (2 * j + 1) 0 := by
  rw [List.getD_eq_getElem?_getD, List.getElem?_eq_getElem (by rw [packN_len]; omega)]
  simp [packN]
theorem packN_lt (l : List Nat) (h : ∀ c ∈ l, c < 16) : ∀ c ∈ packN l, c < 256 := by
  intro c hc
  simp only [packN, List.mem_map] at hc
  obtain ⟨j, _, rfl⟩ := hc
  have h1 := getD_lt16 l h (2 * j)
  have h2 := getD_lt16 l h (2 * j + 1)
  omega
theorem nibN_packN (l : List Nat) (h : ∀ c ∈ l, c < 16) (hev : l.length % 2 = 0) : nibN (packN l) = l := by
  apply List.ext_getElem
  · rw [nibN_len, packN_len]; omega
  · intro i h1 h2
    have hg := nibN_getD (packN l) (i / 2)
    have hp := packN_getD l (i / 2) (by omega)
    have hb := getD_lt16 l h (2 * (i / 2) + 1)
    rw [hp] at hg
    have e1 : (nibN (packN l))[i] = (nibN (packN l)).getD i 0 := by rw [List.getD_eq_getElem?_getD, List.getElem?_eq_getElem h1]; rfl
    have e2 : l[i] = l.getD i 0 := by rw [List.getD_eq_getElem?_getD, List.getElem?_eq_getElem h2]; rfl
    rw [e1, e2]
    rcases (show i = 2 * (i / 2) ∨ i = 2 * (i / 2) + 1 by omega) with e | e
    · rw [e, hg.1]; omega
    · rw [e, hg.2]; omega
theorem packN_take (l : List Nat) (j : Nat) (h : 2 * j + 1 < l.length) : (packN l).take (j + 1) = (packN l).take j ++ [16 * l.getD (2 * j) 0 + l.getD (2 * j + 1) 0] := by
  rw [List.take_succ_eq_append_getElem (by rw [packN_len]; omega)]
  congr 2
  simp [packN]

theorem hexv_hexd (n : Nat) (h : n < 16) : hexv (hexd n) = n := by
  have : ∀ n < 16, hexv (hexd n) = n := by decide +kernel
  exact this n h
theorem hexd_hexv (c : UInt8) (h : isHex c = true) : hexd (hexv c) = c := all_u8 (p := fun c => isHex c = true → hexd (hexv c) = c) (by decide +kernel) c h
theorem unhexL_pack (s : List UInt8) : unhexL s = packN (s.map hexv) := by
  unfold unhexL packN
  rw [List.length_map]
  apply List.map_congr_left
  intro j _
  unfold unhexAt
  have e : ∀ i, (s.map hexv).getD i 0 = hexv (s.getD i 0) := by
    intro i
    simp only [List.getD_eq_getElem?_getD, List.getElem?_map]
    cases s[i]? <;> rfl
  rw [e, e]
  omega
theorem hexL_nib (l : List Nat) : hexL l = (nibN l).map hexd := by
  unfold hexL nibN
  rw [List.map_flatMap]
  rfl
theorem map_hexv_hexd (l : List Nat) (h : ∀ c ∈ l, c < 16) : (l.map hexd).map hexv = l := by
  rw [List.map_map]
  conv => rhs; rw [← List.map_id l]
  apply List.map_congr_left
  intro c hc
  exact hexv_hexd c (h c hc)
theorem map_hexd_hexv (s : List UInt8) (h : ∀ c ∈ s, isHex c = true) : (s.map hexv).map hexd = s := by
  rw [List.map_map]
  conv => rhs; rw [← List.map_id s]
  apply List.map_congr_left
  intro c hc
  exact hexd_hexv c (h c hc)

/-- the account's field, digit by digit -/
def fieldD (fmt : Nat) (a : List UInt8) (i : Nat) : Nat := if fmt = 1 ∨ i < 4 then 0 else hexv (a.getD (a.length + i - 17) 0)
def turnD (fmt : Nat) (a : List UInt8) (l : List Nat) : List Nat := (List.range 16).map fun i => l.getD i 0 ^^^ fieldD fmt a i
def fillD (fmt : Nat) (fill : List Nat) : List Nat := if fmt = 0 then List.replicate 16 15 else if fmt = 1 then nibN fill else (nibN fill).map fun c => 10 + c % 6
def startD (fmt : Nat) (p : List UInt8) : List Nat := [fmt, p.length] ++ p.map hexv
def rawD (fmt : Nat) (p : List UInt8) (fill : List Nat) : List Nat := (startD fmt p ++ fillD fmt fill).take 16
def makeD (fmt : Nat) (p a : List UInt8) (fill : List Nat) : List Nat := packN (turnD fmt a (rawD fmt p fill))

/-- the same, as the code reckons it: on texts -/
def fillS (fmt : Nat) (fill : List Nat) : List UInt8 := if fmt = 0 then Lib.repeatL [70] 16 else if fmt = 3 then fill.flatMap (fun c => [UInt8.ofNat (65 + c / 16 % 6), UInt8.ofNat (65 + c % 16 % 6)]) else hexL fill
def textS (fmt : Nat) (p : List UInt8) : List UInt8 := [hexd fmt, hexd p.length] ++ p
def fieldS (a : List UInt8) : List UInt8 := [48, 48, 48, 48] ++ (a.drop (a.length - 13)).take 12
def turnC (fmt : Nat) (a : List UInt8) (b : List Nat) : List Nat := if fmt = 1 then b else xorTo b (unhexL (fieldS a)) 8
def makeC (fmt : Nat) (p a : List UInt8) (fill : List Nat) : List Nat := turnC fmt a (unhexL ((textS fmt p ++ fillS fmt fill).take 16))

theorem dec_hex {s : List UInt8} (h : ∀ c ∈ s, isDec c = true) : ∀ c ∈ s, isHex c = true := fun c hc => isHex_of_dec (h c hc)
theorem fillS_len (fmt : Nat) (fill : List Nat) (h : fill.length = 8) : (fillS fmt fill).length = 16 := by
  unfold fillS
  split
  · decide
  · split
    · have : ∀ l : List Nat, (l.flatMap (fun c => [UInt8.ofNat (65 + c / 16 % 6), UInt8.ofNat (65 + c % 16 % 6)])).length = 2 * l.length := by
        intro l
        induction l with
        | nil => rfl
        | cons a l ih => simp only [List.flatMap_cons, List.length_append, List.length_cons, List.length_nil, ih]; omega
      rw [this, h]
    · rw [hexL_len, h]
theorem alpha_hex (n : Nat) (h : n < 6) : isHex (UInt8.ofNat (65 + n)) = true ∧ hexv (UInt8.ofNat (65 + n)) = 10 + n := by
  have : ∀ n < 6, isHex (UInt8.ofNat (65 + n)) = true ∧ hexv (UInt8.ofNat (65 + n)) = 10 + n := by decide +kernel
  exact this n h
theorem fillS_hex (fmt : Nat) (fill : List Nat) (h : ∀ c ∈ fill, c < 256) : ∀ c ∈ fillS fmt fill, isHex c = true := by
  intro c hc
  unfold fillS at hc
  split at hc
  · have : c = 70 := by have := mem_repeat [70] c 16 hc; simpa using this
    subst this; decide
  · split at hc
    · obtain ⟨a, _, h1⟩ := List.mem_flatMap.1 hc
      simp only [List.mem_cons, List.not_mem_nil, or_false] at h1
      rcases h1 with rfl | rfl
      · exact (alpha_hex _ (Nat.mod_lt _ (by omega))).1
      · exact (alpha_hex _ (Nat.mod_lt _ (by omega))).1
    · exact hexL_hex _ h c hc
theorem fillS_val (fmt : Nat) (fill : List Nat) (h : ∀ c ∈ fill, c < 256) (hf : fmt = 0 ∨ fmt = 1 ∨ fmt = 3) : (fillS fmt fill).map hexv = fillD fmt fill := by
  unfold fillS fillD
  rcases hf with rfl | rfl | rfl
  · simp only [if_true]; decide
  · simp only [if_neg (show ¬ (1 = 0) by omega), if_neg (show ¬ (1 = 3) by omega), if_true]
    rw [hexL_nib, map_hexv_hexd _ (nibN_lt _ h)]
  · simp only [if_neg (show ¬ (3 = 0) by omega), if_neg (show ¬ (3 = 1) by omega), if_true]
    unfold nibN
    rw [List.map_flatMap, List.map_flatMap]
    congr 1
    funext c
    simp only [List.map_cons, List.map_nil]
    rw [(alpha_hex _ (Nat.mod_lt _ (by omega))).2, (alpha_hex _ (Nat.mod_lt _ (by omega))).2]
theorem textS_len (fmt : Nat) (p : List UInt8) : (textS fmt p).length = p.length + 2 := by simp [textS]
theorem textS_hex (fmt : Nat) (p : List UInt8) (hf : fmt < 16) (hl : p.length < 16) (hp : ∀ c ∈ p, isDec c = true) : ∀ c ∈ textS fmt p, isHex c = true := by
  intro c hc
  unfold textS at hc
  simp only [List.cons_append, List.nil_append, List.mem_cons] at hc
  rcases hc with rfl | rfl | hc
  · exact hexd_hex _ hf
  · exact hexd_hex _ hl
  · exact isHex_of_dec (hp c hc)
theorem textS_val (fmt : Nat) (p : List UInt8) (hf : fmt < 16) (hl : p.length < 16) : (textS fmt p).map hexv = startD fmt p := by
  unfold textS startD
  simp only [List.cons_append, List.nil_append, List.map_cons, hexv_hexd _ hf, hexv_hexd _ hl]
theorem raw_hex (fmt : Nat) (p : List UInt8) (fill : List Nat) (hf : fmt < 16) (hl : p.length < 16) (hp : ∀ c ∈ p, isDec c = true) (hfl : ∀ c ∈ fill, c < 256) : ∀ c ∈ (textS fmt p ++ fillS fmt fill).take 16, isHex c = true := by
  intro c hc
  rcases List.mem_append.1 (List.mem_of_mem_take hc) with h | h
  · exact textS_hex fmt p hf hl hp c h
  · exact fillS_hex fmt fill hfl c h
theorem raw_len (fmt : Nat) (p : List UInt8) (fill : List Nat) (hfl : fill.length = 8) : ((textS fmt p ++ fillS fmt fill).take 16).length = 16 := by
  rw [List.length_take, List.length_append, fillS_len _ _ hfl]; omega
theorem raw_val (fmt : Nat) (p : List UInt8) (fill : List Nat) (hf : fmt = 0 ∨ fmt = 1 ∨ fmt = 3) (hl : p.length < 16) (hfl : ∀ c ∈ fill, c < 256) : ((textS fmt p ++ fillS fmt fill).take 16).map hexv = rawD fmt p fill := by
  rw [List.map_take, List.map_append, textS_val _ _ (by omega) hl, fillS_val _ _ hfl hf]
  rfl
theorem fieldS_len (a : List UInt8) (h : 13 ≤ a.length) : (fieldS a).length = 16 := by unfold fieldS; simp; omega
theorem fieldS_hex (a : List UInt8) (h : ∀ c ∈ a, isDec c = true) : ∀ c ∈ fieldS a, isHex c = true := by
  intro c hc
  unfold fieldS at hc
  rcases List.mem_append.1 hc with h1 | h1
  · have : c = 48 := by simpa using h1
    subst this; decide
  · exact isHex_of_dec (h c (List.mem_of_mem_drop (List.mem_of_mem_take h1)))
theorem fieldS_val (fmt : Nat) (a : List UInt8) (h : 13 ≤ a.length) (hf : fmt ≠ 1) (i : Nat) (hi : i < 16) : ((fieldS a).map hexv).getD i 0 = fieldD fmt a i := by
  unfold fieldD
  have e : ∀ i, ((fieldS a).map hexv).getD i 0 = hexv ((fieldS a).getD i 0) := by
    intro i
    simp only [List.getD_eq_getElem?_getD, List.getElem?_map]
    cases (fieldS a)[i]? <;> rfl
  rw [e]
  by_cases h4 : i < 4
  · rw [if_pos (.inr h4)]
    unfold fieldS
    rw [List.getD_eq_getElem?_getD, List.getElem?_append_left (by simpa using h4)]
    rcases (show i = 0 ∨ i = 1 ∨ i = 2 ∨ i = 3 by omega) with rfl | rfl | rfl | rfl <;> rfl
  · rw [if_neg (by omega)]
    unfold fieldS
    rw [List.getD_eq_getElem?_getD, List.getElem?_append_right (by simp; omega), List.getD_eq_getElem?_getD]
    simp only [List.length_cons, List.length_nil]
    rw [List.getElem?_take_of_lt (by omega), List.getElem?_drop]
    congr 3
    omega

theorem xor_nib (a b c d : Nat) (ha : a < 16) (hb : b < 16) (hc : c < 16) (hd : d < 16) : (16 * a + b) ^^^ (16 * c + d) = 16 * (a ^^^ c) + (b ^^^ d) := by
  have h : ∀ a < 16, ∀ b < 16, ∀ c < 16, ∀ d < 16, (16 * a + b) ^^^ (16 * c + d) = 16 * (a ^^^ c) + (b ^^^ d) := by decide +kernel
  exact h a ha b hb c hc d hd
theorem xorTo_getD (x y : List Nat) : ∀ n k, k < n → k < x.length → (xorTo x y n).getD k 0 = x.getD k 0 ^^^ y.getD k 0 := by
  intro n
  induction n with
  | zero => intro k h; omega
  | succ n ih =>
    intro k hk hx
    unfold xorTo
    by_cases e : k = n
    · subst e
      rw [List.getD_eq_getElem?_getD, List.getElem?_set_self (by rw [xorTo_len]; exact hx)]
      rfl
    · rw [List.getD_eq_getElem?_getD, List.getElem?_set_ne (fun h => e h.symm), ← List.getD_eq_getElem?_getD]
      exact ih k (by omega) hx
theorem xor_lt16 (a b : Nat) (ha : a < 16) (hb : b < 16) : a ^^^ b < 16 := Nat.xor_lt_two_pow (n := 4) ha hb
theorem range_getD (f : Nat → Nat) (n i : Nat) (h : i < n) : ((List.range n).map f).getD i 0 = f i := by
  rw [List.getD_eq_getElem?_getD]; simp [h]
theorem xor_pack (x y : List Nat) (hx : x.length = 16) (hy : y.length = 16) (gx : ∀ c ∈ x, c < 16) (gy : ∀ c ∈ y, c < 16) :
    xorTo (packN x) (packN y) 8 = packN ((List.range 16).map fun i => x.getD i 0 ^^^ y.getD i 0) := by
  apply List.ext_getElem
  · rw [xorTo_len, packN_len, packN_len, hx]; simp
  · intro i h1 h2
    have hi : i < 8 := by rw [xorTo_len, packN_len, hx] at h1; exact h1
    have e1 : (xorTo (packN x) (packN y) 8)[i] = (xorTo (packN x) (packN y) 8).getD i 0 := by rw [List.getD_eq_getElem?_getD, List.getElem?_eq_getElem h1]; rfl
    rw [e1, xorTo_getD _ _ 8 i hi (by rw [packN_len, hx]; omega), packN_getD _ _ (by omega), packN_getD _ _ (by omega),
      xor_nib _ _ _ _ (getD_lt16 _ gx _) (getD_lt16 _ gx _) (getD_lt16 _ gy _) (getD_lt16 _ gy _)]
    simp only [packN, List.getElem_map, List.getElem_range]
    rw [range_getD _ _ _ (by omega), range_getD _ _ _ (by omega)]

theorem turnD_getD (fmt : Nat) (a : List UInt8) (l : List Nat) (i : Nat) (h : i < 16) : (turnD fmt a l).getD i 0 = l.getD i 0 ^^^ fieldD fmt a i := by unfold turnD; rw [range_getD _ _ _ h]
theorem turnD_len (fmt : Nat) (a : List UInt8) (l : List Nat) : (turnD fmt a l).length = 16 := by simp [turnD]
theorem hexv_lt16 (c : UInt8) (h : isDec c = true) : hexv c < 16 := hexv_lt c (isHex_of_dec h)
theorem fieldD_lt (fmt : Nat) (a : List UInt8) (h : ∀ c ∈ a, isDec c = true) (i : Nat) : fieldD fmt a i < 16 := by
  unfold fieldD
  split
  · omega
  · rw [List.getD_eq_getElem?_getD]
    cases hq : a[a.length + i - 17]? with
    | none => decide
    | some c => exact hexv_lt16 c (h c (List.mem_of_getElem? hq))
theorem turnD_lt (fmt : Nat) (a : List UInt8) (l : List Nat) (h : ∀ c ∈ a, isDec c = true) (hl : ∀ c ∈ l, c < 16) : ∀ c ∈ turnD fmt a l, c < 16 := by
  intro c hc
  simp only [turnD, List.mem_map] at hc
  obtain ⟨i, _, rfl⟩ := hc
  exact xor_lt16 _ _ (getD_lt16 _ hl _) (fieldD_lt _ _ h _)
/-- to turn bytes is to turn their digits -/
theorem turn_pack (fmt : Nat) (a : List UInt8) (l : List Nat) (h13 : 13 ≤ a.length) (h : ∀ c ∈ a, isDec c = true) (hl : l.length = 16) (hlt : ∀ c ∈ l, c < 16) : turnC fmt a (packN l) = packN (turnD fmt a l) := by
  unfold turnC
  by_cases hf : fmt = 1
  · rw [if_pos hf]
    congr 1
    apply List.ext_getElem
    · rw [turnD_len, hl]
    · intro i h1 h2
      have : fieldD fmt a i = 0 := by unfold fieldD; rw [if_pos (.inl hf)]
      simp only [turnD, List.getElem_map, List.getElem_range, this, Nat.xor_zero]
      rw [List.getD_eq_getElem?_getD, List.getElem?_eq_getElem h1]; rfl
  · rw [if_neg hf, unhexL_pack, xor_pack _ _ hl (by rw [List.length_map, fieldS_len _ h13]) hlt (by
      intro c hc
      obtain ⟨x, hx, rfl⟩ := List.mem_map.1 hc
      exact hexv_lt x (fieldS_hex a h x hx))]
    congr 1
    unfold turnD
    apply List.map_congr_left
    intro i hi
    rw [fieldS_val fmt a h13 hf i (by simpa using hi)]
theorem rawD_len (fmt : Nat) (p : List UInt8) (fill : List Nat) (hf : fmt = 0 ∨ fmt = 1 ∨ fmt = 3) (hl : p.length < 16) (hfl : fill.length = 8) (hfb : ∀ c ∈ fill, c < 256) : (rawD fmt p fill).length = 16 := by
  rw [← raw_val fmt p fill hf hl hfb, List.length_map, raw_len _ _ _ hfl]
theorem rawD_lt (fmt : Nat) (p : List UInt8) (fill : List Nat) (hf : fmt = 0 ∨ fmt = 1 ∨ fmt = 3) (hl : p.length < 16) (hp : ∀ c ∈ p, isDec c = true) (hfb : ∀ c ∈ fill, c < 256) : ∀ c ∈ rawD fmt p fill, c < 16 := by
  rw [← raw_val fmt p fill hf hl hfb]
  intro c hc
  obtain ⟨x, hx, rfl⟩ := List.mem_map.1 hc
  exact hexv_lt x (raw_hex fmt p fill (by omega) hl hp hfb x hx)
/-- what the code makes is what the document asks for -/
theorem makeC_eq (fmt : Nat) (p a : List UInt8) (fill : List Nat) (hf : fmt = 0 ∨ fmt = 1 ∨ fmt = 3) (hl : p.length < 16) (hp : ∀ c ∈ p, isDec c = true) (h13 : 13 ≤ a.length) (ha : ∀ c ∈ a, isDec c = true) (hfl : fill.length = 8) (hfb : ∀ c ∈ fill, c < 256) :
    makeC fmt p a fill = makeD fmt p a fill := by
  unfold makeC makeD
  rw [unhexL_pack, raw_val fmt p fill hf hl hfb]
  exact turn_pack fmt a _ h13 ha (rawD_len fmt p fill hf hl hfl hfb) (rawD_lt fmt p fill hf hl hp hfb)
theorem makeD_len (fmt : Nat) (p a : List UInt8) (fill : List Nat) : (makeD fmt p a fill).length = 8 := by unfold makeD; rw [packN_len, turnD_len]
theorem turnC_len (fmt : Nat) (a : List UInt8) (b : List Nat) : (turnC fmt a b).length = b.length := by
  unfold turnC; split
  · rfl
  · exact xorTo_len _ _ _
theorem turnC_nib (fmt : Nat) (a : List UInt8) (b : List Nat) (h13 : 13 ≤ a.length) (ha : ∀ c ∈ a, isDec c = true) (hb : b.length = 8) (hlt : ∀ c ∈ b, c < 256) : nibN (turnC fmt a b) = turnD fmt a (nibN b) := by
  have := turn_pack fmt a (nibN b) h13 ha (by rw [nibN_len, hb]) (nibN_lt b hlt)
  rw [packN_nibN] at this
  rw [this, nibN_packN _ (turnD_lt fmt a _ ha (nibN_lt b hlt)) (by rw [turnD_len])]

/-- whether the digit c at place i is none that may be there -/
def noD (fmt c : Nat) : Bool := (fmt == 0 && c != 15) || (fmt == 3 && decide (c < 10)) || (fmt == 4 && c != 10)
def badD (fmt n i c : Nat) : Bool := if i < 2 + n then decide (9 < c) else noD fmt c
/-- the first place from k on, of so many, where it is bad -/
def firstD (fmt : Nat) (l : List Nat) : Nat → Nat → Option Nat
  | _, 0 => none
  | k, m + 1 => if badD fmt (l.getD 1 0) k (l.getD k 0) then some k else firstD fmt l (k + 1) m
/-- the place of what is wrong -/
def readAt (l : List Nat) (fmt : Nat) : Option Nat := if l.getD 0 0 ≠ fmt then some 0 else if l.getD 1 0 < 4 ∨ 12 < l.getD 1 0 then some 1 else firstD fmt l 2 14
def readV (l : List Nat) : List UInt8 := ((l.drop 2).take (l.getD 1 0)).map hexd
theorem firstD_ge (fmt : Nat) (l : List Nat) : ∀ m k r, firstD fmt l k m = some r → k ≤ r ∧ r < k + m := by
  intro m
  induction m with
  | zero => intro k r h; cases h
  | succ m ih =>
    intro k r h
    unfold firstD at h
    split at h
    · injection h with h; omega
    · have := ih _ _ h; omega
/-- a block of one format is none of another one -/
theorem other_fmt (f g : Nat) (p a : List UInt8) (fill : List Nat) (hf : f = 0 ∨ f = 1 ∨ f = 3) (hne : f ≠ g) (hl : p.length < 16) (hp : ∀ c ∈ p, isDec c = true) (ha : ∀ c ∈ a, isDec c = true) (hfb : ∀ c ∈ fill, c < 256) :
    readAt (turnD g a (nibN (makeD f p a fill))) g = some 0 := by
  have h0 : (turnD g a (nibN (makeD f p a fill))).getD 0 0 = f := by
    unfold turnD makeD
    rw [nibN_packN _ (turnD_lt f a _ ha (rawD_lt f p fill hf hl hp hfb)) (by rw [turnD_len]), range_getD _ _ _ (by omega)]
    have e : ∀ h, fieldD h a 0 = 0 := fun h => by unfold fieldD; rw [if_pos (.inr (by omega))]
    rw [e, Nat.xor_zero]
    unfold turnD
    rw [range_getD _ _ _ (by omega), e, Nat.xor_zero]
    rfl
  unfold readAt
  rw [h0, if_pos hne]
/-- turned twice it is as it was -/
theorem turn_twice (fmt : Nat) (a : List UInt8) (l : List Nat) (hl : l.length = 16) : turnD fmt a (turnD fmt a l) = l := by
  apply List.ext_getElem
  · rw [turnD_len, hl]
  · intro i h1 h2
    have e : l[i] = l.getD i 0 := by rw [List.getD_eq_getElem?_getD, List.getElem?_eq_getElem h2]; rfl
    rw [e]
    have hi : i < 16 := by rw [turnD_len] at h1; exact h1
    have e3 : (turnD fmt a (turnD fmt a l))[i] = (turnD fmt a (turnD fmt a l)).getD i 0 := by rw [List.getD_eq_getElem?_getD, List.getElem?_eq_getElem h1]; rfl
    refine e3.trans ?_
    rw [turnD_getD _ _ _ _ hi, turnD_getD _ _ _ _ hi, Nat.xor_assoc, Nat.xor_self, Nat.xor_zero]
end Go.Proofs.YtfkjkkjimdilcaaGreatDoor.Pr
