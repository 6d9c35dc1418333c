/- Plain definitions and facts on texts of digits; no program in sight. -/
import Derived.Test.YtgffppmpmjaknaaDoorPure
import Derived.Lib.Bytealg
namespace Go.Proofs.YtgffppmpmjaknaaDoor.Pr

def digs : List UInt8 := [48, 49, 50, 51, 52, 53, 54, 55, 56, 57, 65, 66, 67, 68, 69, 70]
/-- is a byte one of some? -/
def isIn (sm : List UInt8) (c : UInt8) : Bool := decide (0 ≤ Lib.indexByte sm c)
def isDec (c : UInt8) : Bool := decide (48 ≤ c.toNat ∧ c.toNat ≤ 57)
def isHex (c : UInt8) : Bool := isDec c || decide (65 ≤ c.toNat ∧ c.toNat ≤ 70)
/-- a hexadecimal digit's number -/
def hexv (c : UInt8) : Nat := if c.toNat ≤ 57 then c.toNat - 48 else c.toNat - 55
def hexd (n : Nat) : UInt8 := if n < 10 then UInt8.ofNat (48 + n) else UInt8.ofNat (55 + n)

theorem all_u8 {p : UInt8 → Prop} [DecidablePred p] (h : (List.range 256).all (fun n => decide (p (UInt8.ofNat n))) = true) (c : UInt8) : p c := by
  have := List.all_eq_true.1 h c.toNat (List.mem_range.2 c.toNat_lt)
  rw [decide_eq_true_eq, UInt8.ofNat_toNat] at this
  exact this
theorem isIn_digs (c : UInt8) : isIn digs c = isHex c := all_u8 (p := fun c => isIn digs c = isHex c) (by decide +kernel) c
theorem isIn_dec (c : UInt8) : isIn (digs.take 10) c = isDec c := all_u8 (p := fun c => isIn (digs.take 10) c = isDec c) (by decide +kernel) c
theorem indexByte_digs (c : UInt8) (h : isHex c = true) : Lib.indexByte digs c = hexv c := by
  have := all_u8 (p := fun c => isHex c = true → Lib.indexByte digs c = hexv c) (by decide +kernel) c
  exact this h
theorem hexv_lt (c : UInt8) (h : isHex c = true) : hexv c < 16 := by
  have := all_u8 (p := fun c => isHex c = true → hexv c < 16) (by decide +kernel) c
  exact this h
theorem isHex_of_dec {c : UInt8} (h : isDec c = true) : isHex c = true := by simp [isHex, h]

/-- the place of the first byte that isn't right -/
def badAt (p : UInt8 → Bool) : List UInt8 → Option Nat
  | [] => none
  | c :: r => if p c then (badAt p r).map (· + 1) else some 0
def badZ (p : UInt8 → Bool) (s : List UInt8) : Int := match badAt p s with | some k => k | none => -1
theorem badAt_none {p : UInt8 → Bool} : ∀ {s : List UInt8}, (∀ c ∈ s, p c = true) → badAt p s = none
  | [], _ => rfl
  | c :: r, h => by rw [badAt, if_pos (h c (by simp)), badAt_none fun c hc => h c (by simp [hc])]; rfl
theorem badAt_some {p : UInt8 → Bool} : ∀ {s : List UInt8} {k : Nat} (hk : k < s.length), (∀ j (h : j < k), p (s[j]'(by omega)) = true) → p s[k] = false → badAt p s = some k
  | c :: r, 0, _, _, h => by rw [badAt, if_neg (by simpa using h)]
  | c :: r, k + 1, hk, h, hb => by
    rw [badAt, if_pos (by simpa using h 0 (by omega)), badAt_some (k := k) (by simpa using hk) (fun j hj => by simpa using h (j + 1) (by omega)) (by simpa using hb)]
    rfl
theorem all_of_badAt {p : UInt8 → Bool} : ∀ {s : List UInt8}, badAt p s = none → ∀ c ∈ s, p c = true
  | [], _, c, hc => by cases hc
  | d :: r, h, c, hc => by
    rw [badAt] at h
    by_cases hd : p d = true
    · rw [if_pos hd] at h
      rcases List.mem_cons.1 hc with rfl | hc
      · exact hd
      · exact all_of_badAt (by simpa using h) c hc
    · rw [if_neg hd] at h; cases h
theorem badAt_lt {p : UInt8 → Bool} : ∀ {s : List UInt8} {k : Nat}, badAt p s = some k → k < s.length
  | [], k, h => by cases h
  | d :: r, k, h => by
    rw [badAt] at h
    by_cases hd : p d = true
    · rw [if_pos hd] at h
      obtain ⟨k', hk, rfl⟩ := Option.map_eq_some_iff.1 h
      have := badAt_lt hk
      simp; omega
    · rw [if_neg hd] at h; cases h; simp
theorem badAt_congr {p q : UInt8 → Bool} (h : ∀ c, p c = q c) (s : List UInt8) : badAt p s = badAt q s := by
  rw [show p = q from funext h]

def hexL (l : List Nat) : List UInt8 := l.flatMap fun c => [hexd (c / 16), hexd (c % 16)]
theorem hexL_snoc (l : List Nat) (c : Nat) : hexL (l ++ [c]) = hexL l ++ [hexd (c / 16)] ++ [hexd (c % 16)] := by simp [hexL]
theorem hexL_len (l : List Nat) : (hexL l).length = 2 * l.length := by
  induction l with
  | nil => rfl
  | cons c l ih => simp only [hexL, List.flatMap_cons, List.length_append, List.length_cons, List.length_nil] at *; omega
def unhexAt (s : List UInt8) (j : Nat) : Nat := hexv (s.getD (2 * j) 0) * 16 + hexv (s.getD (2 * j + 1) 0)
def unhexL (s : List UInt8) : List Nat := (List.range (s.length / 2)).map (unhexAt s)
theorem unhexL_len (s : List UInt8) : (unhexL s).length = s.length / 2 := by simp [unhexL]
theorem unhexAt_lt {s : List UInt8} (h : ∀ c ∈ s, isHex c = true) (j : Nat) (hj : 2 * j + 1 < s.length) : unhexAt s j < 256 := by
  have e : ∀ i < s.length, hexv (s.getD i 0) < 16 := fun i hi => by
    have : s.getD i 0 = s[i] := by simp [List.getD_eq_getElem?_getD, hi]
    rw [this]; exact hexv_lt _ (h _ (List.getElem_mem _))
  have h1 := e (2 * j) (by omega)
  have h2 := e (2 * j + 1) hj
  unfold unhexAt; omega
theorem unhexL_lt {s : List UInt8} (h : ∀ c ∈ s, isHex c = true) : ∀ c ∈ unhexL s, c < 256 := by
  intro c hc
  simp only [unhexL, List.mem_map, List.mem_range] at hc
  obtain ⟨j, hj, rfl⟩ := hc
  exact unhexAt_lt h j (by omega)
theorem unhexL_take (s : List UInt8) (j : Nat) (h : j < s.length / 2) : (unhexL s).take (j + 1) = (unhexL s).take j ++ [unhexAt s j] := by
  have hl : j < (unhexL s).length := by rw [unhexL_len]; exact h
  rw [List.take_succ_eq_append_getElem hl]
  simp [unhexL]

/-- the decimal digits; the others, less ten -/
def decsL (s : List UInt8) : List UInt8 := s.filter isDec
def lowd (c : UInt8) : UInt8 := UInt8.ofNat (38 + hexv c)
def lowsL (s : List UInt8) : List UInt8 := (s.filter fun c => !isDec c).map lowd
def pickL (s : List UInt8) : List UInt8 := decsL s ++ lowsL s
theorem hexv_dec (c : UInt8) (h : isDec c = true) : hexv c < 10 := all_u8 (p := fun c => isDec c = true → hexv c < 10) (by decide +kernel) c h
theorem hexv_alpha (c : UInt8) (h : isHex c = true) (hd : isDec c = false) : 10 ≤ hexv c ∧ hexv c < 16 := all_u8 (p := fun c => isHex c = true → isDec c = false → 10 ≤ hexv c ∧ hexv c < 16) (by decide +kernel) c h hd
theorem lowd_val (c : UInt8) (h : isHex c = true) (hd : isDec c = false) : (lowd c).toNat = 38 + hexv c := all_u8 (p := fun c => isHex c = true → isDec c = false → (lowd c).toNat = 38 + hexv c) (by decide +kernel) c h hd
theorem indexByte_nodig (c : UInt8) (h : isHex c = false) : Lib.indexByte digs c = -1 := all_u8 (p := fun c => isHex c = false → Lib.indexByte digs c = -1) (by decide +kernel) c h
theorem decsL_snoc (s : List UInt8) (c : UInt8) : decsL (s ++ [c]) = if isDec c then decsL s ++ [c] else decsL s := by
  unfold decsL
  rw [List.filter_append]
  cases h : isDec c <;> simp [List.filter, h]
theorem lowsL_snoc (s : List UInt8) (c : UInt8) : lowsL (s ++ [c]) = if isDec c then lowsL s else lowsL s ++ [lowd c] := by
  unfold lowsL
  rw [List.filter_append]
  cases h : isDec c <;> simp [List.filter, h]
theorem decsL_len (s : List UInt8) : (decsL s).length ≤ s.length := List.length_filter_le _ _
theorem lowsL_len (s : List UInt8) : (lowsL s).length ≤ s.length := by unfold lowsL; rw [List.length_map]; exact List.length_filter_le _ _
theorem pickL_len (s : List UInt8) : (pickL s).length = s.length := by
  unfold pickL decsL lowsL
  rw [List.length_append, List.length_map]
  induction s with
  | nil => rfl
  | cons c s ih =>
    cases h : isDec c <;> simp only [List.filter_cons, h, Bool.not_true, Bool.not_false, if_true, if_false, List.length_cons, Bool.false_eq_true] <;> omega
end Go.Proofs.YtgffppmpmjaknaaDoor.Pr
