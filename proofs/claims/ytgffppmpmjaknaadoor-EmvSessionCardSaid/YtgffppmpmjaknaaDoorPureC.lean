/- Pure: what cvv.Of reckons. -/
import Derived.Test.YtgffppmpmjaknaaDoorPureB
import Derived.Lib.Repeat
namespace Go.Proofs.YtgffppmpmjaknaaDoor
open Go
namespace Pr

/-- x with its first k places xored with y's -/
def xorTo (x y : List Nat) : Nat → List Nat
  | 0 => x
  | k + 1 => (xorTo x y k).set k (x.getD k 0 ^^^ y.getD k 0)
theorem xorTo_len (x y : List Nat) : ∀ k, (xorTo x y k).length = x.length
  | 0 => rfl
  | k + 1 => by rw [xorTo, List.length_set, xorTo_len x y k]
theorem xorTo_get (x y : List Nat) : ∀ k j, k ≤ j → (xorTo x y k)[j]? = x[j]?
  | 0, _, _ => rfl
  | k + 1, j, h => by rw [xorTo, List.getElem?_set_ne (by omega), xorTo_get x y k j (by omega)]
theorem xorTo_lt (x y : List Nat) (hx : ∀ c ∈ x, c < 256) (hy : ∀ c ∈ y, c < 256) : ∀ k, ∀ c ∈ xorTo x y k, c < 256
  | 0 => hx
  | k + 1 => by
    intro c hc
    rcases List.mem_or_eq_of_mem_set hc with h | rfl
    · exact xorTo_lt x y hx hy k c h
    · have hg : ∀ (l : List Nat), (∀ c ∈ l, c < 256) → l.getD k 0 < 256 := fun l hl => by
        rw [List.getD_eq_getElem?_getD]
        rcases Nat.lt_or_ge k l.length with h | h
        · rw [List.getElem?_eq_getElem h]; exact hl _ (List.getElem_mem _)
        · rw [List.getElem?_eq_none h]; decide
      exact Nat.xor_lt_two_pow (n := 8) (hg x hx) (hg y hy)

def xorN (x y : List Nat) : List Nat := xorTo x y 8

/-- the digits that are enciphered -/
def cvvText (pan date service : List UInt8) : List UInt8 := (pan ++ date ++ service) ++ Lib.repeatL [48] (32 - (pan ++ date ++ service).length)
theorem cvvText_len (pan date service : List UInt8) (h : pan.length + date.length + service.length ≤ 32) : (cvvText pan date service).length = 32 := by
  unfold cvvText
  simp [Lib.repeatL_length]; omega
theorem mem_repeat (l : List UInt8) (x : UInt8) : ∀ n, x ∈ Lib.repeatL l n → x ∈ l
  | 0, h => by simp [Lib.repeatL] at h
  | n + 1, h => by
    rw [Lib.repeatL_add, List.mem_append, Lib.repeatL_one] at h
    rcases h with h | h
    · exact mem_repeat l x n h
    · exact h
theorem cvvText_hex (pan date service : List UInt8) (h1 : ∀ c ∈ pan, isDec c = true) (h2 : ∀ c ∈ date, isDec c = true) (h3 : ∀ c ∈ service, isDec c = true) : ∀ c ∈ cvvText pan date service, isHex c = true := by
  intro c hc
  unfold cvvText at hc
  simp only [List.mem_append] at hc
  rcases hc with ((h | h) | h) | h
  · exact isHex_of_dec (h1 c h)
  · exact isHex_of_dec (h2 c h)
  · exact isHex_of_dec (h3 c h)
  · have := mem_repeat _ _ _ h
    simp at this
    subst this
    decide

def cvvN (k0 k1 b0 b1 : List Nat) : List Nat := blockN k0 (blockN k1 (blockN k0 (xorN (blockN k0 b0 false) b1) false) true) false
theorem cvvN_len (k0 k1 b0 b1 : List Nat) : (cvvN k0 k1 b0 b1).length = 8 := blockN_len _ _ _
theorem cvvN_lt (k0 k1 b0 b1 : List Nat) : ∀ c ∈ cvvN k0 k1 b0 b1, c < 256 := blockN_lt _ _ _

theorem hexd_hex (n : Nat) (h : n < 16) : isHex (hexd n) = true := by
  have : ∀ n < 16, isHex (hexd n) = true := by decide +kernel
  exact this n h
theorem hexL_hex (l : List Nat) (h : ∀ c ∈ l, c < 256) : ∀ c ∈ hexL l, isHex c = true := by
  intro c hc
  unfold hexL at hc
  rw [List.mem_flatMap] at hc
  obtain ⟨x, hx, hc⟩ := hc
  have := h x hx
  simp only [List.mem_cons, List.not_mem_nil, or_false] at hc
  rcases hc with rfl | rfl
  · exact hexd_hex _ (by omega)
  · exact hexd_hex _ (by omega)

/-- the value of a card -/
def cvvVal (k0 k1 : List Nat) (pan date service : List UInt8) : List UInt8 :=
  (pickL (hexL (cvvN k0 k1 ((unhexL (cvvText pan date service)).take 8) ((unhexL (cvvText pan date service)).drop 8)))).take 3
end Pr
end Go.Proofs.YtgffppmpmjaknaaDoor
