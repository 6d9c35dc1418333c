/- The plain law: what pin.Four made is read back. -/
import Derived.Test.YtnkgglmfoimbhaaGreatDoorPin5
namespace Go.Proofs.YtnkgglmfoimbhaaGreatDoor
open Go Go.RowKit Pr

/-- a block of format 4, deciphered -/
def openX (key b : List Nat) (a : List UInt8) : List Nat := aesN key (xorTo (fourA a) (aesN key b true) 16) true
theorem aes_back {key x : List Nat} (hk : Byt key) (hl : x.length = 16) (hx : Byt x) : aesN key (aesN key x false) true = x := by
  show decG (encG x (wordsG key) 10) (wordsG key) 10 = x
  exact dec_enc hl hx (wordsG_byt hk) 10
theorem xorTo_back {a x : List Nat} (ha : a.length = 16) (hx : x.length = 16) : xorTo a (xorTo a x 16) 16 = x := by
  refine list_ext16 (by rw [xorTo_len, ha]) hx fun i hi => ?_
  have h1 := xorTo_getD a (xorTo a x 16) 16 i hi (by omega)
  have h2 := xorTo_getD a x 16 i hi (by omega)
  rw [h1, h2, ← Nat.xor_assoc, Nat.xor_self, Nat.zero_xor]
theorem four_back {key : List Nat} (hk : Byt key) (p a : List UInt8) (fill : List Nat) (hp : p.length ≤ 12) (hpd : ∀ c ∈ p, isDec c = true) (ha : a.length ≤ 19) (had : ∀ c ∈ a, isDec c = true) (hfl : fill.length = 8) (hfb : ∀ c ∈ fill, c < 256) :
    openX key (fourN key p a fill) a = fourX p fill := by
  have hxl := fourX_len p fill hp hfl
  have hxb : Byt (fourX p fill) := unhexL_lt (fourS_hex _ _ hp hpd hfb)
  have hal := fourA_len a (by omega)
  have hab : Byt (fourA a) := unhexL_lt (acctS_hex _ ha had)
  unfold openX fourN
  rw [aes_back hk (by rw [xorTo_len, hal]) (xorTo_byt hab (aesN_byt hk hxl hxb false) 16), xorTo_back hal (aesN_len _ _ _), aes_back hk hxl hxb]
end Go.Proofs.YtnkgglmfoimbhaaGreatDoor
