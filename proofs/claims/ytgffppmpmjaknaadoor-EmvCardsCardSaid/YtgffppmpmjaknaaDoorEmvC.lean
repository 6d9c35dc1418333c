/- The contract of emv.Card. -/
import Derived.Test.YtgffppmpmjaknaaDoorEmvB
import Derived.Test.YtgffppmpmjaknaaDoorOddB
import Derived.Test.YtgffppmpmjaknaaDoorCvvB
namespace Go.Proofs.YtgffppmpmjaknaaDoor
open Go Go.RowKit Pr

def cardEr (n : Nat) (pan seq : List UInt8) : Er :=
  if n ≠ 16 ∨ seq.length ≠ 2 then .no 2 else
  match decEr pan 13 19 with
  | .ok => (match badAt isDec seq with | some k => .fa k 16 | none => .ok)
  | e => e
/-- the sixteen digits that are enciphered -/
def cardTail (pan seq : List UInt8) : List UInt8 := (Lib.repeatL [48] 16 ++ pan ++ seq).drop (16 + pan.length + seq.length - 16)
def notN (l : List Nat) : List Nat := l.map fun c => 255 - c
def cardN (key : List Nat) (pan seq : List UInt8) : List Nat := (pairN key (unhexL (cardTail pan seq)) (notN (unhexL (cardTail pan seq)))).map oddN
def cardVal (key : List Nat) (pan seq : List UInt8) : List Nat := match cardEr key.length pan seq with | .ok => cardN key pan seq | _ => []
theorem cardVal_bad {key : List Nat} {pan seq : List UInt8} (h : cardEr key.length pan seq ≠ .ok) : cardVal key pan seq = [] := by
  unfold cardVal
  split
  · rename_i h'; exact absurd h' h
  · rfl
theorem cardVal_ok {key : List Nat} {pan seq : List UInt8} (h : cardEr key.length pan seq = .ok) : cardVal key pan seq = cardN key pan seq := by unfold cardVal; rw [h]

set_option maxHeartbeats 1000000 in
set_option maxRecDepth 100000 in
theorem card_size (A : Option Addr) (n cp : Nat) (pan seq : ByteArray) (hbad : n ≠ 16 ∨ seq.size ≠ 2) (w : World) :
    Calls Tryd.prog 17 #[.slice A n cp, .string pan, .string seq] w fun e w' => e = .returned (.tuple #[.slice none 0 0, .iface 55 (.int .i64 2)]) ∧ w = w' := by
  by_cases h1 : n = 16
  · have h2 : seq.size ≠ 2 := by omega
    have t1 : ((n : Int) != 16) = false := by rw [bne_eq_false_iff_eq]; omega
    have t2 : ((seq.size : Int) != 2) = true := by rw [bne_iff_ne]; omega
    clear h1 h2 hbad
    go_enter Tryd.func17, Tryd.ntmps17
    go_wp2
    go_ret2
    exact ⟨rfl, rfl⟩
  · have t1 : ((n : Int) != 16) = true := by rw [bne_iff_ne]; omega
    clear h1 hbad
    go_enter Tryd.func17, Tryd.ntmps17
    go_wp2
    go_ret2
    exact ⟨rfl, rfl⟩

set_option maxHeartbeats 1000000 in
set_option maxRecDepth 100000 in
/-- of an account that is wrong -/
theorem card_pan (A : Option Addr) (cp : Nat) (pan seq : ByteArray) (hp : pan.size ≤ 140737488351232) (hs : seq.size = 2) (hne : decEr pan.data.toList 13 19 ≠ .ok) (w : World) :
    Calls Tryd.prog 17 #[.slice A 16 cp, .string pan, .string seq] w fun e w' => (∃ v, e = .returned (.tuple #[.slice none 0 0, v]) ∧ ErIs w' w.heap.size v (decEr pan.data.toList 13 19)) ∧ Below w.heap.size w w' := by
  have HA := Lib.hid (fun W => account_any pan hp W)
  have t2 : ((seq.size : Int) != 2) = false := by rw [bne_eq_false_iff_eq]; omega
  generalize decEr pan.data.toList 13 19 = er at *
  clear hs
  cases er with
  | ok => exact absurd rfl hne
  | no m =>
    clear hne
    go_enter Tryd.func17, Tryd.ntmps17
    go_wp2_with fail
    refine (HA.out _).mono ?_
    rintro e w1 ⟨⟨v, rfl, hv⟩, hb⟩
    obtain rfl : v = _ := hv
    go_wp2
    go_ret2
    exact ⟨⟨_, rfl, rfl⟩, hb⟩
  | fa p m =>
    clear hne
    go_enter Tryd.func17, Tryd.ntmps17
    go_wp2_with fail
    refine (HA.out _).mono ?_
    rintro e w1 ⟨⟨v, rfl, hv⟩, hb⟩
    have hv' := hv
    obtain ⟨g, rfl, _⟩ := hv'
    go_wp2
    go_ret2
    exact ⟨⟨_, rfl, hv⟩, hb⟩

set_option maxHeartbeats 2000000 in
set_option maxRecDepth 100000 in
/-- of a sequence number that is wrong -/
theorem card_seq (A : Option Addr) (cp : Nat) (pan seq : ByteArray) (hp : pan.size ≤ 140737488351232) (hs : seq.size = 2) (hok : decEr pan.data.toList 13 19 = .ok) (q : Nat) (hq : badAt isDec seq.data.toList = some q) (w : World) :
    Calls Tryd.prog 17 #[.slice A 16 cp, .string pan, .string seq] w fun e w' => (∃ v, e = .returned (.tuple #[.slice none 0 0, v]) ∧ ErIs w' w.heap.size v (.fa q 16)) ∧ Below w.heap.size w w' := by
  have HA := Lib.hid (fun W => account_any pan hp W)
  rw [hok] at HA
  have t2 : ((seq.size : Int) != 2) = false := by rw [bne_eq_false_iff_eq]; omega
  have HQ := Lib.hid hq; clear hq hok
  have HS := Lib.hid hs
  have hs2 : seq.size ≤ 2 := by omega
  clear hs
  go_enter Tryd.func17, Tryd.ntmps17
  go_wp2_with fail
  refine (HA.out _).mono ?_
  rintro e w1 ⟨⟨v, rfl, hv⟩, hb⟩
  obtain rfl : v = _ := hv
  go_wp2_with fail
  go_loopw [33] (fun i wr => ∃ k : Nat, k ≤ seq.size ∧ i = .int .i64 k ∧ Hid (∀ j (h : j < k) (h' : j < seq.size), isDec seq[j] = true) ∧ w1 = wr) (fun i _ => seq.size - (intOf i).toNat)
  case atStart => exact ⟨0, by omega, rfl, fun j h => by omega, rfl⟩
  case round =>
    obtain ⟨k, hk, rfl, hall, rfl⟩ := hrel
    by_cases hlt : k < seq.size
    · have hd := fun W => decimal_one seq k hlt W
      obtain ⟨c, hc⟩ : ∃ c, seq[k] = c := ⟨_, rfl⟩
      simp only [hc] at hd
      have HC := Lib.hid hc; clear hc
      cases hcd : isDec c with
      | true =>
        rw [hcd] at hd
        have HD := Lib.hid hd; clear hd
        have HCD := Lib.hid hcd; clear hcd
        go_wp2_with (go_at_call 32; refine (HD.out _).mono ?_; rintro e w' ⟨rfl, rfl⟩)
        go_roundw
        case rel => exact ⟨k + 1, by omega, by go_num, (fun j h h' => by
          by_cases e : j = k
          · subst e; rw [HC.out]; exact HCD.out
          · exact hall.out j (by omega) h'), by trivial⟩
        case measure => simp [intOf]; omega
      | false =>
        rw [hcd] at hd
        have HD := Lib.hid hd; clear hd
        have hfin : badAt isDec seq.data.toList = some k := badAt_some (k := k) (by simpa using hlt) (fun j hj => hall.out j hj (by omega)) (by show isDec seq[k] = false; rw [HC.out]; exact hcd)
        have hqk : q = k := by rw [HQ.out] at hfin; injection hfin
        have HQK := Lib.hid hqk
        clear hfin hcd hqk
        go_wp2_with (go_at_call 32; refine (HD.out _).mono ?_; rintro e w' ⟨rfl, rfl⟩)
        go_ret2
        rw [HQK.out]
        exact ⟨⟨_, rfl, _, rfl, hb.size, Blk.new _ _ _⟩, hb.alloc hb.size _⟩
    · exfalso
      have hfin : badAt isDec seq.data.toList = none := badAt_none fun c hc => by
        obtain ⟨j, hj, rfl⟩ := List.getElem_of_mem hc
        have hj' : j < seq.size := by simpa using hj
        exact hall.out j (by omega) hj'
      rw [HQ.out] at hfin
      cases hfin
end Go.Proofs.YtgffppmpmjaknaaDoor
