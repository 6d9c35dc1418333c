/- The contract of emv.Session. -/
import Derived.Test.YtgffppmpmjaknaaDoorEmvA
import Derived.Test.YtgffppmpmjaknaaDoorCode
namespace Go.Proofs.YtgffppmpmjaknaaDoor
open Go Go.RowKit Pr

/-- a key's two halves -/
def ssX (n : Nat) : List Nat := [n / 256, n % 256, 240, 0, 0, 0, 0, 0]
def ssY (n : Nat) : List Nat := [n / 256, n % 256, 15, 0, 0, 0, 0, 0]
def pairN (key x y : List Nat) : List Nat := triple16 (key.take 8) (key.drop 8) x false ++ triple16 (key.take 8) (key.drop 8) y false
def ssEr (n : Nat) (counter : Int) : Er := if counter < 0 ∨ 65535 < counter then .no 1 else if n ≠ 16 then .no 2 else .ok
def ssVal (key : List Nat) (counter : Int) : List Nat := match ssEr key.length counter with | .ok => pairN key (ssX counter.toNat) (ssY counter.toNat) | _ => []

theorem ssX_lt (n : Nat) (h : n ≤ 65535) : ∀ c ∈ ssX n, c < 256 := by
  intro c hc
  simp [ssX] at hc
  omega
theorem ssY_lt (n : Nat) (h : n ≤ 65535) : ∀ c ∈ ssY n, c < 256 := by
  intro c hc
  simp [ssY] at hc
  omega

set_option maxHeartbeats 2000000 in
set_option maxRecDepth 100000 in
theorem session_any (key : List Nat) (hkb : ∀ c ∈ key, c < 256) (A : Option Addr) (cp : Nat) (hcp : key.length ≤ cp) (counter : Int) (w : World) (hA : At w A key) :
    Calls Tryd.prog 13 #[.slice A key.length cp, .int .i64 counter] w fun e w' =>
      (∃ v u, e = .returned (.tuple #[v, u]) ∧ Own w' w.heap.size v (ssVal key counter) ∧ ErIs w' w.heap.size u (ssEr key.length counter)) ∧ Below w.heap.size w w' := by
  by_cases h1 : counter < 0
  · have hE : ssEr key.length counter = .no 1 := by unfold ssEr; rw [if_pos (.inl h1)]
    have hV : ssVal key counter = [] := by unfold ssVal; rw [hE]
    rw [hE, hV]
    clear hE hV hA
    go_enter Tryd.func13, Tryd.ntmps13
    go_wp2
    go_ret2
    exact ⟨⟨_, _, rfl, Own.nil _ _, rfl⟩, Below.refl _ _⟩
  · by_cases h2 : 65535 < counter
    · have hE : ssEr key.length counter = .no 1 := by unfold ssEr; rw [if_pos (.inr h2)]
      have hV : ssVal key counter = [] := by unfold ssVal; rw [hE]
      rw [hE, hV]
      clear hE hV hA
      go_enter Tryd.func13, Tryd.ntmps13
      go_wp2
      go_ret2
      exact ⟨⟨_, _, rfl, Own.nil _ _, rfl⟩, Below.refl _ _⟩
    · by_cases h3 : key.length = 16
      · have hE : ssEr key.length counter = .ok := by unfold ssEr; rw [if_neg (by omega), if_neg (by omega)]
        have hV : ssVal key counter = pairN key (ssX counter.toNat) (ssY counter.toNat) := by unfold ssVal; rw [hE]
        rw [hE, hV, h3]
        clear hE hV
        obtain ⟨n, rfl⟩ := Int.eq_ofNat_of_zero_le (by omega : 0 ≤ counter)
        rw [show (n : Int).toNat = n from rfl]
        have hn : n ≤ 65535 := by omega
        obtain ⟨b, o, rfl, hB⟩ := hA (by intro h; rw [h] at h3; cases h3)
        have hbl := hB.lt (by intro h; rw [h] at h3; cases h3)
        have f0 : Bs w b o (key.take 8) := by have := hB.sub 0 8; simpa using this
        have f1 : Bs w b (o + 8) (key.drop 8) := by have := hB.sub 8 8; rw [List.take_of_length_le (by rw [List.length_drop, h3]; exact Nat.le_refl _)] at this; exact this
        have HP := Lib.hid (fun W a c => pair_any (key.take 8) (key.drop 8) (ssX n) (ssY n) (by rw [List.length_take, h3]; rfl) (by rw [List.length_drop, h3]) rfl rfl (fun c h => hkb c (List.mem_of_mem_take h)) (fun c h => hkb c (List.mem_of_mem_drop h)) (ssX_lt n hn) (ssY_lt n hn) b o cp (by omega) W a c)
        have HPN : Hid (triple16 (key.take 8) (key.drop 8) (ssX n) false ++ triple16 (key.take 8) (key.drop 8) (ssY n) false = pairN key (ssX n) (ssY n)) := rfl
        rw [HPN.out] at HP
        generalize pairN key (ssX n) (ssY n) = V at *
        have t1 : ((16 : Int) != 16) = false := rfl
        have d1 : IntKind.u8.wrap ((n : Int) / 256) = ((n / 256 : Nat) : Int) := by simp [IntKind.wrap, IntKind.bits, IntKind.signed]; omega
        have d2 : IntKind.u8.wrap (n : Int) = ((n % 256 : Nat) : Int) := by simp [IntKind.wrap, IntKind.bits, IntKind.signed]
        clear h1 h2 h3 hA hB
        go_enter Tryd.func13, Tryd.ntmps13
        go_wp2_with fail
        have ex : (#[Value.int .u8 ((n : Int) / 256), Value.int .u8 ((n : Int) % 256), Value.int .u8 240, Value.int .u8 0, Value.int .u8 0, Value.int .u8 0, Value.int .u8 0, Value.int .u8 0] : Array Value) = byteCells (ssX n) := by simp [byteCells, ssX]
        have ey : (#[Value.int .u8 ((n : Int) / 256), Value.int .u8 ((n : Int) % 256), Value.int .u8 15, Value.int .u8 0, Value.int .u8 0, Value.int .u8 0, Value.int .u8 0, Value.int .u8 0] : Array Value) = byteCells (ssY n) := by simp [byteCells, ssY]
        rw [ex, ey]
        refine (HP.out _ ((f0.alloc _).alloc _) ((f1.alloc _).alloc _)).mono ?_
        rintro e w1 ⟨⟨v, rfl, hv⟩, hb1⟩
        have hb : Below w.heap.size w w1 := (((Below.refl _ _).alloc (Nat.le_refl _) _).alloc (by simp) _).trans (hb1.mono (by simp; omega))
        have hv1 := hv.more (C := w.heap.size) (by simp; omega)
        clear ex ey hv hb1
        go_wp2
        go_ret2
        exact ⟨⟨_, _, rfl, hv1, rfl⟩, hb⟩
      · have hE : ssEr key.length counter = .no 2 := by unfold ssEr; rw [if_neg (by omega), if_pos h3]
        have hV : ssVal key counter = [] := by unfold ssVal; rw [hE]
        rw [hE, hV]
        have t1 : ((key.length : Int) != 16) = true := by rw [bne_iff_ne]; omega
        generalize key.length = m at *
        clear hE hV hA
        go_enter Tryd.func13, Tryd.ntmps13
        go_wp2
        go_ret2
        exact ⟨⟨_, _, rfl, Own.nil _ _, rfl⟩, Below.refl _ _⟩
end Go.Proofs.YtgffppmpmjaknaaDoor
