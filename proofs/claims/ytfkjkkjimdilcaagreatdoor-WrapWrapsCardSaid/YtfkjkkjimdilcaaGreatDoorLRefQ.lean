/- The contracts of lockboxref08: Value, First. The contracts of lockboxref14.Wrong, lockboxref08.Digit. -/
import Derived.Test.YtfkjkkjimdilcaaGreatDoorLDig
import Derived.Test.YtfkjkkjimdilcaaGreatDoorLPureAll
import Derived.Test.YtfkjkkjimdilcaaGreatDoorLPinAll
import Derived.Test.YtfkjkkjimdilcaaGreatDoorLAs
import Derived.Test.YtfkjkkjimdilcaaGreatDoorLNums
import Derived.Laws.IdiomStrings
/- The contracts of lockboxref08: Value, First. -/
namespace Go.Proofs.YtfkjkkjimdilcaaGreatDoor
open Go Go.RowKit Pr

end Go.Proofs.YtfkjkkjimdilcaaGreatDoor

/- The contracts of lockboxref14.Wrong, lockboxref08.Digit. -/
namespace Go.Proofs.YtfkjkkjimdilcaaGreatDoor
open Go Go.RowKit Pr

theorem xorTo_take (x y : List Nat) (n : Nat) (hx : x.length = n) (hy : y.length = n) (k : Nat) (hk : k < n) : (xorTo x y n).take (k + 1) = (xorTo x y n).take k ++ [x.getD k 0 ^^^ y.getD k 0] := by
 rw [List.take_succ_eq_append_getElem (by rw [xorTo_len, hx]; exact hk)]
 congr 1
 have hg : ∀ m j, j < m → (xorTo x y m)[j]? = if j < x.length then some (x.getD j 0 ^^^ y.getD j 0) else none := by
  intro m
  induction m with
  | zero => intro j h; omega
  | succ m ih =>
   intro j h
   rw [xorTo, List.getElem?_set]
   by_cases e : m = j
   ·
    subst e
    rw [if_pos rfl, xorTo_len]
   ·
    rw [if_neg e]; exact ih j (by omega)
 have := hg n k hk
 rw [if_pos (by omega), List.getElem?_eq_getElem (by rw [xorTo_len]; omega)] at this
 rw [Option.some.inj this]
/-- the operation alone: a new row of one byte turned into a string -/
theorem op_one_string {P : Program} {K : Act → World → Prop} {Q : Exit → Act → World → Prop} {o : Oper} {a : Act} {w : World} (src dst e : TypeId) (x : Operand) (hop : o.op = .convert src dst x) (g cap : Nat) (c : Nat) (hc : c < 256) (hx : a.eval x = .slice (some ⟨g, 0, none⟩) 1 cap)
    (hs : P.underlying src = some (.slice e)) (he : P.underlying e = some (.int .u8)) (hd : P.underlying dst = some .string) (hB : w.cell? ⟨g, 0, none⟩ = some (.int .u8 (c : Int))) (h : K (a.put o.dst (.string ⟨#[UInt8.ofNat c]⟩)) w) : o.wp P a w K Q := by
 have hr := run_convert_bytes_back (P := P) w src dst e ⟨g, 0, none⟩ cap [UInt8.ofNat c] hs he hd (fun j hj => by
  obtain rfl : j = 0 := by simpa using hj
  rw [Addr.add_mid]
  simp only [List.getElem_cons_zero, Nat.zero_add]
  rw [UInt8.toNat_ofNat_of_lt' hc]
  exact hB)
 unfold Oper.wp execOp
 simp only [hop, hx, Sem.run_bind]
 rw [show ([UInt8.ofNat c] : List UInt8).length = 1 from rfl] at hr
 rw [hr]
 exact h
theorem wpList_one_string {P : Program} {ops : Array Oper} {rest : List Oper} {Q : Exit → Act → World → Prop} {o : Oper} {a : Act} {w : World} (hgd : o.guard = none) (src dst e : TypeId) (x : Operand) (hop : o.op = .convert src dst x) (g cap : Nat) (c : Nat) (hc : c < 256) (hx : a.eval x = .slice (some ⟨g, 0, none⟩) 1 cap)
    (hs : P.underlying src = some (.slice e)) (he : P.underlying e = some (.int .u8)) (hd : P.underlying dst = some .string) (hB : w.cell? ⟨g, 0, none⟩ = some (.int .u8 (c : Int))) (h : wpList P ops Q rest (a.put o.dst (.string ⟨#[UInt8.ofNat c]⟩)) w) : wpList P ops Q (o :: rest) a w :=
 wpList_plain hgd fun _ hK => op_one_string src dst e x hop g cap c hc hx hs he hd hB (hK _ _ h)

set_option maxHeartbeats 1000000 in
theorem digit8_any (n : Nat) (h : n < 16) (w : World) : Calls Tryz.prog 84 #[.int .i64 n] w fun e w' => e = .returned (.string ⟨#[hexd n]⟩) ∧ Below w.heap.size w w' := by
 by_cases h1 : n < 10
 ·
  have hd : hexd n = UInt8.ofNat (48 + n) := by unfold hexd; rw [if_pos h1]
  rw [hd]
  clear hd
  have e1 : IntKind.i64.wrap (48 + (n : Int)) = 48 + (n : Int) := IntWalk.i64_in _ (by omega)
  have e2 : IntKind.u8.wrap (48 + (n : Int)) = ((48 + n : Nat) : Int) := by simp [IntKind.wrap, IntKind.bits, IntKind.signed]; omega
  obtain ⟨c, hc⟩ : ∃ c, 48 + n = c := ⟨_, rfl⟩
  have hc2 : c < 256 := by omega
  rw [hc] at e2 ⊢
  clear hc
  have hcell : (w.alloc (.cells #[.int .u8 (c : Int)] 5)).cell? ⟨w.heap.size, 0, none⟩ = some (.int .u8 (c : Int)) := (Blk.new w 5 #[.int .u8 (c : Int)]).cell 0
  go_enter Tryz.func84, Tryz.ntmps84
  go_wp2_with (refine wpList_one_string rfl 22 9 5 (.tmp 8) rfl w.heap.size 1 c hc2 rfl Tryz.underlying22 Tryz.underlying5 Tryz.underlying9 hcell ?_)
  go_ret
  exact ⟨rfl, (Below.refl _ _).alloc (Nat.le_refl _) _⟩
 ·
  have hd : hexd n = UInt8.ofNat (55 + n) := by unfold hexd; rw [if_neg h1]
  rw [hd]
  clear hd
  have e1 : IntKind.i64.wrap (55 + (n : Int)) = 55 + (n : Int) := IntWalk.i64_in _ (by omega)
  have e2 : IntKind.u8.wrap (55 + (n : Int)) = ((55 + n : Nat) : Int) := by simp [IntKind.wrap, IntKind.bits, IntKind.signed]; omega
  obtain ⟨c, hc⟩ : ∃ c, 55 + n = c := ⟨_, rfl⟩
  have hc2 : c < 256 := by omega
  rw [hc] at e2 ⊢
  clear hc
  have hcell : (w.alloc (.cells #[.int .u8 (c : Int)] 5)).cell? ⟨w.heap.size, 0, none⟩ = some (.int .u8 (c : Int)) := (Blk.new w 5 #[.int .u8 (c : Int)]).cell 0
  go_enter Tryz.func84, Tryz.ntmps84
  go_wp2_with (refine wpList_one_string rfl 22 9 5 (.tmp 13) rfl w.heap.size 1 c hc2 rfl Tryz.underlying22 Tryz.underlying5 Tryz.underlying9 hcell ?_)
  go_ret
  exact ⟨rfl, (Below.refl _ _).alloc (Nat.le_refl _) _⟩


end Go.Proofs.YtfkjkkjimdilcaaGreatDoor
