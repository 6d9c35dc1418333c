/- Arrays of bytes by value: compared, read as arguments. -/
import Derived.Test.YthodpjcdmdbnoaaGreatDoorNKit
import Derived.Stop.BytesEq
import Derived.ChangeMaps5
import Derived.ChangeReads
import Derived.ChangeArms
import Derived.ChangeSame
import Derived.Carry
namespace Go.Proofs.YthodpjcdmdbnoaaGreatDoor
open Go Go.ChangeShapes Go.WideShapes Go.RowKit Pr

theorem cell_of_nat (c : Nat) (h : c < 256) : Extern.Stop.cell (UInt8.ofNat c) = .int .u8 (c : Int) := by
 show Value.int .u8 ((UInt8.ofNat c).toNat : Int) = _
 rw [UInt8.toNat_ofNat_of_lt' h]
theorem cells_of_nat (l : List Nat) (h : ∀ c ∈ l, c < 256) : ((l.map UInt8.ofNat).map Extern.Stop.cell).toArray = byteCells l := by
 unfold byteCells
 congr 1
 rw [List.map_map]
 exact List.map_congr_left fun c hc => cell_of_nat c (h c hc)
theorem ofNat_inj (l m : List Nat) (h1 : ∀ c ∈ l, c < 256) (h2 : ∀ c ∈ m, c < 256) : (l.map UInt8.ofNat == m.map UInt8.ofNat) = decide (l = m) := by
 rw [Bool.eq_iff_iff, beq_iff_eq, decide_eq_true_eq]
 constructor
 ·
  intro h
  have e : ∀ (x : List Nat), (∀ c ∈ x, c < 256) → (x.map UInt8.ofNat).map UInt8.toNat = x := fun x hx => by
   rw [List.map_map]
   conv => rhs; rw [← List.map_id x]
   exact List.map_congr_left fun c hc => UInt8.toNat_ofNat_of_lt' (hx c hc)
  rw [← e l h1, ← e m h2, h]
 ·
  rintro rfl; rfl
theorem eqBytes {P : Program} (w : World) (t e : TypeId) (n : Nat) (ht : P.underlying t = some (.array n e)) (he : P.underlying e = some (.int .u8)) (hsz : ∀ w, (sizeOf e).run P w = .ok 1 w)
    (l m : List Nat) (hl : l.length = n) (hm : m.length = n) (h1 : ∀ c ∈ l, c < 256) (h2 : ∀ c ∈ m, c < 256) :
    (Op.equalIn 10000 t (.agg (byteCells l)) (.agg (byteCells m))).run P w = .ok (decide (l = m)) w := by
 have := run_equalIn_bytes (P := P) w 9998 t e n ht he hsz (l.map UInt8.ofNat) (m.map UInt8.ofNat) (by simp [hl]) (by simp [hm])
 rw [cells_of_nat l h1, cells_of_nat m h2, ofNat_inj l m h1 h2] at this
 exact this
theorem size_u8 {P : Program} {e : TypeId} (h : (P.info? e).map (·.size) = some 1) (w : World) : (sizeOf e).run P w = .ok 1 w := by
 cases hi : P.info? e with
 | none => rw [hi] at h; cases h
 | some i =>
  rw [hi] at h
  simp [sizeOf, typeInfo, hi] at h ⊢
  exact h

section
variable {H : Type} {enc : TypeId × Value → H} {P : Program} {w : World} {base : Nat} {sp : Nat → Bool} {held : Bool}

theorem wf_u8 {n : Int} (h : (Lit.int .u8 n).wf = true) : ∃ c : Nat, n = c ∧ c < 256 := by
 have : 0 ≤ n ∧ n ≤ 255 := by simpa [Lit.wf, IntKind.min, IntKind.max, IntKind.bits, IntKind.signed] using h
 exact ⟨n.toNat, by omega, by omega⟩
theorem mapM_bytes {e : TypeId} (he : P.underlying e = some (.int .u8)) {m : Nat} {cs : List Value} : ∀ (L : List Nat) (xs : List (DataW H × List MemPlace)),
    L.mapM (fun i => DataW.trod enc P w base sp held m e ((cs.drop (i * 1)).take 1)) = some xs →
    ∃ l : List Nat, l.length = L.length ∧ (∀ c ∈ l, c < 256) ∧ xs = l.map (fun (c : Nat) => (.lit (.int .u8 (c : Int)), [])) ∧ ∀ (j : Nat) (h : j < L.length) (h' : j < l.length), cs[L[j]]? = some (.int .u8 (l[j] : Int))
 | [], xs, h => by
  simp at h
  subst h
  exact ⟨[], rfl, by simp, rfl, by simp⟩
 | i :: L, xs, h => by
  rw [List.mapM_cons] at h
  simp only [bind, Option.bind_eq_some_iff, pure, Option.some.injEq] at h
  obtain ⟨y, hy, ys, hys, rfl⟩ := h
  obtain ⟨l, hl, hlt, rfl, hc⟩ := mapM_bytes he L ys hys
  obtain ⟨a, ea, rfl, wa⟩ := DataW.trod_int he hy
  obtain ⟨c, rfl, hc256⟩ := wf_u8 wa
  refine ⟨c :: l, by simp [hl], ?_, rfl, ?_⟩
  ·
   intro x hx
   rcases List.mem_cons.1 hx with rfl | hx
   ·
    exact hc256
   ·
    exact hlt x hx
  ·
   intro j h1 h2
   cases j with
   | zero =>
    rw [Nat.mul_one] at ea
    have : (List.take 1 (List.drop i cs))[0]? = some (.int .u8 (c : Int)) := by rw [ea]; rfl
    rw [List.getElem?_take_of_lt (by omega), List.getElem?_drop] at this
    simpa using this
   | succ j => simpa using hc j (by simpa using h1) (by simpa using h2)
theorem open_bytesA {r : Reach} {b0 : Nat} {t e : TypeId} {n : Nat} {v : Value} {d : DataW H} {ps : List MemPlace} (hu : P.underlying t = some (.array n e)) (he : P.underlying e = some (.int .u8)) (hce : P.cellsOf e = 1) (hct : P.cellsOf t = n)
    (hval : Value.okWide P w r b0 t v) (hd : DataW.Trod enc P w base sp held t v d ps) :
    ∃ l : List Nat, l.length = n ∧ (∀ c ∈ l, c < 256) ∧ v = .agg (byteCells l) ∧ d = .agg (l.map fun (c : Nat) => .lit (.int .u8 (c : Int))) ∧ ps = [] := by
 simp only [Value.okWide, hu] at hval
 obtain ⟨cs, rfl, h2, _⟩ := hval
 obtain ⟨fuel, hf⟩ := hd
 cases fuel with
 | zero => simp [DataW.trod] at hf
 | succ m =>
  rw [DataW.trod_step] at hf
  unfold DataW.trodStep at hf
  simp only [hu, Value.cells, hce] at hf
  rw [if_pos (by simpa using h2)] at hf
  simp only [Option.map_eq_some_iff] at hf
  obtain ⟨ys, hy, e1⟩ := hf
  obtain ⟨l, hl, hlt, rfl, hc⟩ := mapM_bytes he _ ys hy
  simp only [Prod.mk.injEq] at e1
  rw [List.length_range] at hl
  refine ⟨l, hl, hlt, ?_, ?_, ?_⟩
  ·
   congr 1
   apply Array.ext
   ·
    rw [size_byteCells, hl, h2, hct]
   ·
    intro j h3 h4
    have hj : j < l.length := by rwa [size_byteCells] at h4
    have := hc j (by rw [List.length_range]; omega) hj
    rw [List.getElem_range] at this
    have h5 := get_byteCells l j hj
    rw [Array.getElem?_eq_getElem h4] at h5
    rw [Option.some.inj h5]
    have h6 : cs.toList[j]? = some cs[j] := by simp [h3]
    rw [h6] at this
    exact Option.some.inj this
  ·
   rw [← e1.1]; simp [Function.comp_def]
  ·
   rw [← e1.2]; simp [List.flatMap_eq_nil_iff]
end
end Go.Proofs.YthodpjcdmdbnoaaGreatDoor
