/- The contracts of wrap.kindOf, sizeOf, sort, fits, Fill. The contracts of wrap.Fill, made, Keys, ciphers. The contract of wrap.ciphers. Bytes made of a string, and appended to: 'append([]byte(s), x...)'. -/
import Derived.Test.YtfkjkkjimdilcaaGreatDoorQModeM
import Derived.Test.YtfkjkkjimdilcaaGreatDoorQHeadM
import Derived.Test.YtfkjkkjimdilcaaGreatDoorQConv
import Derived.Test.YtfkjkkjimdilcaaGreatDoorQNums
import Derived.ArgAppend
import Derived.Deep.MidRow
set_option maxHeartbeats 8000000
set_option maxRecDepth 100000
/- The contracts of wrap.kindOf, sizeOf, sort, fits, Fill. -/
namespace Go.Proofs.YtfkjkkjimdilcaaGreatDoor
open Go Go.RowKit Pr

def kindV (v : Nat) : Nat := if v = 66 then 2 else if v = 68 then 1 else 0
theorem kindOf_any (v : Nat) (w : World) :
    Calls Tryz.prog 29 #[.int .u8 v] w fun e w' => e = .returned (.tuple #[.int .i64 (kindV v : Nat), .bool (kindV v != 0)]) ∧ w = w' := by
 unfold kindV
 by_cases h1 : v = 66
 ·
  subst h1
  go_enter Tryz.func29, Tryz.ntmps29
  go_wp2
  go_ret2
  exact ⟨rfl, rfl⟩
 ·
  have t1 : ((v : Int) == 66) = false := by rw [beq_eq_false_iff_ne]; omega
  rw [if_neg h1]
  by_cases h2 : v = 68
  ·
   subst h2; clear h1 t1
   go_enter Tryz.func29, Tryz.ntmps29
   go_wp2
   go_ret2
   exact ⟨rfl, rfl⟩
  ·
   have t2 : ((v : Int) == 68) = false := by rw [beq_eq_false_iff_ne]; omega
   rw [if_neg h2]; clear h1 h2
   go_enter Tryz.func29, Tryz.ntmps29
   go_wp2
   go_ret2
   exact ⟨rfl, rfl⟩
theorem sizeOf_any (v : Nat) (w : World) :
    Calls Tryz.prog 30 #[.int .u8 v] w fun e w' => e = .returned (.int .i64 (sizeN (kindV v) : Nat)) ∧ w = w' := by
 by_cases h1 : v = 66
 ·
  subst h1
  go_enter Tryz.func30, Tryz.ntmps30
  go_wp2
  go_ret
  exact ⟨rfl, rfl⟩
 ·
  have t1 : ((v : Int) == 66) = false := by rw [beq_eq_false_iff_ne]; omega
  have hs : sizeN (kindV v) = 16 := by
   unfold kindV
   rw [if_neg h1]
   split <;> rfl
  rw [hs]; clear h1 hs
  go_enter Tryz.func30, Tryz.ntmps30
  go_wp2
  go_ret
  exact ⟨rfl, rfl⟩
/-- which kind of wrapping key; below 0: none -/
def sortZ (kind n : Nat) : Int := if n = 16 ∨ n = 24 then (if kind = 2 then (n / 8 - 2 : Nat) else (n / 8 : Nat)) else if n = 32 ∧ kind = 1 then 4 else -1
theorem sort_any (kind n : Nat) (hk : kind = 1 ∨ kind = 2) (w : World) :
    Calls Tryz.prog 41 #[.int .i64 kind, .int .i64 n] w fun e w' => e = .returned (.int .i64 (sortZ kind n)) ∧ w = w' := by
 by_cases h16 : n = 16
 ·
  subst h16
  rcases hk with rfl | rfl
  all_goals
   go_enter Tryz.func41, Tryz.ntmps41
   go_wp2
   go_ret
   exact ⟨rfl, rfl⟩
 ·
  by_cases h24 : n = 24
  ·
   subst h24
   rcases hk with rfl | rfl
   all_goals
    go_enter Tryz.func41, Tryz.ntmps41
    go_wp2
    go_ret
    exact ⟨rfl, rfl⟩
  ·
   by_cases h32 : n = 32
   ·
    subst h32
    rcases hk with rfl | rfl
    all_goals
     go_enter Tryz.func41, Tryz.ntmps41
     go_wp2
     go_ret
     exact ⟨rfl, rfl⟩
   ·
    have hs : sortZ kind n = -1 := by unfold sortZ; rw [if_neg (by omega), if_neg (by omega)]
    have t1 : ((n : Int) == 16) = false := by rw [beq_eq_false_iff_ne]; omega
    have t2 : ((n : Int) == 24) = false := by rw [beq_eq_false_iff_ne]; omega
    have t3 : ((n : Int) == 32) = false := by rw [beq_eq_false_iff_ne]; omega
    rw [hs]; clear hs h16 h24 h32
    go_enter Tryz.func41, Tryz.ntmps41
    go_wp2
    go_ret
    exact ⟨rfl, rfl⟩
def fitsW (alg n : Nat) : Bool := (n == 16 || n == 24) || (n == 32 && alg == 65)
theorem fitsW_any (alg n : Nat) (w : World) :
    Calls Tryz.prog 33 #[.int .u8 alg, .int .i64 n] w fun e w' => e = .returned (.bool (fitsW alg n)) ∧ w = w' := by
 have hf : fitsW alg n = ((n == 16 || n == 24) || (n == 32 && alg == 65)) := rfl; rw [hf]; have e1 : (n == 16) = ((n : Int) == 16) := by rw [Bool.eq_iff_iff, beq_iff_eq, beq_iff_eq]; omega
 have e2 : (n == 24) = ((n : Int) == 24) := by rw [Bool.eq_iff_iff, beq_iff_eq, beq_iff_eq]; omega
 have e3 : (n == 32) = ((n : Int) == 32) := by rw [Bool.eq_iff_iff, beq_iff_eq, beq_iff_eq]; omega
 have e4 : (alg == 65) = ((alg : Int) == 65) := by rw [Bool.eq_iff_iff, beq_iff_eq, beq_iff_eq]; omega
 rw [e1, e2, e3, e4]; clear hf e1 e2 e3 e4
 cases h1 : ((n : Int) == 16) <;> cases h2 : ((n : Int) == 24) <;> cases h3 : ((n : Int) == 32) <;> cases h4 : ((alg : Int) == 65)
 all_goals
  go_enter Tryz.func33, Tryz.ntmps33
  go_wp2
  go_ret
  exact ⟨rfl, rfl⟩
/-- how many fill bytes -/
def fillW (v : Nat) (n : Int) : Int := if kindV v = 0 ∨ n < 0 then 0 else ((sizeN (kindV v) - (n.toNat % sizeN (kindV v) + 2) % sizeN (kindV v)) % sizeN (kindV v) : Nat)

theorem fill_any (h : Hd) (n : Int) (hn : n ≤ 140737488351232) (w : World) :
    Calls Tryz.prog 13 #[.agg h.cells, .int .i64 n] w fun e w' => e = .returned (.int .i64 (fillW h.ver.toNat n)) ∧ Below w.heap.size w w' := by
 have HK := Hh (fun W => kindOf_any h.ver.toNat W); have HS := Hh (fun W => sizeOf_any h.ver.toNat W); have hb0 : Below w.heap.size w (w.alloc (.cells h.cells 24)) := (Below.refl _ _).alloc lr _; have hc : (w.alloc (.cells h.cells 24)).cell? ⟨w.heap.size, 0, none⟩ = some (.int .u8 (h.ver.toNat : Int)) := (Blk.new w 24 h.cells).cell 0; have hF : fillW h.ver.toNat n = (if kindV h.ver.toNat = 0 ∨ n < 0 then (0 : Int) else ((sizeN (kindV h.ver.toNat) - (n.toNat % sizeN (kindV h.ver.toNat) + 2) % sizeN (kindV h.ver.toNat)) % sizeN (kindV h.ver.toNat) : Nat) : Int) := rfl; generalize fillW h.ver.toNat n = R at *; have hsz : sizeN (kindV h.ver.toNat) = 8 ∨ sizeN (kindV h.ver.toNat) = 16 := by unfold sizeN; split <;> omega
 generalize sizeN (kindV h.ver.toNat) = z at *; generalize kindV h.ver.toNat = kd at *; generalize h.ver.toNat = v at *; generalize h.cells = cs at *
 by_cases hk : kd = 0
 ·
  rw [if_pos (.inl hk)] at hF; subst hF; have t1 : (kd != 0) = false := by rw [bne_eq_false_iff_eq]; exact hk
  rw [t1] at HK; clear hk t1
  go_enter Tryz.func13, Tryz.ntmps13
  go_wp2_with fail
  refine (HK.out _).mono ?_; rintro e w1 ⟨rfl, rfl⟩; go_wp2
  go_ret
  exact ⟨rfl, hb0⟩
 ·
  have t1 : (kd != 0) = true := by rw [bne_iff_ne]; exact hk
  rw [t1] at HK
  by_cases hneg : n < 0
  ·
   rw [if_pos (.inr hneg)] at hF; subst hF; clear hk t1
   go_enter Tryz.func13, Tryz.ntmps13
   go_wp2_with fail
   refine (HK.out _).mono ?_; rintro e w1 ⟨rfl, rfl⟩; go_wp2
   go_ret
   exact ⟨rfl, hb0⟩
  ·
   rw [if_neg (by omega)] at hF; obtain ⟨m, rfl⟩ : ∃ m : Nat, n = m := ⟨n.toNat, by omega⟩; rw [Int.toNat_natCast] at hF; obtain ⟨a, ha⟩ : ∃ a, m % z = a := ⟨_, rfl⟩; obtain ⟨b, hb⟩ : ∃ b, (a + 2) % z = b := ⟨_, rfl⟩; obtain ⟨r, hr⟩ : ∃ r, (z - b) % z = r := ⟨_, rfl⟩; rw [ha, hb, hr] at hF; have e1 : (m : Int) % (z : Int) = (a : Int) := by rcases hsz with rfl | rfl <;> omega
   have e2 : ((a : Int) + 2) % (z : Int) = (b : Int) := by rcases hsz with rfl | rfl <;> omega
   have e3 : ((z : Int) - (b : Int)) % (z : Int) = (r : Int) := by rcases hsz with rfl | rfl <;> omega
   have hz8 : 8 ≤ z := by omega
   have hz16 : z ≤ 16 := by omega
   have ha2 : a < z := by rw [← ha]; exact Nat.mod_lt _ (by omega)
   have hb2 : b < z := by rw [← hb]; exact Nat.mod_lt _ (by omega)
   have e4 : IntKind.i64.wrap ((a : Int) + 2) = (a : Int) + 2 := IntWalk.i64_in _ (by omega); have e5 : IntKind.i64.wrap ((z : Int) - (b : Int)) = (z : Int) - (b : Int) := IntWalk.i64_in _ (by omega); subst hF; clear hk t1 ha hb hr hneg hsz
   go_enter Tryz.func13, Tryz.ntmps13
   go_wp2_with fail
   refine (HK.out _).mono ?_; rintro e w1 ⟨rfl, rfl⟩; go_wp2_with fail
   refine (HS.out _).mono ?_; rintro e w1 ⟨rfl, rfl⟩; go_wp2
   go_ret
   exact ⟨by show Ending.returned (.int .i64 (((z : Int) - (b : Int)) % (z : Int))) = _; rw [e3], hb0⟩

theorem Own.pre {w : World} {B g m cap : Nat} {l : List Nat} (h : Own w B (.slice (some ⟨g, 0, none⟩) m cap) l) (k : Nat) (hk : k ≤ l.length) : Own w B (.slice (some ⟨g, 0, none⟩) k cap) (l.take k) := by
 rcases h with ⟨h1, h2⟩
 have hl : (l.take k).length = k := by rw [List.length_take]; omega
 unfold Own
 rw [hl]; refine ⟨by simp [byteCells]; omega, ?_⟩
 rcases h2 with ⟨h2, _⟩ | ⟨g', cap', cur, hv, hg, hb, hn, hm, hs, ht⟩
 ·
  cases h2
 ·
  injection hv with e1 e2 e3; injection e1 with e1; injection e1 with e4; subst e4; subst e3; refine .inr ⟨g, cap, cur, rfl, hg, hb, by omega, hm, hs, ?_⟩; have e : (byteCells (l.take k)).toList = (byteCells l).toList.take k := by simp [byteCells]
  rw [e, ← ht, List.take_take]
  congr 1
  omega

def blkI (i p s n : Nat) : List Nat := [i, 0, p, 0, 0, s, 8 * n / 256, 8 * n % 256]
def madeTo (kind : Nat) (key : List Nat) (s n p : Nat) : Nat → List Nat
 | 0 => []
 | j + 1 => madeTo kind key s n p j ++ cmacN kind key (blkI (j + 1) p s n)
def sortN (kind n : Nat) : Nat := if kind = 2 then n / 8 - 2 else n / 8
def madeM (kind n : Nat) : Nat := (n + sizeN kind - 1) / sizeN kind
def madeN (kind : Nat) (key : List Nat) (p : Nat) : List Nat := (madeTo kind key (sortN kind key.length) key.length p (madeM kind key.length)).take key.length
theorem blkI_byt {i p s n : Nat} (hi : i < 256) (hp : p < 256) (hs : s < 256) (hn : n < 8000) : Byt (blkI i p s n) := fun c hc => by
 unfold blkI at hc
 simp only [List.mem_cons, List.not_mem_nil, or_false] at hc
 rcases hc with rfl | rfl | rfl | rfl | rfl | rfl | rfl | rfl <;> omega
theorem madeTo_ok {kind : Nat} {key : List Nat} (hk : Byt key) {s n p : Nat} (hp : p < 256) (hs : s < 256) (hn : n < 8000) : ∀ j, j ≤ 200 → (madeTo kind key s n p j).length = sizeN kind * j ∧ Byt (madeTo kind key s n p j)
 | 0, _ => ⟨rfl, fun c hc => by cases hc⟩
 | j + 1, hj => by
  obtain ⟨h1, h2⟩ := madeTo_ok hk (n := n) hp hs hn j (by omega); obtain ⟨h3, h4⟩ := cmacN_ok (kind := kind) hk (blkI_byt (i := j + 1) (by omega) hp hs hn)
  unfold madeTo
  refine ⟨by rw [List.length_append, h1, h3, Nat.mul_succ], fun c hc => ?_⟩
  rcases List.mem_append.1 hc with hc | hc
  ·
   exact h2 c hc
  ·
   exact h4 c hc
theorem KeyOk.len {kind : Nat} {key : List Nat} (hk : KeyOk kind key) : (kind = 2 ∧ (key.length = 16 ∨ key.length = 24)) ∨ (kind = 1 ∧ (key.length = 16 ∨ key.length = 24 ∨ key.length = 32)) := hk.2
theorem sort_key {kind : Nat} {key : List Nat} (hk : KeyOk kind key) : sortZ kind key.length = (sortN kind key.length : Nat) ∧ sortN kind key.length ≤ 4 := by
 rcases hk.2 with ⟨rfl, h | h⟩ | ⟨rfl, h | h | h⟩ <;> rw [h] <;> decide
theorem made_cond {kind : Nat} {key : List Nat} (hk : KeyOk kind key) : ∀ j q, sizeN kind * j = q → (j < madeM kind key.length → q < key.length) ∧ (j = madeM kind key.length → key.length ≤ q) ∧ madeM kind key.length ≤ 3 := by
 intro j q hq; subst hq
 unfold madeM
 rcases hk.2 with ⟨rfl, h | h⟩ | ⟨rfl, h | h | h⟩ <;> rw [h]
 all_goals first
  | (rw [size_2]; refine ⟨fun h => ?_, fun h => ?_, by decide⟩ <;> omega)
  | (rw [size_1]; refine ⟨fun h => ?_, fun h => ?_, by decide⟩ <;> omega)
theorem madeN_ok {kind : Nat} {key : List Nat} (hk : KeyOk kind key) {p : Nat} (hp : p < 256) : (madeN kind key p).length = key.length ∧ Byt (madeN kind key p) := by
 have hc := (made_cond hk (madeM kind key.length) _ rfl).2; have h := madeTo_ok (kind := kind) hk.1 (s := sortN kind key.length) (n := key.length) (p := p) hp (by have := (sort_key hk).2; omega) (by rcases hk.2 with ⟨_, h | h⟩ | ⟨_, h | h | h⟩ <;> omega) (madeM kind key.length) (by omega)
 unfold madeN
 refine ⟨by rw [List.length_take, h.1]; have := hc.1 rfl; omega, fun c hc => h.2 c (List.mem_of_mem_take hc)⟩
theorem madeN_key {kind : Nat} {key : List Nat} (hk : KeyOk kind key) {p : Nat} (hp : p < 256) : KeyOk kind (madeN kind key p) := by
 obtain ⟨h1, h2⟩ := madeN_ok hk hp; exact ⟨h2, by rw [h1]; exact hk.2⟩

theorem made_any (g kind : Nat) (key : List Nat) (hk : KeyOk kind key) (bk : Value) (n : Nat) (hn : key.length = n) (p : Nat) (hp : p < 2) (s : Nat) (hs : sortN kind n = s) (w : World) (hC : CipherAt w g kind key bk) :
    Calls Tryz.prog 43 #[.pointer (some ⟨g, 0, none⟩), .int .i64 s, .int .i64 n, .int .i64 p] w fun e w' =>
     (∃ v, e = .returned (.tuple #[v, .nilIface]) ∧ Own w' w.heap.size v (madeN kind key p)) ∧ Below w.heap.size w w' := by
 have hpos := size_pos kind; have h16 := size_le kind; have hs4 := (sort_key hk).2; rw [hn, hs] at hs4; have hn40 : 16 ≤ n ∧ n ≤ 32 := by rw [← hn]; rcases hk.2 with ⟨_, h | h⟩ | ⟨_, h | h | h⟩ <;> omega
 obtain ⟨hn16, hn32⟩ := hn40; have HSZ := Hh (fun W hC => size_any kind g (by rcases hk.kind with h | h <;> omega) key bk W hC); have HCM := Hh (fun i (hi : i < 256) A ct W hC hT => cmac_any g kind key hk bk (blkI i p s n) 8 rfl (by omega) (by omega) (blkI_byt hi (by omega) (by omega) (by omega)) (sizeN kind) (by omega) lr A ct W hC hT)
 have hcl : ∀ i, i < 256 → (cmacN kind key (blkI i p s n)).take (sizeN kind) = cmacN kind key (blkI i p s n) ∧ (cmacN kind key (blkI i p s n)).length = sizeN kind := fun i hi => by
  have := (cmacN_ok (kind := kind) hk.1 (blkI_byt (i := i) (p := p) (s := s) (n := n) hi (by omega) (by omega) (by omega))).1; exact ⟨List.take_of_length_le (by omega), this⟩
 have HCL := Hh hcl; clear hcl; have HCW := Hh (fun W (hb : Below w.heap.size w W) => hC.below hb lr); have hst : ∀ j, madeTo kind key s n p (j + 1) = madeTo kind key s n p j ++ cmacN kind key (blkI (j + 1) p s n) := fun _ => rfl; have h0 : madeTo kind key s n p 0 = [] := rfl; have hto := fun j hj => madeTo_ok (kind := kind) hk.1 (s := s) (n := n) (p := p) (by omega) (by omega) (by omega) j hj; have hcd := made_cond hk; have hfin : madeN kind key p = (madeTo kind key s n p (madeM kind n)).take n := by unfold madeN; rw [hn, hs]
 rw [hn] at hcd; generalize madeN kind key p = R at *; generalize madeTo kind key s n p = TO at *; obtain ⟨M, hM⟩ : ∃ M, madeM kind n = M := ⟨_, rfl⟩; rw [hM] at hcd hfin; have HST := Hh hst; clear hst; have HH0 := Hh h0; clear h0; have HTO := Hh hto; clear hto; have HCD := Hh hcd; have HF := Hh hfin; clear hfin; have hM3 := (hcd 0 _ rfl).2.2; generalize sizeN kind = z at *; have e8 : IntKind.i64.wrap (8 * (n : Int)) = ((8 * n : Nat) : Int) := by rw [IntWalk.i64_in _ (by omega)]; omega
 obtain ⟨N8, hN8⟩ : ∃ N8, 8 * n = N8 := ⟨_, rfl⟩; rw [hN8] at e8; obtain ⟨hb, hhb⟩ : ∃ hb, N8 / 256 = hb := ⟨_, rfl⟩; obtain ⟨lb, hlb⟩ : ∃ lb, N8 % 256 = lb := ⟨_, rfl⟩; have e9 : (N8 : Int) / 256 = (hb : Int) := by omega
 have e10 : (N8 : Int) % 256 = (lb : Int) := by omega
 have hbk : ∀ i : Nat, byteCells (blkI i p s n) = #[.int .u8 (i : Int), .int .u8 0, .int .u8 (p : Int), .int .u8 0, .int .u8 0, .int .u8 (s : Int), .int .u8 (hb : Int), .int .u8 (lb : Int)] := fun i => by
  unfold blkI; rw [hN8, hhb, hlb]; rfl
 have HBK := Hh hbk; clear hbk; have hN256 : N8 ≤ 256 := by omega
 have hhb1 : hb ≤ 1 := by omega
 clear hcd hM hN8 hhb hlb hs hn hC hk
 go_enter Tryz.func43, Tryz.ntmps43
 go_wp2
 go_loopw [10, 11] (fun v i wr => ∃ j q i1 : Nat, j ≤ M ∧ i = .int .i64 i1 ∧ Hid (i1 = j + 1) ∧ i1 ≤ 4 ∧ Hid (z * j = q) ∧ OwnN 5 .u8 wr w.heap.size v (TO j) ∧ Below w.heap.size w wr) (fun _ i _ => 10 - (intOf i).toNat)
 case atStart => exact ⟨0, 0, 1, by omega, rfl, rfl, by omega, Nat.mul_zero z, by rw [HH0.out]; exact OwnN.nil _ _ _ _, Below.refl _ _⟩
 case round =>
  obtain ⟨j, q, i1, hj, rfl, hi1, hi4, hq, hown, hbel⟩ := hrel; have hcd := HCD.out j q hq.out; have htl := (HTO.out j (by omega)).1; rw [hq.out] at htl
  have hq64 : q ≤ 64 := by
   rw [← hq.out]; have := Nat.mul_le_mul h16 (show j ≤ 4 by omega); omega
  obtain ⟨A, cap, rfl, hcap, hAt⟩ := OwnN.form hown; rw [htl] at hown hcap ⊢
  by_cases hlt : j < M
  ·
   have hqn := hcd.1 hlt; clear hcd; have hB5 := Blk.new wr 5 (byteCells (blkI i1 p s n)); have hb5 := hbel.alloc hbel.size (.cells #[.int .u8 (i1 : Int), .int .u8 0, .int .u8 (p : Int), .int .u8 0, .int .u8 0, .int .u8 (s : Int), .int .u8 (hb : Int), .int .u8 (lb : Int)] 5); have hown5 := OwnN.below hown ((Below.refl wr.heap.size wr).alloc lr (.cells #[.int .u8 (i1 : Int), .int .u8 0, .int .u8 (p : Int), .int .u8 0, .int .u8 0, .int .u8 (s : Int), .int .u8 (hb : Int), .int .u8 (lb : Int)] 5)) lr; have hs5 : wr.heap.size < (wr.alloc (.cells #[.int .u8 (i1 : Int), .int .u8 0, .int .u8 (p : Int), .int .u8 0, .int .u8 0, .int .u8 (s : Int), .int .u8 (hb : Int), .int .u8 (lb : Int)] 5)).heap.size := by rw [World.size_alloc]; omega
   rw [HBK.out] at hB5; rw [← HBK.out] at hB5; have hA5 : At (wr.alloc (.cells (byteCells (blkI i1 p s n)) 5)) (some ⟨wr.heap.size, 0, none⟩) (blkI i1 p s n) := fun _ => ⟨_, _, rfl, Bs.ofBlk hB5⟩; rw [HBK.out] at hA5; have HA5 := Hh hA5; clear hA5 hB5; go_wp2_with fail
   generalize wr.alloc (.cells #[.int .u8 (i1 : Int), .int .u8 0, .int .u8 (p : Int), .int .u8 0, .int .u8 0, .int .u8 (s : Int), .int .u8 (hb : Int), .int .u8 (lb : Int)] 5) = w5 at *; refine (HSZ.out _ (HCW.out _ hb5)).mono ?_; rintro e w6 ⟨rfl, rfl⟩; go_wp2_with fail
   refine (HCM.out i1 (by omega) _ _ _ (HCW.out _ hb5) HA5.out).mono ?_; rintro e w6 ⟨⟨v, rfl, hv⟩, hb6⟩; have hcl := HCL.out i1 (by omega); rw [hcl.1] at hv; have hst := HST.out j; rw [← hi1.out] at hst; generalize cmacN kind key (blkI i1 p s n) = X at *; obtain ⟨gX, cX, rfl, hgX, hgXl, hBX⟩ := hv.addr (ne_nil hcl.2 hpos); rw [hcl.2] at hv ⊢; have hown6 := OwnN.below hown5 hb6 lr; have hbel6 := hb5.trans (hb6.mono hb5.size); have hs6 := hbel6.size; have HBX := Hh hBX; clear hBX hv; have HST6 := Hh hst; clear hst; have hlen6 : (TO j).length + z ≤ 1000000000 := by rw [htl]; omega
   have HCL6 := Hh hcl.2; clear hcl; clear hb6 hb5 hown5 hown htl hAt; go_wp2_with (at_builtin; go_loud (refine wpList_append_nums rfl (.tmp 44) (.tmp 45) 22 rfl .u8 5 1 Tryz.underlying22 info_byte w.heap.size w _ (TO j) rfl hown6 hbel6 hs6 _ z cX X rfl HCL6.out ⟨_, _, rfl, HBX.out⟩ hlen6 (by omega) ?_); intro v7 w7 hown7 hbel7 hsz7)
   rw [← HST6.out] at hown7; have hq7 : z * (j + 1) = q + z := by rw [Nat.mul_succ, hq.out]
   have HQ7 := Hh hq7; clear hq7; clear hown6 hbel6
   go_roundw
   case rel => exact ⟨j + 1, q + z, i1 + 1, by omega, by go_num, (by show i1 + 1 = j + 1 + 1; rw [hi1.out]), by have := hi1.out; omega, HQ7.out, (by rw [← hi1.out]; exact hown7), hbel7⟩
   case measure => have := hi1.out; simp [intOf]; omega
  ·
   obtain rfl : j = M := by omega
   have hnq := hcd.2.1 rfl; have hqn2 : ¬ ((q : Int) < (n : Int)) := by omega
   obtain ⟨gx, cx, e', hgx, hgxl, hB⟩ := Own.addr (OwnN.bytes hown) (ne_nil htl (by omega)); injection e' with e1' e2' e3'; subst e1'; have hpre := Own.pre (OwnN.bytes hown) n (by rw [htl]; exact hnq); rw [← HF.out] at hpre; have HPR := Hh hpre; clear hpre; have hnc : n ≤ cap := by omega
   clear e2' e3' hcd hB hown hAt; go_wp2
   go_ret2
   exact ⟨⟨_, rfl, HPR.out⟩, hbel⟩

theorem KeyOk.fits {kind : Nat} {key : List Nat} (hk : KeyOk kind key) : fitsB kind key.length = true := by
 rcases hk.2 with ⟨rfl, h | h⟩ | ⟨rfl, h | h | h⟩ <;> rw [h] <;> decide
theorem KeyOk.pos {kind : Nat} {key : List Nat} (hk : KeyOk kind key) : 16 ≤ key.length ∧ key.length ≤ 32 := by
 rcases hk.2 with ⟨rfl, h | h⟩ | ⟨rfl, h | h | h⟩ <;> omega

theorem keys_ok (v kind : Nat) (hv : kindV v = kind) (key : List Nat) (hk : KeyOk kind key) (n : Nat) (hn : key.length = n) (A : Option Addr) (c : Nat) (w : World) (hA : At w A key) :
    Calls Tryz.prog 18 #[.int .u8 v, .slice A n c] w fun e w' =>
     (∃ va vb, e = .returned (.tuple #[va, vb, .nilIface]) ∧ Own w' w.heap.size va (madeN kind key 0) ∧ Own w' w.heap.size vb (madeN kind key 1)) ∧ Below w.heap.size w w' := by
 have hkd := hk.kind; have HK := Hh (fun W => kindOf_any v W); rw [hv] at HK; have hnz : (kind != 0) = true := by rw [bne_iff_ne]; omega
 rw [hnz] at HK; have hss := sort_key hk; have hpp := hk.pos; rw [hn] at hss hpp; have HS := Hh (fun W => sort_any kind n hkd W); rw [hss.1] at HS; have hft := hk.fits; rw [hn] at hft; have HN := Hh (fun W hA => new_yes kind n hkd key hn hft (by omega) A c none W hA); have HM0 := Hh (fun g W hC => made_any g kind key hk (.pointer none) n hn 0 (by omega) (sortN kind n) rfl W hC); have HM1 := Hh (fun g W hC => made_any g kind key hk (.pointer none) n hn 1 (by omega) (sortN kind n) rfl W hC); generalize madeN kind key 0 = R0 at *; generalize madeN kind key 1 = R1 at *; generalize sortN kind n = s at *; have hsI : ¬ ((s : Int) < 0) := by omega
 have HA := Hh hA; clear hnz hss hft hv hn hA hkd hk hpp
 go_enter Tryz.func18, Tryz.ntmps18
 go_wp2_with fail
 refine (HK.out _).mono ?_; rintro e w1 ⟨rfl, rfl⟩; go_wp2_with fail
 refine (HS.out _).mono ?_; rintro e w1 ⟨rfl, rfl⟩; go_wp2_with fail
 refine (HN.out _ HA.out).mono ?_; rintro e w1 ⟨⟨g, rfl, hg, hC⟩, hb1⟩; have HC1 := Hh hC; clear hC; go_wp2_with fail
 refine (HM0.out g _ HC1.out).mono ?_; rintro e w2 ⟨⟨va, rfl, hva⟩, hb2⟩; have hbel2 := hb1.trans (hb2.mono hb1.size); have HC2 := Hh (HC1.out.below hb2 lr); clear HC1; have hva2 := hva.more (C := w.heap.size) hb1.size; clear hva; go_wp2_with fail
 refine (HM1.out g _ HC2.out).mono ?_; rintro e w3 ⟨⟨vb, rfl, hvb⟩, hb3⟩; have hbel3 := hbel2.trans (hb3.mono hbel2.size); have hva3 := hva2.below hb3 lr; have hvb3 := hvb.more (C := w.heap.size) hbel2.size; clear hva2 hvb; have HVA := Hh hva3; clear hva3; have HVB := Hh hvb3; clear hvb3; go_wp2
 go_ret3
 exact ⟨⟨va, vb, rfl, HVA.out, HVB.out⟩, hbel3⟩

/-- why there are no keys -/
def keysEr (v n : Nat) : Er := if kindV v = 0 then .no 1 else if sortZ (kindV v) n < 0 then .no 2 else .ok
theorem kindV_cases (v : Nat) : kindV v = 0 ∨ kindV v = 1 ∨ kindV v = 2 := by
 unfold kindV
 split
 ·
  exact .inr (.inr rfl)
 ·
  split
  ·
   exact .inr (.inl rfl)
  ·
   exact .inl rfl
theorem keysEr_ok {v : Nat} {key : List Nat} (gk : Byt key) (h : keysEr v key.length = .ok) : KeyOk (kindV v) key := by
 unfold keysEr at h
 have hc := kindV_cases v; generalize kindV v = k at *
 split at h
 ·
  cases h
 ·
  rename_i h1
  split at h
  ·
   cases h
  ·
   rename_i h2
   refine ⟨gk, ?_⟩
   unfold sortZ at h2
   by_cases h3 : key.length = 16 ∨ key.length = 24
   ·
    rcases hc with h4 | h4 | h4
    ·
     exact absurd h4 h1
    ·
     exact .inr ⟨h4, by omega⟩
    ·
     exact .inl ⟨h4, h3⟩
   ·
    rw [if_neg h3] at h2
    by_cases h4 : key.length = 32 ∧ k = 1
    ·
     exact .inr ⟨h4.2, by omega⟩
    ·
     rw [if_neg h4] at h2; omega
theorem keys_bad (v n : Nat) (er : Er) (he : keysEr v n = er) (hne : er ≠ .ok) (A : Option Addr) (c : Nat) (w : World) :
    Calls Tryz.prog 18 #[.int .u8 v, .slice A n c] w fun e w' =>
     (∃ u, e = .returned (.tuple #[.slice none 0 0, .slice none 0 0, u]) ∧ ErIs w' w.heap.size u er) ∧ Below w.heap.size w w' := by
 have HK := Hh (fun W => kindOf_any v W)
 unfold keysEr at he
 by_cases h0 : kindV v = 0
 ·
  rw [if_pos h0] at he; subst he; rw [h0] at HK; rw [show ((0 : Nat) != 0) = false from rfl] at HK; clear h0 hne
  go_enter Tryz.func18, Tryz.ntmps18
  go_wp2_with fail
  refine (HK.out _).mono ?_; rintro e w1 ⟨rfl, rfl⟩; go_wp2
  go_ret3
  exact ⟨⟨_, rfl, rfl⟩, Below.refl _ _⟩
 ·
  rw [if_neg h0] at he
  have h1 : sortZ (kindV v) n < 0 := by
   rcases Int.lt_or_le (sortZ (kindV v) n) 0 with h | h
   ·
    exact h
   ·
    rw [if_neg (by omega)] at he; exact absurd he.symm hne
  rw [if_pos h1] at he; subst he; have hnz : (kindV v != 0) = true := by rw [bne_iff_ne]; exact h0
  rw [hnz] at HK; have HS := Hh (fun W => sort_any (kindV v) n (by have := kindV_cases v; omega) W); generalize sortZ (kindV v) n = z at *; clear hnz hne h0
  go_enter Tryz.func18, Tryz.ntmps18
  go_wp2_with fail
  refine (HK.out _).mono ?_; rintro e w1 ⟨rfl, rfl⟩; go_wp2_with fail
  refine (HS.out _).mono ?_; rintro e w1 ⟨rfl, rfl⟩; go_wp2
  go_ret3
  exact ⟨⟨_, rfl, rfl⟩, Below.refl _ _⟩

theorem Own.at_ {w : World} {B : Nat} {v : Value} {l : List Nat} {n : Nat} (h : Own w B v l) (hl : l.length = n) (hn : 0 < n) : ∃ g cap, v = .slice (some ⟨g, 0, none⟩) n cap ∧ At w (some ⟨g, 0, none⟩) l ∧ n ≤ cap ∧ B ≤ g := by
 obtain ⟨g, cap, e, h1, h3, h4, h5⟩ := Own.form h (ne_nil hl hn); rw [hl] at e h3; exact ⟨g, cap, e, fun _ => ⟨_, _, rfl, h5⟩, h3, h1⟩

theorem ciphers_ok (v kind : Nat) (hv : kindV v = kind) (key : List Nat) (hk : KeyOk kind key) (n : Nat) (hn : key.length = n) (A : Option Addr) (c : Nat) (w : World) (hA : At w A key) :
    Calls Tryz.prog 32 #[.int .u8 v, .slice A n c] w fun e w' =>
     (∃ g1 g2, e = .returned (.tuple #[.pointer (some ⟨g1, 0, none⟩), .pointer (some ⟨g2, 0, none⟩), .nilIface]) ∧ CipherAt w' g1 kind (madeN kind key 0) (.pointer none) ∧ CipherAt w' g2 kind (madeN kind key 1) (.pointer none)) ∧ Below w.heap.size w w' := by
 have HKO := Hh (keys_ok v kind hv key hk n hn A c w hA); have HK := Hh (fun W => kindOf_any v W); rw [hv] at HK; have hkd := hk.kind; have hnz : (kind != 0) = true := by rw [bne_iff_ne]; omega
 rw [hnz] at HK; have k0 := madeN_key hk (p := 0) (by omega); have k1 := madeN_key hk (p := 1) (by omega); have l0 := (madeN_ok hk (p := 0) (by omega)).1; have l1 := (madeN_ok hk (p := 1) (by omega)).1; have hpp := hk.pos; rw [hn] at l0 l1 hpp; generalize madeN kind key 0 = R0 at *; generalize madeN kind key 1 = R1 at *; have f0 := k0.fits; have f1 := k1.fits; rw [l0] at f0; rw [l1] at f1; have HN0 := Hh (fun A cp W hA => new_yes kind n hkd R0 l0 f0 (by omega) A cp none W hA); have HN1 := Hh (fun A cp W hA => new_yes kind n hkd R1 l1 f1 (by omega) A cp none W hA); have L0 := Hh l0; clear l0; have L1 := Hh l1; clear l1; clear hnz f0 f1 hn hv hA hk k0 k1 hkd
 go_enter Tryz.func32, Tryz.ntmps32
 go_wp2_with fail
 refine (HKO.out).mono ?_; rintro e w1 ⟨⟨va, vb, rfl, hva, hvb⟩, hb1⟩; obtain ⟨ga, ca, rfl, hAa, -, -⟩ := hva.at_ L0.out (by omega); obtain ⟨gb, cb, rfl, hAb, -, -⟩ := hvb.at_ L1.out (by omega); have HAA := Hh hAa; clear hAa hva; have HAB := Hh hAb; clear hAb hvb; go_wp2_with fail
 refine (HK.out _).mono ?_; rintro e w2 ⟨rfl, rfl⟩; go_wp2_with fail
 refine (HN0.out _ _ _ HAA.out).mono ?_; rintro e w2 ⟨⟨g1, rfl, hg1, hC1⟩, hb2⟩; have hbel2 := hb1.trans (hb2.mono hb1.size); have HC1 := Hh hC1; clear hC1; have hAB2 := HAB.out.below hb2 lr; have HAB2 := Hh hAB2; clear hAB2; go_wp2_with fail
 refine (HN1.out _ _ _ HAB2.out).mono ?_; rintro e w3 ⟨⟨g2, rfl, hg2, hC2⟩, hb3⟩; have hbel3 := hbel2.trans (hb3.mono hbel2.size); have HC3 := Hh (HC1.out.below hb3 lr); have HC2 := Hh hC2; clear hC2; go_wp2
 go_ret3
 exact ⟨⟨g1, g2, rfl, HC3.out, HC2.out⟩, hbel3⟩

/-- bytes in a block that lies from B on, with room behind them that may be written -/
def Room (w : World) (B g n cap : Nat) (l : List Nat) : Prop :=
 B ≤ g ∧ g < w.heap.size ∧ l.length = n ∧ n ≤ cap ∧ Bs w g 0 l ∧ ∀ j, n ≤ j → j < cap → (w.cell? ⟨g, j, none⟩).isSome = true ∧ w.frozen? ⟨g, j, none⟩ = false
theorem Room.below {w w' : World} {B C g n cap : Nat} {l : List Nat} (h : Room w B g n cap l) (hb : Below C w w') (hC : w.heap.size ≤ C) : Room w' B g n cap l := by
 obtain ⟨h1, h2, h3, h4, h5, h6⟩ := h; refine ⟨h1, Nat.lt_of_lt_of_le h2 hb.size, h3, h4, h5.below hb (by omega), fun j h7 h8 => ?_⟩; rw [hb.cell (p := ⟨g, j, none⟩) (by show g < C; omega), hb.frozen (p := ⟨g, j, none⟩) (by show g < C; omega)]; exact h6 j h7 h8
section
variable {P : Program} {ops : Array Oper} {rest : List Oper} {op : Oper} {a : Act} {w : World} {Q : Exit → Act → World → Prop}
theorem wpList_to_room (hgd : op.guard = none) (src dst e : TypeId) (x : Operand) (ho : op.op = .convert src dst x) (s : ByteArray) (hx : a.eval x = .string s) {u : TypeDesc} (hs : P.underlying src = some u) (hd : P.underlying dst = some (.slice e)) (he : P.underlying e = some (.int .u8))
    (h : ∀ cap w', Below w.heap.size w w' → Room w' w.heap.size w.heap.size s.size cap (sN s) → wpList P ops Q rest (a.put op.dst (.slice (some ⟨w.heap.size, 0, none⟩) s.size cap)) w') : wpList P ops Q (op :: rest) a w := by
 have hrun := Lib.run_convert_string_bytes (P := P) w src dst e s hs hd he; have hsz := Lib.bytesWorld_size w e s; have hcap := grownCap_ge w s.size 0 e; have hb : Below w.heap.size w (Lib.bytesWorld w e s) := ⟨rfl, rfl, rfl, by rw [hsz]; omega, fun i hi => Lib.bytesWorld_at_old w e s i hi⟩
 have hB : Bs (Lib.bytesWorld w e s) w.heap.size 0 (sN s) := by
  intro j v hv
  have hj : j < (sN s).length := by
   rcases Nat.lt_or_ge j (sN s).length with h | h
   ·
    exact h
   ·
    rw [List.getElem?_eq_none (by simp [byteCells]; exact h)] at hv; cases hv
  have hj' : j < s.size := by rwa [sN_len] at hj
  rw [Nat.zero_add, Lib.bytesWorld_cell w e s j hj']; rw [← hv]
  simp [byteCells, sN, List.getD_eq_getElem?_getD, hj']
 have hcs : (Lib.bytesCells w e s).size = grownCap w s.size 0 e := by
  unfold Lib.bytesCells
  rw [Array.size_append, Array.size_map, Array.size_replicate]
  show s.size + _ = _
  omega
 have hsp : ∀ j, s.size ≤ j → j < grownCap w s.size 0 e → ((Lib.bytesWorld w e s).cell? ⟨w.heap.size, j, none⟩).isSome = true ∧ (Lib.bytesWorld w e s).frozen? ⟨w.heap.size, j, none⟩ = false := fun j _ h2 => by
  have hn := Lib.bytesWorld_at_new w e s; refine ⟨?_, ?_⟩
  ·
   simp [World.cell?, hn, hcs, h2]
  ·
   simp [World.frozen?, hn, hcs]; omega
 refine wpList_run hgd (v := .slice (some ⟨w.heap.size, 0, none⟩) s.size (grownCap w s.size 0 e)) (w' := Lib.bytesWorld w e s) ?_ (h _ _ hb ⟨Nat.le_refl _, by rw [hsz]; omega, sN_len s, hcap, hB, hsp⟩)
 unfold execOp
 simp only [ho, hx, Sem.run_bind, hrun, Result.andThen_ok]
 simp
theorem Bs.append {w : World} {b : Nat} {l m : List Nat} (h1 : Bs w b 0 l) (h2 : Bs w b l.length m) : Bs w b 0 (l ++ m) := fun j v hv => by
 have e : (byteCells (l ++ m)).toList = (byteCells l).toList ++ (byteCells m).toList := by simp [byteCells]
 have hl : (byteCells l).toList.length = l.length := by simp [byteCells]
 rw [e] at hv
 by_cases hj : j < l.length
 ·
  rw [List.getElem?_append_left (by omega)] at hv; exact h1 j v hv
 ·
  rw [List.getElem?_append_right (by omega), hl] at hv; have := h2 (j - l.length) v hv; rw [show l.length + (j - l.length) = j by omega] at this; rw [Nat.zero_add]; exact this
theorem run_append_conv (t ty e : TypeId) (bytes : Nat) (ht : P.underlying t = some (.slice e)) (hinfo : (P.info? e).map (fun i => (i.zero, i.size, i.bytes)) = some (some (.int .u8 0), 1, bytes)) (hby : bytes ≤ 1000)
    (B g n cap : Nat) (l : List Nat) (hR : Room w B g n cap l) (hBw : B ≤ w.heap.size) (b2 o2 m c : Nat) (l2 : List Nat) (hm : l2.length = m) (hA : Bs w b2 o2 l2) (hmax : n + m ≤ 1000000000) :
    ∃ g' cap' w', (Builtin.append_ #[t, t] ty #[.slice (some ⟨g, 0, none⟩) n cap, .slice (some ⟨b2, o2, none⟩) m c]).run P w = .ok (.slice (some ⟨g', 0, none⟩) (n + m) cap') w' ∧ B ≤ g' ∧ Bs w' g' 0 (l ++ l2) ∧ Below B w w' := by
 obtain ⟨i0, hi, hz0, hz1, hz2⟩ := info_parts hinfo; obtain ⟨h1, h2, h3, h4, h5, h6⟩ := hR; have hnl : (byteCells l2).toList.length = m := by simp [byteCells, hm]
 have hone : ∀ u ∈ (byteCells l2).toList, u.oneCell' = true := fun u hu => by
  simp only [byteCells, List.mem_map] at hu
  obtain ⟨c, _, rfl⟩ := hu
  rfl
 by_cases hroom : n + m ≤ cap
 ·
  have hex : ∀ j, j < (byteCells l2).toList.length → (w.cell? ⟨g, 0 + n * i0.size + j, none⟩).isSome = true := fun j hj => by
   rw [hz1, Nat.mul_one, Nat.zero_add]; exact (h6 (n + j) (by omega) (by omega)).1
  have hfr : ∀ j, j < (byteCells l2).toList.length → w.frozen? ⟨g, 0 + n * i0.size + j, none⟩ = false := fun j hj => by
   rw [hz1, Nat.mul_one, Nat.zero_add]; exact (h6 (n + j) (by omega) (by omega)).2
  have hrun := run_append_room_cells (P := P) w t ty e i0 ht hi g 0 n cap ⟨b2, o2, none⟩ m c (byteCells l2).toList (by rw [hz1, Nat.mul_one]; exact hnl) (fun j u hj => by have := hA j u hj; rwa [Addr.add_mid]) hone hroom hex hfr; rw [hz1, Nat.mul_one, Nat.zero_add] at hrun; refine ⟨g, cap, _, hrun, h1, ?_, ?_⟩
  ·
   refine Bs.append ?_ ?_
   ·
    exact World.rangeAt_setCells_apart h5 g n _ (.inr (.inl (by simp [byteCells]; omega)))
   ·
    rw [h3]; refine World.rangeAt_setCells_same w g n _ (fun j hj => ?_); exact h6 (n + j) (by omega) (by omega)
  ·
   exact (Only.setCells g _ n w).below (Below.refl _ _) h1
 ·
  have hrun := run_append_grow (P := P) w t ty e i0 (.int .u8 0) ht hi hz0 ⟨g, 0, none⟩ n cap (byteCells l).toList (by rw [hz1, Nat.mul_one]; simp [byteCells, h3]) (fun j u hj => by have := h5 j u hj; rwa [Addr.add_mid]) ⟨b2, o2, none⟩ m c (byteCells l2).toList (by rw [hz1, Nat.mul_one]; exact hnl) (fun j u hj => by have := hA j u hj; rwa [Addr.add_mid]) (by omega) (by omega) (growslice_fits (by omega) (by rw [hz2]; have := Nat.mul_le_mul hmax hby; omega)); refine ⟨w.heap.size, _, _, hrun, hBw, ?_, ?_⟩
  ·
   intro j v hv; have e : (byteCells (l ++ l2)).toList = (byteCells l).toList ++ (byteCells l2).toList := by simp [byteCells]
   rw [e] at hv; rw [Nat.zero_add]
   have hj : j < ((byteCells l).toList ++ (byteCells l2).toList).length := by
    rcases Nat.lt_or_ge j ((byteCells l).toList ++ (byteCells l2).toList).length with h | h
    ·
     exact h
    ·
     rw [List.getElem?_eq_none h] at hv; cases hv
   refine (World.cell?_alloc_new w.drew _ _ j).trans ?_; rw [← hv, Array.getElem?_append_left (by simp at hj ⊢; exact hj), List.append_toArray, List.getElem?_toArray]
  ·
   exact (below_drewN (Below.refl B w) 1).alloc hBw _
theorem op_append_conv {K : Act → World → Prop} (s x : Operand) (t : TypeId) (ho : op.op = .call { callee := .builtin .append, args := #[s, x], argTypes := #[t, t] })
    (e : TypeId) (bytes : Nat) (ht : P.underlying t = some (.slice e)) (hinfo : (P.info? e).map (fun i => (i.zero, i.size, i.bytes)) = some (some (.int .u8 0), 1, bytes)) (hby : bytes ≤ 1000)
    (B g n cap : Nat) (l : List Nat) (hs : a.eval s = .slice (some ⟨g, 0, none⟩) n cap) (hR : Room w B g n cap l) (hBw : B ≤ w.heap.size) (A : Option Addr) (m c : Nat) (l2 : List Nat) (hx : a.eval x = .slice A m c) (hm : l2.length = m) (hA : ∃ b o, A = some ⟨b, o, none⟩ ∧ Bs w b o l2) (hmax : n + m ≤ 1000000000)
    (h : ∀ g' cap' w', B ≤ g' → Bs w' g' 0 (l ++ l2) → Below B w w' → K (a.put op.dst (.slice (some ⟨g', 0, none⟩) (n + m) cap')) w') : op.wp P a w K Q := by
 obtain ⟨b2, o2, rfl, hA⟩ := hA; obtain ⟨g', cap', w', hr, h1, h2, h3⟩ := run_append_conv (P := P) (w := w) t op.type e bytes ht hinfo hby B g n cap l hR hBw b2 o2 m c l2 hm hA hmax
 unfold Oper.wp execOp
 simp only [ho, resolve, invoke, builtin, Sem.run_bind, Sem.run_pure, Result.andThen_ok, List.map_toArray, List.map_cons, List.map_nil, hs, hx, hr]
 exact h g' cap' w' h1 h2 h3
theorem wpList_append_conv (hgd : op.guard = none) (s x : Operand) (t : TypeId) (ho : op.op = .call { callee := .builtin .append, args := #[s, x], argTypes := #[t, t] })
    (e : TypeId) (bytes : Nat) (ht : P.underlying t = some (.slice e)) (hinfo : (P.info? e).map (fun i => (i.zero, i.size, i.bytes)) = some (some (.int .u8 0), 1, bytes)) (hby : bytes ≤ 1000)
    (B g n cap : Nat) (l : List Nat) (hs : a.eval s = .slice (some ⟨g, 0, none⟩) n cap) (hR : Room w B g n cap l) (hBw : B ≤ w.heap.size) (A : Option Addr) (m c : Nat) (l2 : List Nat) (hx : a.eval x = .slice A m c) (hm : l2.length = m) (hA : ∃ b o, A = some ⟨b, o, none⟩ ∧ Bs w b o l2) (hmax : n + m ≤ 1000000000)
    (h : ∀ g' cap' w', B ≤ g' → Bs w' g' 0 (l ++ l2) → Below B w w' → wpList P ops Q rest (a.put op.dst (.slice (some ⟨g', 0, none⟩) (n + m) cap')) w') : wpList P ops Q (op :: rest) a w :=
 wpList_plain hgd fun _ hK => op_append_conv s x t ho e bytes ht hinfo hby B g n cap l hs hR hBw A m c l2 hx hm hA hmax fun g' cap' w' h1 h2 h3 => hK _ _ (h g' cap' w' h1 h2 h3)
end
end Go.Proofs.YtfkjkkjimdilcaaGreatDoor
