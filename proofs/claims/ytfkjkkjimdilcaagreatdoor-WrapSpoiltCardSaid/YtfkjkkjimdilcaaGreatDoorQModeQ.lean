/- Plain: one block of either cipher, blocks chained, the code of a text; no program in sight. The contract of Cipher.Do of either cipher. -/
import Derived.Test.YtfkjkkjimdilcaaGreatDoorQAesXY
import Derived.Test.YtfkjkkjimdilcaaGreatDoorQTriT
import Derived.Test.YtfkjkkjimdilcaaGreatDoorQPureF
/- Plain: one block of either cipher, blocks chained, the code of a text; no program in sight. -/
namespace Go.Proofs.YtfkjkkjimdilcaaGreatDoor
open Go Go.RowKit Pr

/-- one block -/
def ciN (kind : Nat) (key x : List Nat) (back : Bool) : List Nat := if kind = 2 then tripN key x back else aesN key x back
theorem ciN_len (kind : Nat) (key x : List Nat) (back : Bool) : (ciN kind key x back).length = sizeN kind := by
 unfold ciN sizeN
 split
 ·
  exact tripN_len _ _ _
 ·
  exact aesN_len _ _ _
theorem size_pos (kind : Nat) : 0 < sizeN kind := by unfold sizeN; split <;> omega
theorem size_le (kind : Nat) : sizeN kind ≤ 16 := by unfold sizeN; split <;> omega
/-- a key of that kind -/
def KeyOk (kind : Nat) (key : List Nat) : Prop := Byt key ∧ ((kind = 2 ∧ (key.length = 16 ∨ key.length = 24)) ∨ (kind = 1 ∧ (key.length = 16 ∨ key.length = 24 ∨ key.length = 32)))
theorem block_tf (k b : List Nat) (hl : b.length = 8) (hb : ∀ c ∈ b, c < 256) : blockN k (blockN k b true) false = b := block_back k b true hl hb
theorem block_ft (k b : List Nat) (hl : b.length = 8) (hb : ∀ c ∈ b, c < 256) : blockN k (blockN k b false) true = b := block_back k b false hl hb
theorem trip_back (k0 k1 k2 b : List Nat) (back : Bool) (hl : b.length = 8) (hb : ∀ c ∈ b, c < 256) : trip k0 k1 k2 (trip k0 k1 k2 b back) (!back) = b := by
 cases back with
 | true =>
  show blockN k2 (blockN k1 (blockN k0 (blockN k0 (blockN k1 (blockN k2 b true) false) true) false) true) false = b
  rw [block_tf k0 _ (blockN_len _ _ _) (blockN_lt _ _ _), block_ft k1 _ (blockN_len _ _ _) (blockN_lt _ _ _)]; exact block_tf k2 b hl hb
 | false =>
  show blockN k0 (blockN k1 (blockN k2 (blockN k2 (blockN k1 (blockN k0 b false) true) false) true) false) true = b
  rw [block_ft k2 _ (blockN_len _ _ _) (blockN_lt _ _ _), block_tf k1 _ (blockN_len _ _ _) (blockN_lt _ _ _)]; exact block_ft k0 b hl hb
theorem tripN_back (key b : List Nat) (back : Bool) (hl : b.length = 8) (hb : ∀ c ∈ b, c < 256) : tripN key (tripN key b back) (!back) = b := by
 unfold tripN
 split
 ·
  exact block_back key b back hl hb
 ·
  exact trip_back _ _ _ b back hl hb
theorem aesN_lt {key x : List Nat} (hk : Byt key) (hl : x.length = 16) (hx : Byt x) (back : Bool) : Byt (aesN key x back) := by
 unfold aesN
 split
 ·
  exact withG_byt (decTo_ok hl hx (wordsG_byt hk) _ _).2 (wordsG_byt hk) 0
 ·
  exact encG_byt hx (wordsG_byt hk) _
theorem aesN_back {key x : List Nat} (hk : Byt key) (hl : x.length = 16) (hx : Byt x) : aesN key (aesN key x false) true = x := by
 show decG (encG x (wordsG key) (key.length / 4 + 6)) (wordsG key) (key.length / 4 + 6) = x
 exact dec_enc hl hx (wordsG_byt hk) _
theorem ciN_lt {kind : Nat} {key x : List Nat} (hk : Byt key) (hl : x.length = sizeN kind) (hx : Byt x) (back : Bool) : Byt (ciN kind key x back) := by
 unfold ciN
 unfold sizeN at hl
 split
 ·
  exact tripN_lt _ _ _
 ·
  rename_i h; rw [if_neg h] at hl; exact aesN_lt hk hl hx back
theorem ciN_back {kind : Nat} {key x : List Nat} (hk : Byt key) (hl : x.length = sizeN kind) (hx : Byt x) : ciN kind key (ciN kind key x false) true = x := by
 unfold ciN
 unfold sizeN at hl
 split
 ·
  rename_i h; rw [if_pos h] at hl; exact tripN_back key x false hl hx
 ·
  rename_i h; rw [if_neg h] at hl; exact aesN_back hk hl hx

/-- the m-th block of n bytes -/
def blkAt (n m : Nat) (t : List Nat) : List Nat := (t.drop (n * m)).take n
theorem blkAt_len {n m : Nat} {t : List Nat} (h : n * m + n ≤ t.length) : (blkAt n m t).length = n := by simp [blkAt]; omega
theorem blkAt_byt {n m : Nat} {t : List Nat} (h : Byt t) : Byt (blkAt n m t) := fun c hc => h c (List.mem_of_mem_drop (List.mem_of_mem_take hc))
theorem take_blk {n m : Nat} {t : List Nat} : t.take (n * (m + 1)) = t.take (n * m) ++ blkAt n m t := by
 rw [Nat.mul_succ, List.take_add]; rfl
/-- m blocks, chained: what comes out, and the last block of it -/
def cbcE (f : List Nat → List Nat) (n : Nat) (start t : List Nat) : Nat → List Nat × List Nat
 | 0 => ([], start)
 | m + 1 => ((cbcE f n start t m).1 ++ f (xorTo (blkAt n m t) (cbcE f n start t m).2 n), f (xorTo (blkAt n m t) (cbcE f n start t m).2 n))
def cbcD (f : List Nat → List Nat) (n : Nat) (start t : List Nat) : Nat → List Nat × List Nat
 | 0 => ([], start)
 | m + 1 => ((cbcD f n start t m).1 ++ xorTo (f (blkAt n m t)) (cbcD f n start t m).2 n, blkAt n m t)
/-- what holds of the cipher's blocks -/
def Blocks (f : List Nat → List Nat) (n : Nat) : Prop := ∀ x : List Nat, x.length = n → Byt x → (f x).length = n ∧ Byt (f x)
theorem xor_byt {a b : List Nat} (ha : Byt a) (hb : Byt b) : ∀ n, Byt (xorTo a b n)
 | 0 => ha
 | n + 1 => fun c hc => by
  unfold xorTo at hc
  rcases List.mem_or_eq_of_mem_set hc with h | rfl
  ·
   exact xor_byt ha hb n c h
  ·
   exact xor_lt8 (ha.at_ _) (hb.at_ _)
theorem cbcE_ok {f : List Nat → List Nat} {n : Nat} (hf : Blocks f n) {start t : List Nat} (hs : start.length = n) (gs : Byt start) (gt : Byt t) : ∀ m, n * m ≤ t.length →
    (cbcE f n start t m).1.length = n * m ∧ Byt (cbcE f n start t m).1 ∧ (cbcE f n start t m).2.length = n ∧ Byt (cbcE f n start t m).2
 | 0, _ => ⟨rfl, (by intro c hc; cases hc), hs, gs⟩
 | m + 1, h => by
  rw [Nat.mul_succ] at h; obtain ⟨h1, h2, h3, h4⟩ := cbcE_ok hf hs gs gt m (by omega); have hx : (xorTo (blkAt n m t) (cbcE f n start t m).2 n).length = n := by rw [xorTo_len, blkAt_len h]
  have hb := xor_byt (blkAt_byt (n := n) (m := m) gt) h4 n; obtain ⟨k1, k2⟩ := hf _ hx hb
  unfold cbcE
  refine ⟨by rw [List.length_append, h1, k1, Nat.mul_succ], ?_, k1, k2⟩; intro c hc
  rcases List.mem_append.1 hc with hc | hc
  ·
   exact h2 c hc
  ·
   exact k2 c hc
theorem cbcD_ok {f : List Nat → List Nat} {n : Nat} (hf : Blocks f n) {start t : List Nat} (hs : start.length = n) (gs : Byt start) (gt : Byt t) : ∀ m, n * m ≤ t.length →
    (cbcD f n start t m).1.length = n * m ∧ Byt (cbcD f n start t m).1 ∧ (cbcD f n start t m).2.length = n ∧ Byt (cbcD f n start t m).2
 | 0, _ => ⟨rfl, (by intro c hc; cases hc), hs, gs⟩
 | m + 1, h => by
  rw [Nat.mul_succ] at h; obtain ⟨h1, h2, h3, h4⟩ := cbcD_ok hf hs gs gt m (by omega); obtain ⟨k1, k2⟩ := hf _ (blkAt_len h) (blkAt_byt gt); have hb := xor_byt k2 h4 n
  unfold cbcD
  refine ⟨by rw [List.length_append, h1, xorTo_len, k1, Nat.mul_succ], ?_, blkAt_len h, blkAt_byt gt⟩; intro c hc
  rcases List.mem_append.1 hc with hc | hc
  ·
   exact h2 c hc
  ·
   exact hb c hc
theorem xorTo_twice {a x : List Nat} {n : Nat} (_ha : a.length = n) (_hx : x.length = n) : xorTo (xorTo x a n) a n = x := by
 apply List.ext_getElem
 ·
  rw [xorTo_len, xorTo_len]
 ·
  intro i h1 h2; have hi : i < n := by omega
  have e1 : (xorTo (xorTo x a n) a n)[i] = (xorTo (xorTo x a n) a n).getD i 0 := by rw [List.getD_eq_getElem?_getD, List.getElem?_eq_getElem h1]; rfl
  have e2 : x[i] = x.getD i 0 := by rw [List.getD_eq_getElem?_getD, List.getElem?_eq_getElem h2]; rfl
  rw [e1, e2, xorTo_getD _ _ n i hi (by rw [xorTo_len]; exact h2), xorTo_getD _ _ n i hi h2, Nat.xor_assoc, Nat.xor_self, Nat.xor_zero]
/-- what was chained is unchained as it was -/
theorem cbc_back {f g : List Nat → List Nat} {n : Nat} (hf : Blocks f n) (hg : ∀ x : List Nat, x.length = n → Byt x → g (f x) = x) {start t u : List Nat} (hs : start.length = n) (gs : Byt start) (gt : Byt t) (M : Nat) (hM : n * M ≤ t.length)
    (hu : u = (cbcE f n start t M).1) : ∀ m, m ≤ M → (cbcE f n start t m).1 = u.take (n * m) ∧ (cbcD g n start u m).1 = t.take (n * m) ∧ (cbcD g n start u m).2 = (cbcE f n start t m).2 := by
 have pre : ∀ k m, m + k = M → (cbcE f n start t m).1 = u.take (n * m) := by
  intro k
  induction k with
  | zero =>
   intro m h; obtain rfl : m = M := by omega
   rw [← hu, List.take_of_length_le (by rw [hu, (cbcE_ok hf hs gs gt m hM).1]; exact Nat.le_refl _)]
  | succ k ih =>
   intro m h; have h1 := ih (m + 1) (by omega); have hle : n * (m + 1) ≤ t.length := Nat.le_trans (Nat.mul_le_mul_left n (by omega)) hM; have h2 : (cbcE f n start t (m + 1)).1 = (cbcE f n start t m).1 ++ (cbcE f n start t (m + 1)).2 := rfl; have hl := (cbcE_ok hf hs gs gt m (by rw [Nat.mul_succ] at hle; omega)).1; rw [h2] at h1; have h3 := congrArg (List.take (n * m)) h1; rw [List.take_left' hl, List.take_take, Nat.min_eq_left (Nat.mul_le_mul_left n (by omega))] at h3; exact h3
 intro m
 induction m with
 | zero => intro _; exact ⟨by simp [cbcE], by simp [cbcD], rfl⟩
 | succ m ih =>
  intro hm; obtain ⟨h1, h2, h3⟩ := ih (by omega); have hle : n * (m + 1) ≤ t.length := Nat.le_trans (Nat.mul_le_mul_left n hm) hM; have hle2 := hle; rw [Nat.mul_succ] at hle2; obtain ⟨k1, k2, k3, k4⟩ := cbcE_ok hf hs gs gt m (by omega); have e1 := pre (M - (m + 1)) (m + 1) (by omega)
  have hb : blkAt n m u = f (xorTo (blkAt n m t) (cbcE f n start t m).2 n) := by
   have h4 : (cbcE f n start t (m + 1)).1 = (cbcE f n start t m).1 ++ f (xorTo (blkAt n m t) (cbcE f n start t m).2 n) := rfl; rw [h4, take_blk, ← h1] at e1; exact (List.append_cancel_left e1).symm
  refine ⟨e1, ?_, ?_⟩
  ·
   show (cbcD g n start u m).1 ++ xorTo (g (blkAt n m u)) (cbcD g n start u m).2 n = _
   rw [hb, hg _ (by rw [xorTo_len, blkAt_len hle2]) (xor_byt (blkAt_byt gt) k4 n), h2, h3, xorTo_twice k3 (blkAt_len hle2), take_blk]
  ·
   show blkAt n m u = _
   rw [hb]; rfl

/-- so many bytes, chained -/
def chN (kind : Nat) (key start t : List Nat) (back : Bool) : List Nat :=
 if back then (cbcD (fun x => ciN kind key x true) (sizeN kind) start t (t.length / sizeN kind)).1
 else (cbcE (fun x => ciN kind key x false) (sizeN kind) start t (t.length / sizeN kind)).1
theorem ci_blocks {kind : Nat} {key : List Nat} (hk : Byt key) (back : Bool) : Blocks (fun x => ciN kind key x back) (sizeN kind) := fun _ hl hx => ⟨ciN_len _ _ _ _, ciN_lt hk hl hx back⟩
theorem mul_div {n l : Nat} (h : l % n = 0) : n * (l / n) = l := by have := Nat.div_add_mod l n; omega
theorem chN_ok {kind : Nat} {key start t : List Nat} (hk : Byt key) (hs : start.length = sizeN kind) (gs : Byt start) (gt : Byt t) (hm : t.length % sizeN kind = 0) (back : Bool) : (chN kind key start t back).length = t.length ∧ Byt (chN kind key start t back) := by
 have e := mul_div hm
 unfold chN
 split
 ·
  have := cbcD_ok (ci_blocks (kind := kind) hk true) hs gs gt (t.length / sizeN kind) (by omega); exact ⟨by rw [this.1]; exact e, this.2.1⟩
 ·
  have := cbcE_ok (ci_blocks (kind := kind) hk false) hs gs gt (t.length / sizeN kind) (by omega); exact ⟨by rw [this.1]; exact e, this.2.1⟩
theorem chN_back {kind : Nat} {key start t : List Nat} (hk : Byt key) (hs : start.length = sizeN kind) (gs : Byt start) (gt : Byt t) (hm : t.length % sizeN kind = 0) : chN kind key start (chN kind key start t false) true = t := by
 have e := mul_div hm; have hl := (chN_ok hk hs gs gt hm false).1; have := cbc_back (ci_blocks (kind := kind) hk false) (g := fun x => ciN kind key x true) (fun x h1 h2 => ciN_back hk h1 h2) hs gs gt (t.length / sizeN kind) (by omega) (u := chN kind key start t false) rfl (t.length / sizeN kind) lr; have h2 := this.2.1; rw [e, List.take_length] at h2
 show (cbcD _ _ start (chN kind key start t false) ((chN kind key start t false).length / sizeN kind)).1 = t
 rw [hl]; exact h2

/-- a block, doubled -/
def dblN (b : List Nat) : List Nat :=
 let o := (List.range b.length).map fun i => 2 * b.getD i 0 % 256 + b.getD (i + 1) 0 / 128
 if 128 ≤ b.getD 0 0 then o.set (b.length - 1) (o.getD (b.length - 1) 0 ^^^ (if b.length = 8 then 27 else 135)) else o
/-- filled up to whole blocks -/
def padN (t : List Nat) (n : Nat) : List Nat := t ++ 128 :: List.replicate ((n - (t.length + 1) % n) % n) 0
/-- whether a text is filled up -/
def padB (t : List Nat) (n : Nat) : Bool := t.length % n != 0 || t.length == 0
def cmacL (kind : Nat) (key : List Nat) : List Nat := ciN kind key (List.replicate (sizeN kind) 0) false
/-- the blocks that are chained -/
def cmacT (kind : Nat) (key t : List Nat) : List Nat :=
 let n := sizeN kind
 let f := if padB t n then padN t n else t
 let l := if padB t n then dblN (dblN (cmacL kind key)) else dblN (cmacL kind key)
 f.take (f.length - n) ++ xorTo (f.drop (f.length - n)) l n
/-- the code of a text, whole -/
def cmacN (kind : Nat) (key t : List Nat) : List Nat :=
 let x := chN kind key (List.replicate (sizeN kind) 0) (cmacT kind key t) false
 x.drop (x.length - sizeN kind)
theorem dblN_len (b : List Nat) : (dblN b).length = b.length := by
 unfold dblN
 simp only
 split
 ·
  rw [List.length_set]; simp
 ·
  simp
theorem dblN_byt {b : List Nat} (h : Byt b) : Byt (dblN b) := by
 have ho : Byt ((List.range b.length).map fun i => 2 * b.getD i 0 % 256 + b.getD (i + 1) 0 / 128) := fun c hc => by
  obtain ⟨i, _, rfl⟩ := List.mem_map.1 hc; have h1 := h.at_ i; have h2 := h.at_ (i + 1); omega
 unfold dblN
 simp only
 split
 ·
  intro c hc
  rcases List.mem_or_eq_of_mem_set hc with hc | rfl
  ·
   exact ho c hc
  ·
   exact xor_lt8 (ho.at_ _) (by split <;> omega)
 ·
  exact ho
theorem padN_len {n : Nat} (hn : 0 < n) (t : List Nat) : (padN t n).length % n = 0 ∧ n ≤ (padN t n).length := by
 have e : (padN t n).length = t.length + 1 + (n - (t.length + 1) % n) % n := by unfold padN; rw [List.length_append, List.length_cons, List.length_replicate]; omega
 have h1 := Nat.mod_lt (t.length + 1) hn; have h2 := Nat.div_add_mod (t.length + 1) n; rw [e]
 by_cases h0 : (t.length + 1) % n = 0
 ·
  rw [h0, Nat.sub_zero, Nat.mod_self, Nat.add_zero]; refine ⟨h0, ?_⟩; exact Nat.le_of_dvd (by omega) (Nat.dvd_of_mod_eq_zero h0)
 ·
  rw [Nat.mod_eq_of_lt (show n - (t.length + 1) % n < n by omega)]; have e2 : t.length + 1 + (n - (t.length + 1) % n) = n * ((t.length + 1) / n) + n := by omega
  rw [e2]; refine ⟨by rw [Nat.add_mod_right, Nat.mul_mod_right], by omega⟩
theorem padN_byt {t : List Nat} (h : Byt t) (n : Nat) : Byt (padN t n) := fun c hc => by
 unfold padN at hc
 rcases List.mem_append.1 hc with hc | hc
 ·
  exact h c hc
 ·
  rcases List.mem_cons.1 hc with rfl | hc
  ·
   omega
  ·
   rw [(List.mem_replicate.1 hc).2]; omega
theorem zero_byt (n : Nat) : Byt (List.replicate n 0) := fun c hc => by rw [(List.mem_replicate.1 hc).2]; omega
theorem cmacT_ok {kind : Nat} {key t : List Nat} (hk : Byt key) (gt : Byt t) : (cmacT kind key t).length % sizeN kind = 0 ∧ sizeN kind ≤ (cmacT kind key t).length ∧ Byt (cmacT kind key t) := by
 have hn := size_pos kind; have hl : Byt (cmacL kind key) := ciN_lt hk (by rw [List.length_replicate]) (zero_byt _) false
 have e : ∀ (f l : List Nat), f.length % sizeN kind = 0 → sizeN kind ≤ f.length → Byt f → Byt l → (f.take (f.length - sizeN kind) ++ xorTo (f.drop (f.length - sizeN kind)) l (sizeN kind)).length % sizeN kind = 0 ∧ sizeN kind ≤ (f.take (f.length - sizeN kind) ++ xorTo (f.drop (f.length - sizeN kind)) l (sizeN kind)).length ∧ Byt (f.take (f.length - sizeN kind) ++ xorTo (f.drop (f.length - sizeN kind)) l (sizeN kind)) := fun f l h1 h2 h3 h4 => by
  have hl : (f.take (f.length - sizeN kind) ++ xorTo (f.drop (f.length - sizeN kind)) l (sizeN kind)).length = f.length := by
   rw [List.length_append, xorTo_len, List.length_take, List.length_drop]; omega
  rw [hl]; refine ⟨h1, h2, fun c hc => ?_⟩
  rcases List.mem_append.1 hc with hc | hc
  ·
   exact h3 c (List.mem_of_mem_take hc)
  ·
   exact xor_byt (fun c hc => h3 c (List.mem_of_mem_drop hc)) h4 _ c hc
 unfold cmacT
 simp only
 by_cases hp : padB t (sizeN kind) = true
 ·
  rw [if_pos hp, if_pos hp]; exact e _ _ (padN_len hn t).1 (padN_len hn t).2 (padN_byt gt _) (dblN_byt (dblN_byt hl))
 ·
  rw [if_neg hp, if_neg hp]
  simp [padB] at hp
  exact e _ _ hp.1 (Nat.le_of_dvd (List.length_pos_iff.2 hp.2) (Nat.dvd_of_mod_eq_zero hp.1)) gt (dblN_byt hl)
theorem cmacN_ok {kind : Nat} {key t : List Nat} (hk : Byt key) (gt : Byt t) : (cmacN kind key t).length = sizeN kind ∧ Byt (cmacN kind key t) := by
 obtain ⟨h1, h2, h3⟩ := cmacT_ok (kind := kind) hk gt; have := chN_ok (kind := kind) (start := List.replicate (sizeN kind) 0) hk (by rw [List.length_replicate]) (zero_byt _) h3 h1 false
 unfold cmacN
 simp only
 refine ⟨by rw [List.length_drop, this.1]; omega, fun c hc => this.2 c (List.mem_of_mem_drop hc)⟩

theorem KeyOk.kind {kind : Nat} {key : List Nat} (h : KeyOk kind key) : kind = 1 ∨ kind = 2 := by
 rcases h.2 with ⟨h, _⟩ | ⟨h, _⟩
 ·
  exact .inr h
 ·
  exact .inl h
theorem Bs.ofBlk {w : World} {g : Nat} {t : TypeId} {l : List Nat} (h : Blk w g t (byteCells l)) : Bs w g 0 l := Bs.of_blk h (fun j c hj => by rw [Nat.zero_add]; exact hj)
theorem ciN_2 (key x : List Nat) (back : Bool) : ciN 2 key x back = tripN key x back := by unfold ciN; rw [if_pos rfl]
theorem ciN_1 (key x : List Nat) (back : Bool) : ciN 1 key x back = aesN key x back := by unfold ciN; rw [if_neg (by decide)]
theorem size_2 : sizeN 2 = 8 := by unfold sizeN; rw [if_pos rfl]
theorem size_1 : sizeN 1 = 16 := by unfold sizeN; rw [if_neg (by decide)]
/-- one block, either cipher -/
theorem ciDo_any (g kind : Nat) (key : List Nat) (hk : KeyOk kind key) (bk : Value) (x : List Nat) (hx : x.length = sizeN kind) (gx : Byt x) (back : Bool) (A : Option Addr) (cx : Nat) (w : World) (hC : CipherAt w g kind key bk) (hA : At w A x) :
    Calls Tryz.prog 59 #[.pointer (some ⟨g, 0, none⟩), .slice A (sizeN kind) cx, .bool back] w fun e w' => (∃ gv, e = .returned (.tuple #[.slice (some ⟨gv, 0, none⟩) (sizeN kind) (sizeN kind), .nilIface]) ∧ w.heap.size ≤ gv ∧ Bs w' gv 0 (ciN kind key x back)) ∧ Below w.heap.size w w' := by
 rcases hk with ⟨hb, ⟨rfl, h⟩ | ⟨rfl, h⟩⟩
 ·
  rw [size_2] at hx ⊢; rw [ciN_2]; generalize hq : tripN key x back = q; have hT := doTri_any g key.length h key rfl hb bk x hx gx back A cx w hC hA; rw [hq] at hT; refine hT.mono ?_; rintro e w' ⟨⟨gv, rfl, hg, hB⟩, hbel⟩; exact ⟨⟨gv, rfl, hg, Bs.ofBlk hB⟩, hbel⟩
 ·
  rw [size_1] at hx ⊢; rw [ciN_1]
  have hK : ∃ nr, AesK key.length nr := by
   rcases h with h | h | h
   ·
    exact ⟨10, .inl ⟨h, rfl⟩⟩
   ·
    exact ⟨12, .inr (.inl ⟨h, rfl⟩)⟩
   ·
    exact ⟨14, .inr (.inr ⟨h, rfl⟩)⟩
  obtain ⟨nr, hK⟩ := hK; have hT := doA_any g key key.length nr hK rfl hb bk x hx gx back A cx w hC hA; generalize aesN key x back = q at *; refine hT.mono ?_; rintro e w' ⟨⟨gv, rfl, hg, hB⟩, hbel⟩; exact ⟨⟨gv, rfl, hg, Bs.ofBlk hB⟩, hbel⟩
end Go.Proofs.YtfkjkkjimdilcaaGreatDoor
