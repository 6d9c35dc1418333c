/- The plain law: what is made is read back, of whatever format. -/
import Derived.Test.YtnkgglmfoimbhaaGreatDoorPin7
import Derived.Test.YtnkgglmfoimbhaaGreatDoorMk14
namespace Go.Proofs.YtnkgglmfoimbhaaGreatDoor
open Go Go.RowKit Pr

theorem firstD_none (f : Nat) (l : List Nat) : ∀ m k, (∀ j, k ≤ j → j < k + m → badD f (l.getD 1 0) j (l.getD j 0) = false) → firstD f l k m = none
  | 0, _, _ => rfl
  | m + 1, k, h => by
    unfold firstD
    rw [if_neg (by rw [h k (by omega) (by omega)]; decide)]
    exact firstD_none f l m (k + 1) fun j h1 h2 => h j (by omega) (by omega)
theorem getD_app (a b : List Nat) (j : Nat) : (a ++ b).getD j 0 = if j < a.length then a.getD j 0 else b.getD (j - a.length) 0 := by
  simp only [List.getD_eq_getElem?_getD]
  split
  · rw [List.getElem?_append_left (by assumption)]
  · rw [List.getElem?_append_right (by omega)]
theorem getD_all {P : Nat → Prop} (l : List Nat) (h : ∀ c ∈ l, P c) (j : Nat) (hj : j < l.length) : P (l.getD j 0) := by
  rw [List.getD_eq_getElem?_getD, List.getElem?_eq_getElem hj]
  exact h _ (List.getElem_mem hj)
theorem dec_lt10 (c : UInt8) (h : isDec c = true) : ¬ 9 < hexv c := all_u8 (p := fun c => isDec c = true → ¬ 9 < hexv c) (by decide +kernel) c h
/-- a format, a length, decimal digits, what may fill up -/
theorem read_back (f : Nat) (p : List UInt8) (r : List Nat) (h4 : 4 ≤ p.length) (h12 : p.length ≤ 12) (hp : ∀ c ∈ p, isDec c = true) (_hr : 14 - p.length ≤ r.length) (hn : ∀ j, j < 14 - p.length → noD f (r.getD j 0) = false) :
    readAt ([f, p.length] ++ p.map hexv ++ r) f = none ∧ readV ([f, p.length] ++ p.map hexv ++ r) = p := by
  have hl : ([f, p.length] ++ p.map hexv).length = 2 + p.length := by simp; omega
  have e0 : ([f, p.length] ++ p.map hexv ++ r).getD 0 0 = f := rfl
  have e1 : ([f, p.length] ++ p.map hexv ++ r).getD 1 0 = p.length := rfl
  refine ⟨?_, ?_⟩
  · unfold readAt
    rw [e0, e1, if_neg (by simp), if_neg (by omega)]
    refine firstD_none f _ 14 2 fun j h1 h2 => ?_
    rw [e1]
    unfold badD
    rw [getD_app, hl]
    by_cases hj : j < 2 + p.length
    · rw [if_pos hj, if_pos hj]
      have e2 : ([f, p.length] ++ p.map hexv).getD j 0 = (p.map hexv).getD (j - 2) 0 := by
        rw [getD_app, if_neg (by simp; omega)]; rfl
      rw [e2]
      have := getD_all (P := fun c => ¬ 9 < c) (p.map hexv) (fun c hc => by obtain ⟨x, hx, rfl⟩ := List.mem_map.1 hc; exact dec_lt10 x (hp x hx)) (j - 2) (by rw [List.length_map]; omega)
      exact decide_eq_false this
    · rw [if_neg hj, if_neg hj]
      exact hn _ (by omega)
  · unfold readV
    rw [e1]
    have e2 : List.drop 2 ([f, p.length] ++ p.map hexv ++ r) = p.map hexv ++ r := rfl
    rw [e2, List.take_left' (by rw [List.length_map])]
    exact map_hexd_hexv p (dec_hex hp)
theorem hexL_val (l : List Nat) (h : ∀ c ∈ l, c < 256) : (hexL l).map hexv = nibN l := by
  rw [hexL_nib, map_hexv_hexd _ (nibN_lt l h)]
/-- format 4 -/
theorem four_read (p : List UInt8) (fill : List Nat) (h4 : 4 ≤ p.length) (h12 : p.length ≤ 12) (hp : ∀ c ∈ p, isDec c = true) (hfl : fill.length = 8) (hfb : ∀ c ∈ fill, c < 256) :
    readEr (nibN (fourX p fill)) 4 = .ok ∧ readStr (nibN (fourX p fill)) 4 = p := by
  have e : nibN (fourX p fill) = [4, p.length] ++ p.map hexv ++ (List.replicate (14 - p.length) 10 ++ nibN fill) := by
    unfold fourX
    rw [unhexL_pack, nibN_packN]
    · unfold fourS
      rw [List.map_append, List.map_append, textS_val 4 p (by omega) (by omega), hexL_val _ hfb, List.map_replicate]
      unfold startD
      rw [List.append_assoc]
      rfl
    · intro c hc
      obtain ⟨x, hx, rfl⟩ := List.mem_map.1 hc
      exact hexv_lt x (fourS_hex p fill h12 hp hfb x hx)
    · rw [List.length_map, fourS_len p fill h12 hfl]
  have hb := read_back 4 p (List.replicate (14 - p.length) 10 ++ nibN fill) h4 h12 hp (by simp) (fun j hj => by
    rw [getD_app, List.length_replicate, if_pos hj]
    exact getD_all (P := fun c => noD 4 c = false) _ (fun c hc => by rw [(List.mem_replicate.1 hc).2]; rfl) j (by rw [List.length_replicate]; exact hj))
  rw [e]
  refine ⟨?_, ?_⟩
  · unfold readEr; rw [hb.1]
  · unfold readStr; rw [hb.1]; exact hb.2
theorem getD_takeN (l : List Nat) (n j : Nat) (h : j < n) : (l.take n).getD j 0 = l.getD j 0 := by
  simp only [List.getD_eq_getElem?_getD, List.getElem?_take_of_lt h]
/-- formats 0, 1, 3 -/
theorem raw_read (f : Nat) (hf : f = 0 ∨ f = 1 ∨ f = 3) (p : List UInt8) (fill : List Nat) (h4 : 4 ≤ p.length) (h12 : p.length ≤ 12) (hp : ∀ c ∈ p, isDec c = true) (hfl : fill.length = 8) (_hfb : ∀ c ∈ fill, c < 256) :
    readEr (rawD f p fill) f = .ok ∧ readStr (rawD f p fill) f = p := by
  have hl : (startD f p).length = 2 + p.length := by simp [startD]; omega
  have hfi : (fillD f fill).length = 16 := by
    unfold fillD
    rcases hf with rfl | rfl | rfl
    · rfl
    · rw [if_neg (by omega), if_pos rfl, nibN_len, hfl]
    · rw [if_neg (by omega), if_neg (by omega), List.length_map, nibN_len, hfl]
  have e : rawD f p fill = [f, p.length] ++ p.map hexv ++ (fillD f fill).take (14 - p.length) := by
    unfold rawD
    rw [List.take_append, hl, List.take_of_length_le (by omega), show 16 - (2 + p.length) = 14 - p.length by omega]
    rfl
  have hb := read_back f p ((fillD f fill).take (14 - p.length)) h4 h12 hp (by rw [List.length_take, hfi]; omega) (fun j hj => by
    rw [getD_takeN _ _ _ hj]
    refine getD_all (P := fun c => noD f c = false) _ (fun c hc => ?_) j (by omega)
    unfold fillD at hc
    rcases hf with rfl | rfl | rfl
    · rw [if_pos rfl] at hc
      rw [(List.mem_replicate.1 hc).2]; rfl
    · rfl
    · rw [if_neg (by omega), if_neg (by omega)] at hc
      obtain ⟨x, _, rfl⟩ := List.mem_map.1 hc
      unfold noD
      simp)
  rw [e]
  refine ⟨?_, ?_⟩
  · unfold readEr; rw [hb.1]
  · unfold readStr; rw [hb.1]; exact hb.2
theorem bothEr_open {p a : List UInt8} (hok : bothEr p a = .ok) : decEr a 13 19 = .ok := by
  unfold bothEr at hok
  split at hok
  · exact hok
  · rename_i h; exact absurd hok h
/-- the block is opened as it was made -/
theorem make_back (f : Nat) (hf : f = 0 ∨ f = 1 ∨ f = 3) (p a : List UInt8) (hok : bothEr p a = .ok) (fill : List Nat) (hfl : fill.length = 8) (hfb : ∀ c ∈ fill, c < 256) :
    openEr f (makeVal f p a fill) a = .ok ∧ openStr f (makeVal f p a fill) a = p := by
  obtain ⟨⟨h4, h12, hp⟩, ⟨h13, h19, ha⟩⟩ := bothEr_dec hok
  have hE : makeEr f p a = .ok := by unfold makeEr; rw [if_pos (by omega)]; exact hok
  have hd := bothEr_open hok
  rw [makeVal_ok hE]
  show openEr f (makeD (f : Int).toNat p a fill) a = _ ∧ openStr f (makeD (f : Int).toNat p a fill) a = _
  rw [show (f : Int).toNat = f from rfl]
  have e0 : turnD f a (nibN (makeD f p a fill)) = rawD f p fill := by
    unfold makeD
    rw [nibN_packN _ (turnD_lt f a _ ha (rawD_lt f p fill hf (by omega) hp hfb)) (by rw [turnD_len])]
    exact turn_twice f a _ (rawD_len f p fill hf (by omega) hfl hfb)
  have e1 : openEr f (makeD f p a fill) a = readEr (turnD f a (nibN (makeD f p a fill))) f := by unfold openEr; rw [if_pos (by omega), hd]; rfl
  have e2 : openStr f (makeD f p a fill) a = readStr (turnD f a (nibN (makeD f p a fill))) f := by unfold openStr; rw [if_pos (by omega), hd]; rfl
  rw [e1, e2, e0]
  exact raw_read f hf p fill h4 h12 hp hfl hfb
end Go.Proofs.YtnkgglmfoimbhaaGreatDoor
