/- lockboxlaw17.CvvOfs, CvvAsks: the walks. -/
import Derived.Test.YtgffppmpmjaknaaDoorRef17B
import Derived.Test.YtgffppmpmjaknaaDoorLawA
namespace Go.Proofs.YtgffppmpmjaknaaDoor
open Go Go.RowKit Pr

theorem str_ne {a b : ByteArray} (h : ¬ a = b) : (a.toList == b.toList) = false := by
  rw [beq_eq_false_iff_ne, ByteArray.toList_eq, ByteArray.toList_eq]
  intro h2
  apply h
  apply ByteArray.ext
  exact Array.toList_inj.1 h2
theorem few_sizes {l : List ByteArray} {n : Nat} (h : (fewB l && decide (n ≤ 100)) = true) : (∀ s ∈ l, s.size ≤ 100) ∧ n ≤ 100 := by
  rw [Bool.and_eq_true] at h
  refine ⟨fun s hs => ?_, of_decide_eq_true h.2⟩
  have := List.all_eq_true.1 h.1 s hs
  exact of_decide_eq_true this

set_option maxHeartbeats 2000000 in
set_option maxRecDepth 100000 in
theorem ofs17 (w : World) (l : List Nat) (hb : ∀ c ∈ l, c < 256) (A : Option Addr) (cp : Nat) (hcp : l.length ≤ cp) (_hlen : l.length ≤ 140737488351232) (hA : At w A l) (pan : ByteArray) (hp : pan.size ≤ 140737488351232) (date : ByteArray) (hd : date.size ≤ 140737488351232) (service : ByteArray) (hs : service.size ≤ 140737488351232) (hG : EtOk w) :
    Calls Tryd.prog 9 #[.slice A l.length cp, .string pan, .string date, .string service] w fun e w' => e = .returned (.bool true) ∧ Below w.heap.size w w' := by
  have hAt : ∀ W, Below w.heap.size w W → At W A l := fun W hW => hA.below hW (Nat.le_refl _)
  have HAT := Lib.hid hAt; clear hAt hA
  have HO := Lib.hid (fun W hA => cvvOf_any l hb A cp hcp pan date service hp hd hs W hA)
  have HR := Lib.hid (fun h1 h2 h3 W hA => refOf_any l hb A cp hcp pan date service h1 h2 h3 W hA)
  have hdef : ∀ V : List UInt8, (⟨V.toArray⟩ : ByteArray) = str V := fun _ => rfl
  simp only [hdef] at HO
  generalize ofStr l pan.data.toList date.data.toList service.data.toList = V at *
  generalize ofEr l pan.data.toList date.data.toList service.data.toList = er at *
  generalize str V = SV at *
  generalize l.length = n at *
  go_enter Tryd.func9, Tryd.ntmps9
  go_wp2_with fail
  refine (awake17_any _).mono ?_
  rintro e w1 ⟨rfl, hb1⟩
  go_wp2_with fail
  have hrow : (w1.alloc (.cells #[Value.string pan, Value.string date, Value.string service] 9)).rangeAt w1.heap.size 0 ([pan, date, service].map Value.string) :=
    Blk.range (Blk.new w1 9 #[Value.string pan, Value.string date, Value.string service]) 0 _ (fun j v hv => by rw [Nat.zero_add]; simpa using hv)
  refine (few17_any n cp 3 3 A [pan, date, service] rfl (by omega) w1.heap.size _ hrow).mono ?_
  rintro e w2 ⟨rfl, rfl⟩
  have hbel2 := hb1.alloc hb1.size (.cells #[Value.string pan, Value.string date, Value.string service] 9)
  clear hrow
  generalize (w1.alloc (.cells #[Value.string pan, Value.string date, Value.string service] 9)) = w2 at *
  have hfew := few_sizes (l := [pan, date, service]) (n := n)
  generalize (fewB [pan, date, service] && decide (n ≤ 100)) = F at *
  cases F with
  | false =>
    clear hfew
    go_wp2_with fail
    refine (awake17_any _).mono ?_
    rintro e w3 ⟨rfl, hb3⟩
    go_wp2
    go_ret
    exact ⟨rfl, hbel2.trans (hb3.mono hbel2.size)⟩
  | true =>
    obtain ⟨hf, hn⟩ := hfew rfl
    have hp1 := hf pan (by simp)
    have hd1 := hf date (by simp)
    have hs1 := hf service (by simp)
    clear hfew hf
    go_wp2_with fail
    refine (HO.out _ (HAT.out _ hbel2)).mono ?_
    rintro e w3 ⟨⟨u, rfl, hu⟩, hb3⟩
    have hbel3 := hbel2.trans (hb3.mono hbel2.size)
    go_wp2_with fail
    refine (HR.out hp1 hd1 hs1 _ (HAT.out _ hbel3)).mono ?_
    rintro e w4 ⟨rfl, hb4⟩
    have hbel4 := hbel3.trans (hb4.mono hbel3.size)
    have hu4 := hu.below hb4 (Nat.le_refl _)
    clear hu
    have HU4 := Lib.hid hu4; clear hu4
    go_wp2_with fail
    refine (code_any _ _ _ _ HU4.out (hG.below hbel4 (Nat.le_refl _))).mono ?_
    rintro e w5 ⟨rfl, hb5⟩
    have hbel5 := hbel4.trans (hb5.mono hbel4.size)
    have hu5 := HU4.out.below hb5 (Nat.le_refl _)
    have HU5 := Lib.hid hu5; clear hu5
    go_wp2_with fail
    refine (at_any _ _ _ _ HU5.out (hG.below hbel5 (Nat.le_refl _))).mono ?_
    rintro e w6 ⟨rfl, hb6⟩
    have hbel6 := hbel5.trans (hb6.mono hbel5.size)
    go_wp2
    go_ret
    exact ⟨rfl, hbel6⟩

set_option maxHeartbeats 2000000 in
set_option maxRecDepth 100000 in
theorem asks17 (w : World) (l : List Nat) (hb : ∀ c ∈ l, c < 256) (A : Option Addr) (cp : Nat) (hcp : l.length ≤ cp) (_hlen : l.length ≤ 140737488351232) (hA : At w A l) (pan : ByteArray) (hp : pan.size ≤ 140737488351232) (date : ByteArray) (hd : date.size ≤ 140737488351232) (service : ByteArray) (hs : service.size ≤ 140737488351232) (value : ByteArray) (hv : value.size ≤ 140737488351232) (hG : EtOk w) :
    Calls Tryd.prog 10 #[.slice A l.length cp, .string pan, .string date, .string service, .string value] w fun e w' => e = .returned (.bool true) ∧ Below w.heap.size w w' := by
  have hAt : ∀ W, Below w.heap.size w W → At W A l := fun W hW => hA.below hW (Nat.le_refl _)
  have HAT := Lib.hid hAt; clear hAt hA
  have HO := Lib.hid (fun W hA => cvvVerify_any l hb A cp hcp pan date service value hp hd hs hv W hA)
  have HR := Lib.hid (fun h1 h2 h3 W hA => refOf_any l hb A cp hcp pan date service h1 h2 h3 W hA)
  have hver : verEr l pan.data.toList date.data.toList service.data.toList value.data.toList = match ofEr l pan.data.toList date.data.toList service.data.toList with
    | .ok => if ofStr l pan.data.toList date.data.toList service.data.toList = value.data.toList then .ok else .no 12
    | e => e := rfl
  have hcas := ofEr_cases l pan.data.toList date.data.toList service.data.toList
  generalize verEr l pan.data.toList date.data.toList service.data.toList value.data.toList = ver at *
  generalize ofStr l pan.data.toList date.data.toList service.data.toList = V at *
  generalize ofEr l pan.data.toList date.data.toList service.data.toList = er at *
  have hsv : (V = value.data.toList) ↔ str V = value := by
    constructor
    · rintro rfl; rfl
    · rintro rfl; rfl
  generalize str V = SV at *
  generalize l.length = n at *
  go_enter Tryd.func10, Tryd.ntmps10
  go_wp2_with fail
  refine (awake17_any _).mono ?_
  rintro e w1 ⟨rfl, hb1⟩
  go_wp2_with fail
  have hrow : (w1.alloc (.cells #[Value.string pan, Value.string date, Value.string service, Value.string value] 9)).rangeAt w1.heap.size 0 ([pan, date, service, value].map Value.string) :=
    Blk.range (Blk.new w1 9 #[Value.string pan, Value.string date, Value.string service, Value.string value]) 0 _ (fun j v hv => by rw [Nat.zero_add]; simpa using hv)
  refine (few17_any n cp 4 4 A [pan, date, service, value] rfl (by omega) w1.heap.size _ hrow).mono ?_
  rintro e w2 ⟨rfl, rfl⟩
  have hbel2 := hb1.alloc hb1.size (.cells #[Value.string pan, Value.string date, Value.string service, Value.string value] 9)
  clear hrow
  generalize (w1.alloc (.cells #[Value.string pan, Value.string date, Value.string service, Value.string value] 9)) = w2 at *
  have hfew := few_sizes (l := [pan, date, service, value]) (n := n)
  generalize (fewB [pan, date, service, value] && decide (n ≤ 100)) = F at *
  cases F with
  | false =>
    clear hfew
    go_wp2_with fail
    refine (awake17_any _).mono ?_
    rintro e w3 ⟨rfl, hb3⟩
    go_wp2
    go_ret
    exact ⟨rfl, hbel2.trans (hb3.mono hbel2.size)⟩
  | true =>
    obtain ⟨hf, hn⟩ := hfew rfl
    have hp1 := hf pan (by simp)
    have hd1 := hf date (by simp)
    have hs1 := hf service (by simp)
    clear hfew hf
    have HVER := Lib.hid hver; clear hver
    have HSV := Lib.hid hsv; clear hsv
    go_wp2_with fail
    refine (HO.out _ (HAT.out _ hbel2)).mono ?_
    rintro e w3 ⟨⟨u, rfl, hu⟩, hb3⟩
    have hbel3 := hbel2.trans (hb3.mono hbel2.size)
    go_wp2_with fail
    refine (HR.out hp1 hd1 hs1 _ (HAT.out _ hbel3)).mono ?_
    rintro e w4 ⟨rfl, hb4⟩
    have hbel4 := hbel3.trans (hb4.mono hbel3.size)
    have hu4 := hu.below hb4 (Nat.le_refl _)
    clear hu
    rcases hcas with he | ⟨k, he⟩ | he
    · have hver := HVER.out
      rw [he] at hver
      simp only at hver
      rw [hver] at hu4
      have HU4 := Lib.hid hu4; clear hu4 hver
      rw [he]
      have f1 : erCode (.no 2) = 2 := rfl
      have f2 : erAt (.no 2) = -1 := rfl
      rw [f1, f2]
      clear he
      go_wp2_with fail
      refine (code_any _ _ _ _ HU4.out (hG.below hbel4 (Nat.le_refl _))).mono ?_
      rintro e w5 ⟨rfl, hb5⟩
      have hbel5 := hbel4.trans (hb5.mono hbel4.size)
      have hu5 := HU4.out.below hb5 (Nat.le_refl _)
      have HU5 := Lib.hid hu5; clear hu5
      rw [f1]
      go_wp2_with fail
      refine (at_any _ _ _ _ HU5.out (hG.below hbel5 (Nat.le_refl _))).mono ?_
      rintro e w6 ⟨rfl, hb6⟩
      have hbel6 := hbel5.trans (hb6.mono hbel5.size)
      rw [f2]
      go_wp2
      go_ret
      exact ⟨rfl, hbel6⟩
    · have hver := HVER.out
      rw [he] at hver
      simp only at hver
      rw [hver] at hu4
      have HU4 := Lib.hid hu4; clear hu4 hver
      rw [he]
      have f1 : erCode (.fa (k : Int) 16) = 16 := rfl
      have f2 : erAt (.fa (k : Int) 16) = k := rfl
      rw [f1, f2]
      clear he
      go_wp2_with fail
      refine (code_any _ _ _ _ HU4.out (hG.below hbel4 (Nat.le_refl _))).mono ?_
      rintro e w5 ⟨rfl, hb5⟩
      have hbel5 := hbel4.trans (hb5.mono hbel4.size)
      have hu5 := HU4.out.below hb5 (Nat.le_refl _)
      have HU5 := Lib.hid hu5; clear hu5
      rw [f1]
      go_wp2_with fail
      refine (at_any _ _ _ _ HU5.out (hG.below hbel5 (Nat.le_refl _))).mono ?_
      rintro e w6 ⟨rfl, hb6⟩
      have hbel6 := hbel5.trans (hb6.mono hbel5.size)
      rw [f2]
      go_wp2
      go_ret
      exact ⟨rfl, hbel6⟩
    · have hver := HVER.out
      rw [he] at hver
      simp only at hver
      rw [he]
      have f1 : erCode .ok = 0 := rfl
      have f2 : erAt .ok = -1 := rfl
      rw [f1, f2]
      clear he
      by_cases hev : V = value.data.toList
      · rw [if_pos hev] at hver
        rw [hver] at hu4
        obtain rfl : u = _ := hu4
        have hsv := HSV.out.1 hev
        subst hsv
        clear hver hev
        go_wp2
        go_ret
        exact ⟨rfl, hbel4⟩
      · rw [if_neg hev] at hver
        rw [hver] at hu4
        have hne2 : ¬ value = SV := fun h => hev (HSV.out.2 h.symm)
        have HU4 := Lib.hid hu4; clear hu4 hver hev
        have hne3 := str_ne hne2
        go_wp2_with fail
        refine (code_any _ _ _ _ HU4.out (hG.below hbel4 (Nat.le_refl _))).mono ?_
        rintro e w5 ⟨rfl, hb5⟩
        have hbel5 := hbel4.trans (hb5.mono hbel4.size)
        have f3 : erCode (.no 12) = 12 := rfl
        go_wp2
        go_ret
        exact ⟨rfl, hbel5⟩
end Go.Proofs.YtgffppmpmjaknaaDoor
