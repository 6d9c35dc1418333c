/- lockboxlaw18.awake. -/
import Derived.Test.YtgffppmpmjaknaaDoorEmvD
import Derived.Test.YtgffppmpmjaknaaDoorEven
import Derived.Test.YtgffppmpmjaknaaDoorLawA
namespace Go.Proofs.YtgffppmpmjaknaaDoor
open Go Go.RowKit Pr

theorem oddN_odd (c : Nat) (h : c < 256) : oddB (oddN c) = true := by
  have : ∀ c : Nat, c < 256 → oddB (oddN c) = true := by decide +kernel
  exact this c h
theorem oddN_lt (c : Nat) (h : c < 256) : oddN c < 256 := by
  unfold oddN
  split
  · exact h
  · exact Nat.xor_lt_two_pow (n := 8) h (by decide)
theorem pairN_len (key x y : List Nat) : (pairN key x y).length = 16 := by unfold pairN; rw [List.length_append, triple16_len, triple16_len]
theorem pairN_lt (key x y : List Nat) : ∀ c ∈ pairN key x y, c < 256 := by
  intro c hc
  unfold pairN at hc
  rcases List.mem_append.1 hc with h | h
  · exact triple16_lt _ _ _ _ c h
  · exact triple16_lt _ _ _ _ c h
theorem cardN_len (key : List Nat) (pan seq : List UInt8) : (cardN key pan seq).length = 16 := by unfold cardN; rw [List.length_map, pairN_len]
theorem cardN_lt (key : List Nat) (pan seq : List UInt8) : ∀ c ∈ cardN key pan seq, c < 256 := by
  intro c hc
  unfold cardN at hc
  obtain ⟨x, hx, rfl⟩ := List.mem_map.1 hc
  exact oddN_lt x (pairN_lt _ _ _ x hx)
theorem cardN_odd (key : List Nat) (pan seq : List UInt8) : evenZ (cardN key pan seq) = -1 := firstNot_none fun c hc => by
  unfold cardN at hc
  obtain ⟨x, hx, rfl⟩ := List.mem_map.1 hc
  exact oddN_odd x (pairN_lt _ _ _ x hx)
def a18Pan : ByteArray := ⟨#[53, 52, 51, 50, 49, 48, 49, 50, 51, 52, 53, 54, 55, 56, 57, 49]⟩
def a18Seq : ByteArray := ⟨#[48, 48]⟩
theorem a18Ok : cardEr 16 a18Pan.data.toList a18Seq.data.toList = .ok := by rfl
theorem a18Val : cardVal z16 a18Pan.data.toList a18Seq.data.toList = cardN z16 a18Pan.data.toList a18Seq.data.toList := cardVal_ok a18Ok
theorem z16_len : z16.length = 16 := rfl

set_option maxHeartbeats 2000000 in
set_option maxRecDepth 100000 in
theorem awake18_any (w : World) (hG : EtOk w) :
    Calls Tryd.prog 12 #[] w fun e w' => e = .returned (.bool true) ∧ Below w.heap.size w w' := by
  go_enter Tryd.func12, Tryd.ntmps12
  go_wp2_with (first
    | (refine wpList_make_bytes rfl _ _ rfl .i64 .i64 16 16 16 rfl rfl rfl rfl (by omega) ?_; intro w1 hb1 hB1 hs1))
  have HZ : ∀ c ∈ z16, c < 256 := by decide
  have hAt : At w1 (some ⟨w.heap.size, 0, none⟩) z16 := fun _ => ⟨_, _, rfl, Bs.of_blk hB1 (fun j c hj => by rw [Nat.zero_add]; exact hj)⟩
  have HC := card_any z16 HZ (some ⟨w.heap.size, 0, none⟩) 16 (by decide) a18Pan a18Seq (by decide) w1 hAt
  rw [z16_len, a18Ok, a18Val] at HC
  have hl := cardN_len z16 a18Pan.data.toList a18Seq.data.toList
  have hlt := cardN_lt z16 a18Pan.data.toList a18Seq.data.toList
  have hodd := cardN_odd z16 a18Pan.data.toList a18Seq.data.toList
  generalize cardN z16 a18Pan.data.toList a18Seq.data.toList = C at *
  unfold a18Pan a18Seq at HC
  refine HC.mono ?_
  rintro e w2 ⟨⟨v, u, rfl, hv, hu⟩, hb2⟩
  obtain rfl : u = _ := hu
  obtain ⟨g, cap, rfl, hg, hcap, hgl, hBC⟩ := hv.form (by intro h; rw [h] at hl; cases hl)
  rw [hl] at hcap ⊢
  have hE := fun W hA => even_any C hlt (by omega) (some ⟨g, 0, none⟩) cap (by omega) W hA
  rw [hl, hodd] at hE
  have HE := Lib.hid hE
  have hG1 := hG.below hb1 (Nat.le_refl _)
  clear HC hv hE hodd
  have hb12 := hb1.trans (hb2.mono hb1.size)
  have HS1 := Lib.hid (fun W hA => session_any z16 HZ (some ⟨w.heap.size, 0, none⟩) 16 (by decide) 1 W hA)
  have HS2 := Lib.hid (fun W hA => session_any z16 HZ (some ⟨w.heap.size, 0, none⟩) 16 (by decide) 65536 W hA)
  rw [z16_len] at HS1 HS2
  have hA2 := hAt.below hb2 (Nat.le_refl _)
  go_wp2_with fail
  refine (HS1.out _ hA2).mono ?_
  rintro e w3 ⟨⟨v3, u3, rfl, hv3, hu3⟩, hb3⟩
  obtain rfl : u3 = _ := hu3
  have hA3 := hA2.below hb3 (Nat.le_refl _)
  have hb13 := hb12.trans (hb3.mono hb12.size)
  have hV3 : (ssVal z16 1).length = 16 := by
    have : ssVal z16 1 = pairN z16 (ssX 1) (ssY 1) := rfl
    rw [this, pairN_len]
  generalize ssVal z16 1 = V3 at *
  obtain ⟨g3, cap3, rfl, hg3, hcap3, hgl3, -⟩ := hv3.form (by intro h; rw [h] at hV3; cases hV3)
  rw [hV3] at hcap3 ⊢
  clear hv3 HS1
  go_wp2_with fail
  refine (HS2.out _ hA3).mono ?_
  rintro e w4 ⟨⟨v4, u4, rfl, hv4, hu4⟩, hb4⟩
  obtain rfl : u4 = _ := hu4
  have hb14 := hb13.trans (hb4.mono hb13.size)
  obtain ⟨A4, cap4, rfl, -, -⟩ := OwnN.form (e := 5) (kd := .u8) hv4
  have hBC4 : Bs w4 g 0 C := (hBC.below hb3 hgl).below hb4 (Nat.lt_of_lt_of_le hgl hb3.size)
  clear HS2 hv4 hAt hA2 hA3
  go_wp2_with fail
  refine (HE.out _ (fun _ => ⟨_, _, rfl, hBC4⟩)).mono ?_
  rintro e w5 ⟨rfl, hb5⟩
  have hb15 := hb14.trans (hb5.mono hb14.size)
  go_wp2_with fail
  refine (code_any _ (.no 1) 0 _ rfl (hG.below hb15 (Nat.le_refl _))).mono ?_
  rintro e w6 ⟨rfl, hb6⟩
  have hb16 := hb15.trans (hb6.mono hb15.size)
  have f1 : erCode (.no 1) = 1 := rfl
  go_wp2
  go_ret
  exact ⟨rfl, hb16⟩
end Go.Proofs.YtgffppmpmjaknaaDoor
