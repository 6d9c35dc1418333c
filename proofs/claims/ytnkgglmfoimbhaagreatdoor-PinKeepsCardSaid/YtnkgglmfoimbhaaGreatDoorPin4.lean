/- The contract of pin.account. -/
import Derived.Test.YtnkgglmfoimbhaaGreatDoorPinD
import Derived.Test.YtnkgglmfoimbhaaGreatDoorAesE
namespace Go.Proofs.YtnkgglmfoimbhaaGreatDoor
open Go Go.RowKit Pr

/-- the account of a block of format 4, in digits -/
def acctS (a : List UInt8) : List UInt8 := hexd (a.length - 12) :: a ++ List.replicate (31 - a.length) 48
theorem acctS_len (a : List UInt8) (h : a.length ≤ 31) : (acctS a).length = 32 := by simp [acctS]; omega
theorem acctS_hex (a : List UInt8) (h : a.length ≤ 19) (ha : ∀ c ∈ a, isDec c = true) : ∀ c ∈ acctS a, isHex c = true := by
  intro c hc
  unfold acctS at hc
  rcases List.mem_append.1 hc with hc | hc
  · rcases List.mem_cons.1 hc with rfl | hc
    · have : ∀ n < 8, isHex (hexd n) = true := by decide
      exact this _ (by omega)
    · exact isHex_of_dec (ha c hc)
  · rw [(List.mem_replicate.1 hc).2]
    decide

set_option maxHeartbeats 1000000 in
theorem account4_any (a : ByteArray) (h13 : 13 ≤ a.size) (h19 : a.size ≤ 19) (ha : ∀ c ∈ a.data.toList, isDec c = true) (w : World) :
    Calls Tryz.prog 58 #[.string a] w fun e w' => (∃ v, e = .returned (.tuple #[v, .nilIface]) ∧ Own w' w.heap.size v (unhexL (acctS a.data.toList))) ∧ Below w.heap.size w w' := by
  have hal : a.data.toList.length = a.size := by simp
  have HI := Lib.hid (fun W => itoa_one (a.size - 12) (by omega) W)
  have HR := Lib.hid (fun i hi W => repeat_at ⟨#[48]⟩ (str (List.replicate (31 - a.size) 48)) (31 - a.size) (by
    have : ∀ n ≤ 31, (⟨(Lib.repeatL (⟨#[48]⟩ : ByteArray).data.toList n).toArray⟩ : ByteArray) = str (List.replicate n 48) := by decide +kernel
    exact this _ (by omega)) i hi (by omega) (by decide) W)
  have hU : ∀ W, Calls Tryz.prog 40 #[.string (str (acctS a.data.toList))] W fun e w' => (∃ v, e = .returned (.tuple #[v, .nilIface]) ∧ Own w' W.heap.size v (unhexL (acctS a.data.toList))) ∧ Below W.heap.size W w' := fun W => by
    have := unhex_ok (str (acctS a.data.toList)) (by rw [str_size, acctS_len _ (by omega)]; omega) (by rw [str_list]; exact badAt_none (acctS_hex _ (by omega) ha)) (by rw [str_size, acctS_len _ (by omega)]) W
    rwa [str_list] at this
  have HU := Lib.hid hU; clear hU
  have hfin : (str [hexd (a.size - 12)] ++ a) ++ str (List.replicate (31 - a.size) 48) = str (acctS a.data.toList) := by
    conv => lhs; rw [← str_of a]
    rw [str_add, str_add]
    unfold acctS
    rw [hal, str_of]
    rfl
  have HFIN := Lib.hid hfin; clear hfin
  have hs1 : (str [hexd (a.size - 12)]).size = 1 := rfl
  have HS1 := Lib.hid hs1
  have e1 : IntKind.i64.wrap ((a.size : Int) - 12) = ((a.size - 12 : Nat) : Int) := by rw [IntWalk.i64_in _ (by omega)]; omega
  generalize str [hexd (a.size - 12)] = X at *
  go_enter Tryz.func58, Tryz.ntmps58
  go_wp2_with fail
  refine (HI.out _).mono ?_
  rintro e w1 ⟨rfl, rfl⟩
  have hxs : (X ++ a).size = 1 + a.size := by rw [ByteArray.size_append, hs1]
  have e2 : IntKind.i64.wrap (32 - (1 + (a.size : Int))) = ((31 - a.size : Nat) : Int) := by rw [IntWalk.i64_in _ (by omega)]; omega
  go_wp2_with fail
  refine (HR.out _ rfl _).mono ?_
  rintro e w2 ⟨rfl, hb2⟩
  have hrs : (str (List.replicate (31 - a.size) 48)).size = 31 - a.size := by rw [str_size, List.length_replicate]
  have hFIN := HFIN.out
  have hxx : ((X ++ a) ++ str (List.replicate (31 - a.size) 48)).size = 1 + a.size + (31 - a.size) := by rw [ByteArray.size_append, hxs, hrs]
  generalize str (List.replicate (31 - a.size) 48) = R at *
  have HF2 := Lib.hid hFIN; clear hFIN HFIN
  have b1 : ¬ 9223372036854775807 < (X ++ a).size + R.size := by omega
  go_wp2_with fail
  rw [HF2.out]
  refine (HU.out _).mono ?_
  rintro e w3 ⟨⟨v, rfl, hv⟩, hb3⟩
  go_wp2
  go_ret2
  exact ⟨⟨_, rfl, hv.more hb2.size⟩, hb2.trans (hb3.mono hb2.size)⟩
end Go.Proofs.YtnkgglmfoimbhaaGreatDoor
