/- lockboxref10.Print. -/
import Derived.Test.YtcjnkobddeiahaaDoorHeadH
import Derived.Test.YtcjnkobddeiahaaDoorNumB
namespace Go.Proofs.YtcjnkobddeiahaaDoor
open Go Go.RowKit Pr
theorem two_of {s : ByteArray} (h : s.size = 2) : ∃ a b, s = str [a, b] := by
  have hl : s.data.toList.length = 2 := h
  match hs : s.data.toList, hl with
  | [a, b], _ => exact ⟨a, b, by apply ByteArray.ext; exact Array.toList_inj.1 (by rw [hs]; rfl)⟩

theorem Ns.new5 (w : World) (t : TypeId) (a b c d e : Nat) : Ns .u8 (w.alloc (.cells #[.int .u8 (a : Int), .int .u8 (b : Int), .int .u8 (c : Int), .int .u8 (d : Int), .int .u8 (e : Int)] t)) w.heap.size 0 [a, b, c, d, e] :=
  Blk.range (Blk.new w t _) 0 _ (fun j v hv => by rw [Nat.zero_add]; simpa [numCells] using hv)
theorem Ns.new7 (w : World) (t : TypeId) (a b c d e f g : Nat) : Ns .u8 (w.alloc (.cells #[.int .u8 (a : Int), .int .u8 (b : Int), .int .u8 (c : Int), .int .u8 (d : Int), .int .u8 (e : Int), .int .u8 (f : Int), .int .u8 (g : Int)] t)) w.heap.size 0 [a, b, c, d, e, f, g] :=
  Blk.range (Blk.new w t _) 0 _ (fun j v hv => by rw [Nat.zero_add]; simpa [numCells] using hv)

set_option maxHeartbeats 4000000 in
set_option maxRecDepth 100000 in
theorem refPrint_ok (h : Hd) (hr : rightEr h = .ok) (n : Nat) (h16 : 16 ≤ n) (h99 : n ≤ 9999) (w : World) :
    Calls Tryd.prog 15 #[.agg h.cells, .int .i64 n] w fun e w' => e = .returned (.string (str (printL h n))) ∧ Below w.heap.size w w' := by
  obtain ⟨c1, c2, c3, c4, z1, z2⟩ := right_ok hr
  obtain ⟨ua, ub, hU⟩ := two_of z1
  obtain ⟨sa, sb, hS⟩ := two_of z2
  have hpl : printL h n = [h.ver, UInt8.ofNat (48 + n / 1000), UInt8.ofNat (48 + n / 100 % 10), UInt8.ofNat (48 + n / 10 % 10), UInt8.ofNat (48 + n % 10)] ++ [ua, ub, h.alg, h.mode, sa, sb, h.exp] ++ [48, 48, 48, 48] := by
    unfold printL dig4
    rw [hU, hS, str_list, str_list]
    rfl
  rw [hpl]
  clear hpl hr
  unfold Hd.cells
  rw [hU, hS]
  clear hU hS z1 z2
  generalize h.ver = ve at *
  generalize h.alg = al at *
  generalize h.mode = mo at *
  generalize h.exp = ex at *
  obtain ⟨cs, hcs⟩ : ∃ cs, #[Value.int .u8 (ve.toNat : Int), .string (str [ua, ub]), .int .u8 (al.toNat : Int), .int .u8 (mo.toNat : Int), .string (str [sa, sb]), .int .u8 (ex.toNat : Int)] = cs := ⟨_, rfl⟩
  have hb0 : Below w.heap.size w (w.alloc (.cells cs 23)) := (Below.refl _ _).alloc (Nat.le_refl _) _
  have hK := Blk.new w 23 cs
  have hcell : ∀ W, Blk W w.heap.size 23 cs → W.cell? ⟨w.heap.size, 0, none⟩ = some (.int .u8 (ve.toNat : Int)) ∧ W.cell? ⟨w.heap.size, 1, none⟩ = some (.string (str [ua, ub])) ∧ W.cell? ⟨w.heap.size, 2, none⟩ = some (.int .u8 (al.toNat : Int)) ∧ W.cell? ⟨w.heap.size, 3, none⟩ = some (.int .u8 (mo.toNat : Int)) ∧ W.cell? ⟨w.heap.size, 4, none⟩ = some (.string (str [sa, sb])) ∧ W.cell? ⟨w.heap.size, 5, none⟩ = some (.int .u8 (ex.toNat : Int)) := fun W hW => by
    subst hcs
    exact ⟨hW.cell 0, hW.cell 1, hW.cell 2, hW.cell 3, hW.cell 4, hW.cell 5⟩
  have HCELL := Lib.hid hcell; clear hcell
  obtain ⟨k0, k1, k2, k3, k4, k5⟩ := HCELL.out _ hK
  rw [hcs]
  have HCS := Lib.hid hcs; clear hcs
  have huA : ∀ W, Sem.run Tryd.prog (Instr.index 9 (.string (str [ua, ub])) (.int .i64 0)) W = .ok (.int .u8 (ua.toNat : Int)) W := fun W => index_str 9 Tryd.underlying9 _ 0 (by rw [str_size]; simp) 0 rfl _ rfl W
  have huB : ∀ W, Sem.run Tryd.prog (Instr.index 9 (.string (str [ua, ub])) (.int .i64 1)) W = .ok (.int .u8 (ub.toNat : Int)) W := fun W => index_str 9 Tryd.underlying9 _ 1 (by rw [str_size]; simp) 1 rfl _ rfl W
  have hsA : ∀ W, Sem.run Tryd.prog (Instr.index 9 (.string (str [sa, sb])) (.int .i64 0)) W = .ok (.int .u8 (sa.toNat : Int)) W := fun W => index_str 9 Tryd.underlying9 _ 0 (by rw [str_size]; simp) 0 rfl _ rfl W
  have hsB : ∀ W, Sem.run Tryd.prog (Instr.index 9 (.string (str [sa, sb])) (.int .i64 1)) W = .ok (.int .u8 (sb.toNat : Int)) W := fun W => index_str 9 Tryd.underlying9 _ 1 (by rw [str_size]; simp) 1 rfl _ rfl W
  have HX := Lib.hid (And.intro huA (And.intro huB (And.intro hsA hsB)))
  clear huA huB hsA hsB
  generalize str [ua, ub] = SU at *
  generalize str [sa, sb] = SS at *
  obtain ⟨d1, g1⟩ : ∃ d, d = 48 + n / 1000 := ⟨_, rfl⟩
  obtain ⟨d2, g2⟩ : ∃ d, d = 48 + n / 100 % 10 := ⟨_, rfl⟩
  obtain ⟨d3, g3⟩ : ∃ d, d = 48 + n / 10 % 10 := ⟨_, rfl⟩
  obtain ⟨d4, g4⟩ : ∃ d, d = 48 + n % 10 := ⟨_, rfl⟩
  have q1 : 48 + (n : Int) / 1000 = d1 := by omega
  have q2 : 48 + (n : Int) / 100 % 10 = d2 := by omega
  have q3 : 48 + (n : Int) / 10 % 10 = d3 := by omega
  have q4 : 48 + (n : Int) % 10 = d4 := by omega
  rw [← g1, ← g2, ← g3, ← g4]
  have l1 : d1 < 58 := by omega
  have l2 : d2 < 58 := by omega
  have l3 : d3 < 58 := by omega
  have l4 : d4 < 58 := by omega
  clear g1 g2 g3 g4
  obtain ⟨R, hR⟩ : ∃ R, ([ve, UInt8.ofNat d1, UInt8.ofNat d2, UInt8.ofNat d3, UInt8.ofNat d4] ++ [ua, ub, al, mo, sa, sb, ex]) = R := ⟨_, rfl⟩
  rw [hR]
  have hn : natsOf R = [ve.toNat, d1, d2, d3, d4] ++ [ua.toNat, ub.toNat, al.toNat, mo.toNat, sa.toNat, sb.toNat, ex.toNat] := by
    rw [← hR]
    simp [natsOf]
    omega
  have hrl : R.length = 12 := by rw [← hR]; rfl
  have HR := Lib.hid hn; clear hn hR
  have HRL := Lib.hid hrl; clear hrl
  go_enter Tryd.func15, Tryd.ntmps15
  go_wp2_with (at_builtin; go_loud (refine wpList_append_nums rfl (.tmp 6) (.tmp 27) 57 rfl .u8 5 1 Tryd.underlying57 info_byte (w.heap.size + 1) (w.alloc (.cells cs 23)) _ [] rfl (OwnN.nil _ _ _ _) ((Below.refl _ _).alloc (by simp) _) (by simp) _ 5 5 [ve.toNat, d1, d2, d3, d4] rfl rfl ⟨_, _, rfl, by have := Ns.new5 (w.alloc (.cells cs 23)) 5 ve.toNat d1 d2 d3 d4; rw [World.size_alloc] at this; exact this⟩ (by simp) (by omega) ?_); intro v5 w5 hown5 hbel5 hsz5)
  refine wp_region_tree (.q 0 (.q 1 (.q 2 (.q 3 (.q 4 (.q 5 (.q 6 (.q 7 (.q 8 (.q 9 (.q 10 (.q 11 (.q 12 (.q 13 (.q 14 (.q 15 (.q 16 (.q 17 (.q 18 (.e [19] fun _ => .e [20] fun _ => .q 21 (.done))))))))))))))))))))) (fun W => Blk W w.heap.size 23 cs) rfl (by kernel_rfl) (fun _ _ d _ _ h => by cases d <;> exact h) ?_
  have hS : Blk w5.drew w.heap.size 23 cs := (hK.below hbel5 (by omega)).drewN 1
  clear k0 k1 k2 k3 k4 k5
  refine t_q rfl rfl hS _ (fun W hW => by (go_simp; rfl)) ?_
  go_simp
  refine t_q rfl rfl hS _ (fun W hW => by (go_simp; rfl)) ?_
  go_simp
  refine t_q rfl rfl hS (.string SU) (fun W hW => by (have hc := (HCELL.out W hW).2.1; go_simp)) ?_
  go_simp
  refine t_q rfl rfl hS (.int .u8 (ua.toNat : Int)) (fun W hW => by (have hi := HX.out.1; go_simp)) ?_
  go_simp
  refine t_q rfl rfl hS _ (fun W hW => by (go_simp; rfl)) ?_
  go_simp
  refine t_q rfl rfl hS (.string SU) (fun W hW => by (have hc := (HCELL.out W hW).2.1; go_simp)) ?_
  go_simp
  refine t_q rfl rfl hS (.int .u8 (ub.toNat : Int)) (fun W hW => by (have hi := HX.out.2.1; go_simp)) ?_
  go_simp
  refine t_q rfl rfl hS _ (fun W hW => by (go_simp; rfl)) ?_
  go_simp
  refine t_q rfl rfl hS (.int .u8 (al.toNat : Int)) (fun W hW => by (have hc := (HCELL.out W hW).2.2.1; go_simp)) ?_
  go_simp
  refine t_q rfl rfl hS _ (fun W hW => by (go_simp; rfl)) ?_
  go_simp
  refine t_q rfl rfl hS (.int .u8 (mo.toNat : Int)) (fun W hW => by (have hc := (HCELL.out W hW).2.2.2.1; go_simp)) ?_
  go_simp
  refine t_q rfl rfl hS _ (fun W hW => by (go_simp; rfl)) ?_
  go_simp
  refine t_q rfl rfl hS (.string SS) (fun W hW => by (have hc := (HCELL.out W hW).2.2.2.2.1; go_simp)) ?_
  go_simp
  refine t_q rfl rfl hS (.int .u8 (sa.toNat : Int)) (fun W hW => by (have hi := HX.out.2.2.1; go_simp)) ?_
  go_simp
  refine t_q rfl rfl hS _ (fun W hW => by (go_simp; rfl)) ?_
  go_simp
  refine t_q rfl rfl hS (.string SS) (fun W hW => by (have hc := (HCELL.out W hW).2.2.2.2.1; go_simp)) ?_
  go_simp
  refine t_q rfl rfl hS (.int .u8 (sb.toNat : Int)) (fun W hW => by (have hi := HX.out.2.2.2; go_simp)) ?_
  go_simp
  refine t_q rfl rfl hS _ (fun W hW => by (go_simp; rfl)) ?_
  go_simp
  refine t_q rfl rfl hS (.int .u8 (ex.toNat : Int)) (fun W hW => by (have hc := (HCELL.out W hW).2.2.2.2.2; go_simp)) ?_
  go_simp
  refine t_e rfl rfl fun K hK' => ?_
  go_simp
  refine hK' _ _ (hS.alloc _) ?_
  clear hK' K
  refine t_e rfl rfl fun K hK' => ?_
  refine op_append_nums (.tmp 29) (.tmp 48) 57 rfl .u8 5 1 Tryd.underlying57 info_byte (w.heap.size + 1) (w.alloc (.cells cs 23)) _ _ rfl (OwnN.below hown5 ((below_drewN (Below.refl _ _) 1).alloc (Nat.le_refl _) _) (Nat.le_refl _)) ((below_drewN hbel5 1).alloc (by have := hbel5.size; simpa using this) _) (by have := hbel5.size; simp at this ⊢; omega) _ 7 7 [ua.toNat, ub.toNat, al.toNat, mo.toNat, sa.toNat, sb.toNat, ex.toNat] rfl rfl ⟨_, _, rfl, Ns.new7 _ _ _ _ _ _ _ _ _⟩ (by simp) (by omega) fun v6 w6 hown6 hbel6 hsz6 => ?_
  have hS6 : Blk w6 w.heap.size 23 cs := hK.below hbel6 (by omega)
  refine hK' _ _ hS6 ?_
  clear hK' K
  go_simp
  refine t_q rfl rfl hS6 _ (fun W hW => by (go_simp; rfl)) ?_
  go_simp
  refine t_done ?_
  rw [List.nil_append, ← HR.out] at hown6
  obtain ⟨A, cap, rfl, -, hA⟩ := OwnN.form hown6
  have hA' : ∃ b p, A = some ⟨b, p, none⟩ ∧ Ns .u8 w6 b p (natsOf R) := hA (by intro h; have := congrArg List.length h; simp [natsOf, HRL.out] at this)
  have HA := Lib.hid hA'
  have hln : (natsOf R).length = 12 := by simp [natsOf, HRL.out]
  rw [hln]
  have hs48 : (⟨#[48, 48, 48, 48]⟩ : ByteArray) = str [48, 48, 48, 48] := rfl
  have hsR : (⟨R.toArray⟩ : ByteArray) = str R := rfl
  have hbb := Lib.hid (hb0.trans (hbel6.mono (by omega)))
  have hrs : (str R).size = 12 := by rw [str_size]; exact HRL.out
  clear hA hA' hown6 hown5 hbel5 hbel6 hS hS6 hK
  go_wp2_with (refine wpList_to_text rfl 57 9 5 (.tmp 50) rfl A R 12 cap rfl HRL.out HA.out Tryd.underlying57 Tryd.underlying5 Tryd.underlying9 rfl ?_)
  go_ret
  refine ⟨?_, hbb.out⟩
  show Ending.returned (.string (str R ++ str [48, 48, 48, 48])) = _
  rw [str_add]
end Go.Proofs.YtcjnkobddeiahaaDoor
