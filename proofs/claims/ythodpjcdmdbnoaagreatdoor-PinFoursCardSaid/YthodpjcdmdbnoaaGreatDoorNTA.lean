/- The contracts of tape.Tape's short and Take. The contracts of block.Book's ask and draw, of a book without a row. A row of the book, as it is built. block.Book's ask of a book with one row: the closure that parts a row's sides. -/
import Derived.Test.YthodpjcdmdbnoaaGreatDoorNBlk
import Derived.Test.YthodpjcdmdbnoaaGreatDoorNAesXY
import Derived.Test.YthodpjcdmdbnoaaGreatDoorNMH
/- The contracts of tape.Tape's short and Take. -/
namespace Go.Proofs.YthodpjcdmdbnoaaGreatDoor
open Go Go.RowKit Pr

/-- a tape lies at tp: its bytes are t, and lie in the block b -/
def TapeAt (w : World) (tp b : Nat) (t : List Nat) : Prop := ∃ A c, t.length ≤ c ∧ Blk w tp 59 #[.slice A t.length c] ∧ (t ≠ [] → ∃ o, A = some ⟨b, o, none⟩ ∧ Bs w b o t)
theorem TapeAt.same {w w' : World} {tp b : Nat} {t : List Nat} (h : TapeAt w tp b t) (h1 : w'.heap[tp]? = w.heap[tp]?) (h2 : t ≠ [] → w'.heap[b]? = w.heap[b]?) : TapeAt w' tp b t := by
 obtain ⟨A, c, hc, hB, hA⟩ := h
 refine ⟨A, c, hc, h1.trans hB, fun hne => ?_⟩
 obtain ⟨o, e, hBs⟩ := hA hne
 exact ⟨o, e, fun j v hv => (World.cell?_of_block (h2 hne)).trans (hBs j v hv)⟩
theorem TapeAt.lt {w : World} {tp b : Nat} {t : List Nat} (h : TapeAt w tp b t) : tp < w.heap.size ∧ (t ≠ [] → b < w.heap.size) := by
 obtain ⟨A, c, hc, hB, hA⟩ := h
 refine ⟨hB.lt, fun hne => ?_⟩
 obtain ⟨o, e, hBs⟩ := hA hne
 exact hBs.lt hne
theorem TapeAt.below {w w' : World} {tp b : Nat} {t : List Nat} (h : TapeAt w tp b t) (hb : Below w.heap.size w w') : TapeAt w' tp b t :=
 h.same (hb.block _ h.lt.1) (fun hne => hb.block _ (h.lt.2 hne))

set_option maxHeartbeats 1000000 in
theorem short_any (tp m c : Nat) (A : Option Addr) (w : World) (hB : Blk w tp 59 #[.slice A m c]) :
    Calls Tryz.prog 139 #[.pointer (some ⟨tp, 0, none⟩)] w fun e w' => (∃ v, e = .returned v ∧ ErIs w' w.heap.size v (.fa m 13)) ∧ Below w.heap.size w w' := by
 have hc : w.cell? ⟨tp, 0, none⟩ = some (.slice A m c) := hB.cell 0
 have hN := Blk.new w 80 #[.int .i64 (m : Int), .iface 57 (.int .i64 13)]
 have hb := (Below.refl w.heap.size w).alloc (Nat.le_refl _) (.cells #[.int .i64 (m : Int), .iface 57 (.int .i64 13)] 80)
 go_enter Tryz.func139, Tryz.ntmps139
 go_wp2
 go_ret
 exact ⟨⟨_, rfl, w.heap.size, rfl, Nat.le_refl _, hN⟩, hb⟩

set_option maxHeartbeats 4000000 in
set_option maxRecDepth 100000 in
theorem take_end (t : List Nat) (m : Nat) (hm : t.length = m) (h16 : m < 16) (tp b : Nat) (w : World) (hT : TapeAt w tp b t) :
    Calls Tryz.prog 128 #[.pointer (some ⟨tp, 0, none⟩), .int .i64 16] w fun e w' =>
     (∃ v, e = .returned (.tuple #[.slice none 0 0, v]) ∧ ErIs w' w.heap.size v (.fa m 13)) ∧ Below w.heap.size w w' := by
 obtain ⟨A, c, hc, hB, hA⟩ := hT
 rw [hm] at hc hB
 have hcl : w.cell? ⟨tp, 0, none⟩ = some (.slice A m c) := hB.cell 0
 have HS := Lib.hid (short_any tp m c A w hB)
 have t1 : (m : Int) < 16 := by omega
 clear hA hB hm
 go_enter Tryz.func128, Tryz.ntmps128
 go_wp2_with fail
 refine (HS.out).mono ?_
 rintro e w1 ⟨⟨v, rfl, hv⟩, hb1⟩
 go_wp2
 go_ret2
 exact ⟨⟨v, rfl, hv⟩, hb1⟩

set_option maxHeartbeats 4000000 in
set_option maxRecDepth 100000 in
theorem take_ok (t : List Nat) (m : Nat) (hm : t.length = m) (h16 : 16 ≤ m) (hm2 : m ≤ 100000) (tp b : Nat) (w : World) (hT : TapeAt w tp b t) :
    Calls Tryz.prog 128 #[.pointer (some ⟨tp, 0, none⟩), .int .i64 16] w fun e w' =>
     (∃ v, e = .returned (.tuple #[v, .nilIface]) ∧ Own w' w.heap.size v (t.take 16)) ∧ TapeAt w' tp b (t.drop 16) ∧ Keep tp w w' := by
 obtain ⟨A, c, hc, hB, hA⟩ := hT
 obtain ⟨o, rfl, hBs⟩ := hA (ne_nil hm (by omega))
 have hbl := hBs.lt (ne_nil hm (by omega))
 have h1 := hBs.sub 0 16
 rw [Nat.add_zero, List.drop_zero] at h1
 have h2 := hBs.sub 16 (m - 16)
 rw [List.take_of_length_le (by rw [List.length_drop, hm]; exact Nat.le_refl _)] at h2
 have hdl : (t.drop 16).length = m - 16 := by rw [List.length_drop, hm]
 have HCL := Lib.hid (fun c W hA => clone_any (t.take 16) 16 (by rw [List.length_take]; omega) (by omega) (by omega) (some ⟨b, o, none⟩) c W hA)
 rw [hm] at hc hB
 have hcl : w.cell? ⟨tp, 0, none⟩ = some (.slice (some ⟨b, o, none⟩) m c) := hB.cell 0
 have hgl := hB.lt
 generalize t.take 16 = X at *
 generalize t.drop 16 = R at *
 have hne : tp ≠ b := fun e => by
  subst e
  have h3 := hBs.cell 0 (by omega)
  rw [hB.cell] at h3
  rcases Nat.eq_zero_or_pos (o + 0) with h4 | h4
  ·
   rw [h4] at h3; cases h3
  ·
   rw [Array.getElem?_eq_none (by show 1 ≤ _; omega)] at h3; cases h3
 have HNE := Lib.hid (fun (e : b = tp) => hne e.symm); clear hne
 have H2 := Lib.hid h2; clear h2
 have HB := Lib.hid hB; clear hB
 have HDL := Lib.hid hdl; clear hdl
 have HBS := Lib.hid hBs; clear hBs
 have t1 : (16 : Int) ≤ (m : Int) := by omega
 have t2 : (16 : Int) ≤ (c : Int) := by omega
 have t3 : (m : Int) ≤ (c : Int) := by omega
 have t4 : 16 ≤ c := by omega
 clear hA hm
 go_enter Tryz.func128, Tryz.ntmps128
 go_wp2_with fail
 refine (HCL.out _ _ (fun _ => ⟨_, _, rfl, h1⟩)).mono ?_
 rintro e w1 ⟨⟨v, rfl, hv⟩, hb1⟩
 have hB1 := HB.out.below hb1 hgl
 have hcl1 : w1.cell? ⟨tp, 0, none⟩ = some (.slice (some ⟨b, o, none⟩) m c) := hB1.cell 0
 have hfz1 : w1.frozen? ⟨tp, 0, none⟩ = false := hB1.frozen 0
 have fin : ∀ A' c', m - 16 ≤ c' → (R = [] ∨ A' = some ⟨b, o + 16, none⟩) → Own (w1.setCell ⟨tp, 0, none⟩ (.slice A' (m - 16) c')) w.heap.size v X ∧ TapeAt (w1.setCell ⟨tp, 0, none⟩ (.slice A' (m - 16) c')) tp b R ∧ Keep tp w (w1.setCell ⟨tp, 0, none⟩ (.slice A' (m - 16) c')) := fun A' c' h1 h2 => by
  have hO := Only.setCell w1 tp 0 (.slice A' (m - 16) c')
  refine ⟨Own.onlyB hv hO hgl, ⟨A', c', by rw [HDL.out]; exact h1, by rw [HDL.out]; exact hB1.set_ 0 _, fun hne => ?_⟩, (Keep.ofBelow hb1).setCell 0 _⟩
  rcases h2 with h2 | h2
  ·
   exact absurd h2 hne
  ·
   exact ⟨o + 16, h2, (H2.out.below hb1 hbl).only hO (fun e => HNE.out e)⟩
 have FIN := Lib.hid fin; clear fin
 have H0 := Lib.hid (fun (e : c = 16) => (List.length_eq_zero_iff.1 (by rw [HDL.out]; omega) : R = []))
 clear hB1 hv hb1
 go_wp2_with fail
 all_goals go_ret2
 all_goals first
  | exact ⟨⟨v, rfl, (FIN.out _ _ (by omega) (.inr rfl)).1⟩, (FIN.out _ _ (by omega) (.inr rfl)).2⟩
  | exact ⟨⟨v, rfl, (FIN.out _ _ (by omega) (.inl (H0.out (by assumption)))).1⟩, (FIN.out _ _ (by omega) (.inl (H0.out (by assumption)))).2⟩
end Go.Proofs.YthodpjcdmdbnoaaGreatDoor

/- The contracts of block.Book's ask and draw, of a book without a row. -/
namespace Go.Proofs.YthodpjcdmdbnoaaGreatDoor
open Go Go.RowKit Pr

set_option maxHeartbeats 1000000 in
theorem index0 (f : Value) (w : World) : Calls Tryz.prog 129 #[.slice none 0 0, f] w fun e w' => e = .returned (.int .i64 (-1)) ∧ w' = w := by
 go_enter Tryz.func129, Tryz.ntmps129
 go_wp2
 refine wp_loop_rounds 1 ?_
 rw [rounds_succ]
 go_wp2
 go_ret
 exact ⟨rfl, rfl⟩
set_option maxHeartbeats 1000000 in
theorem contains0 (f : Value) (w : World) : Calls Tryz.prog 105 #[.slice none 0 0, f] w fun e w' => e = .returned (.bool false) ∧ w' = w := by
 have H := Lib.hid (fun W => index0 f W)
 go_enter Tryz.func105, Tryz.ntmps105
 go_wp2_with fail
 refine (H.out _).mono ?_
 rintro e w1 ⟨rfl, rfl⟩
 go_wp2
 go_ret
 exact ⟨rfl, rfl⟩

/-- a book lies at bp: no row, and the tape at tp -/
def Book0 (w : World) (bp tp : Nat) : Prop := Blk w bp 65 #[.slice none 0 0, .pointer (some ⟨tp, 0, none⟩)]

set_option maxHeartbeats 1000000 in
/-- the closure that asks whether a block is taken: of a book without a row none is -/
theorem taken0 (Y : List Nat) (bp tp gb : Nat) (c2 c3 : Value) (w : World) (hb : w.cell? ⟨gb, 0, none⟩ = some (.pointer (some ⟨bp, 0, none⟩))) (hB : Book0 w bp tp) :
    Calls Tryz.prog 104 #[.agg (byteCells Y), .pointer (some ⟨gb, 0, none⟩), c2, c3] w fun e w' => e = .returned (.bool false) ∧ Below w.heap.size w w' := by
 have H := Lib.hid (fun f W => contains0 f W)
 have hmf : ∀ (fn : Fn) (first cap : Array Value) (W : World), (Instr.makeFunc fn first cap).run Tryz.prog W = .ok (.func fn first cap) W := fun _ _ _ _ => rfl
 have hl := block_lt_of_cell hb
 have hb1 : (w.alloc (.cells (byteCells Y) 113)).cell? ⟨gb, 0, none⟩ = some (.pointer (some ⟨bp, 0, none⟩)) := by rw [World.cell?_alloc_lt _ _ ⟨gb, 0, none⟩ hl]; exact hb
 have hB1 : Blk (w.alloc (.cells (byteCells Y) 113)) bp 65 #[.slice none 0 0, .pointer (some ⟨tp, 0, none⟩)] := Blk.alloc hB _
 have hc1 := hB1.cell 0
 have hbe := (Below.refl w.heap.size w).alloc (Nat.le_refl _) (.cells (byteCells Y) 113)
 generalize byteCells Y = cy at *
 go_enter Tryz.func104, Tryz.ntmps104
 go_wp2_with fail
 refine (H.out _ _).mono ?_
 rintro e w1 ⟨rfl, rfl⟩
 go_wp2
 go_ret
 exact ⟨rfl, hbe⟩

section
variable {P : Program}
theorem results_cell2 {fn : Func} {p u : Tmp} {ty : TypeId} (h : fn.results = #[.cell p ty, .tmp u]) (tmps : Array Value) (w : World) (g : Nat) (t : TypeId) (cs : Array Value) (d : TypeDesc)
    (hp : tmps.getD p undef = .pointer (some ⟨g, 0, none⟩)) (hg : Blk w g t cs)
    (hu : P.underlying ty = some d) (hd : (match d with | .struct _ | .array _ _ => true | _ => false) = true) (hi : (P.info? ty).map (·.size) = some cs.size) :
    (results fn tmps).run P w = .ok (.tuple #[.agg cs, tmps.getD u undef]) w := by
 have hp' : tmps[p]?.getD undef = .pointer (some ⟨g, 0, none⟩) := by simpa using hp
 simp [results, h, hp', asAddr, run_loadVar_row w g t ty cs (0, 0) d hg hu hd hi]
end

set_option maxHeartbeats 4000000 in
set_option maxRecDepth 100000 in
/-- draws of a book without a row: the tape's next block -/
theorem draw0_ok (T : List Nat) (m : Nat) (hT : T.length = m) (h16 : 16 ≤ m) (hm : m ≤ 100000) (bp tp tb gb : Nat) (c2 c3 : Value) (w : World) (hb : w.cell? ⟨gb, 0, none⟩ = some (.pointer (some ⟨bp, 0, none⟩))) (hB : Book0 w bp tp) (hTp : TapeAt w tp tb T) (hne : gb ≠ tp) (hne2 : bp ≠ tp) :
    Calls Tryz.prog 103 #[.pointer (some ⟨bp, 0, none⟩), .func (.func 104) #[] #[.pointer (some ⟨gb, 0, none⟩), c2, c3]] w fun e w' => e = .returned (.tuple #[.agg (byteCells (T.take 16)), .nilIface]) ∧ TapeAt w' tp tb (T.drop 16) ∧ Keep tp w w' := by
 have HTA := Lib.hid (fun W hTW => take_ok T m hT h16 hm tp tb W hTW)
 have hyl : (T.take 16).length = 16 := by rw [List.length_take]; omega
 generalize T.take 16 = Y at *
 generalize T.drop 16 = D at *
 have HTK := Lib.hid (fun W h1 h2 => taken0 Y bp tp gb c2 c3 W h1 h2)
 have htl := hTp.lt.1
 have htb := hTp.lt.2 (ne_nil hT (by omega))
 have hgl := block_lt_of_cell hb
 have hbl := hB.lt
 have hR := Blk.new w 113 #[.int .u8 0, .int .u8 0, .int .u8 0, .int .u8 0, .int .u8 0, .int .u8 0, .int .u8 0, .int .u8 0, .int .u8 0, .int .u8 0, .int .u8 0, .int .u8 0, .int .u8 0, .int .u8 0, .int .u8 0, .int .u8 0]
 have hba := (Below.refl w.heap.size w).alloc (Nat.le_refl _) (.cells #[.int .u8 0, .int .u8 0, .int .u8 0, .int .u8 0, .int .u8 0, .int .u8 0, .int .u8 0, .int .u8 0, .int .u8 0, .int .u8 0, .int .u8 0, .int .u8 0, .int .u8 0, .int .u8 0, .int .u8 0, .int .u8 0] 113)
 have hT1 : TapeAt (w.alloc (.cells #[.int .u8 0, .int .u8 0, .int .u8 0, .int .u8 0, .int .u8 0, .int .u8 0, .int .u8 0, .int .u8 0, .int .u8 0, .int .u8 0, .int .u8 0, .int .u8 0, .int .u8 0, .int .u8 0, .int .u8 0, .int .u8 0] 113)) tp tb T := hTp.below hba
 have hB1 : Book0 (w.alloc (.cells #[.int .u8 0, .int .u8 0, .int .u8 0, .int .u8 0, .int .u8 0, .int .u8 0, .int .u8 0, .int .u8 0, .int .u8 0, .int .u8 0, .int .u8 0, .int .u8 0, .int .u8 0, .int .u8 0, .int .u8 0, .int .u8 0] 113)) bp tp := Blk.alloc hB _
 have hb1 : (w.alloc (.cells #[.int .u8 0, .int .u8 0, .int .u8 0, .int .u8 0, .int .u8 0, .int .u8 0, .int .u8 0, .int .u8 0, .int .u8 0, .int .u8 0, .int .u8 0, .int .u8 0, .int .u8 0, .int .u8 0, .int .u8 0, .int .u8 0] 113)).cell? ⟨gb, 0, none⟩ = some (.pointer (some ⟨bp, 0, none⟩)) := by rw [World.cell?_alloc_lt _ _ ⟨gb, 0, none⟩ hgl]; exact hb
 have hc1 := hB1.cell 1
 have hk1 : Keep tp w (w.alloc (.cells #[.int .u8 0, .int .u8 0, .int .u8 0, .int .u8 0, .int .u8 0, .int .u8 0, .int .u8 0, .int .u8 0, .int .u8 0, .int .u8 0, .int .u8 0, .int .u8 0, .int .u8 0, .int .u8 0, .int .u8 0, .int .u8 0] 113)) := Keep.ofBelow hba
 have hsz : (w.alloc (.cells #[.int .u8 0, .int .u8 0, .int .u8 0, .int .u8 0, .int .u8 0, .int .u8 0, .int .u8 0, .int .u8 0, .int .u8 0, .int .u8 0, .int .u8 0, .int .u8 0, .int .u8 0, .int .u8 0, .int .u8 0, .int .u8 0] 113)).heap.size = w.heap.size + 1 := by simp
 have hone : (byteCells Y).all (·.oneCell') = true := bytes_one _
 have hbs : (byteCells Y).size = 16 := by rw [size_byteCells, hyl]
 have harr : ∀ a c W, (Instr.arrayAt 113 (.slice a 16 c)).run Tryz.prog W = .ok (.pointer a) W := fun a c W => run_arrayAt _ 5 16 Tryz.underlying113 a 16 c (Nat.le_refl _) W
 go_enter Tryz.func103, Tryz.ntmps103
 go_wp2
 generalize w.alloc (.cells #[.int .u8 0, .int .u8 0, .int .u8 0, .int .u8 0, .int .u8 0, .int .u8 0, .int .u8 0, .int .u8 0, .int .u8 0, .int .u8 0, .int .u8 0, .int .u8 0, .int .u8 0, .int .u8 0, .int .u8 0, .int .u8 0] 113) = w1 at *
 refine wp_loop_rounds 1 ?_
 rw [rounds_succ]
 go_wp2_with fail
 refine (HTA.out _ hT1).mono ?_
 rintro e w2 ⟨⟨v, rfl, hv⟩, hT2, hk2⟩
 obtain ⟨gx, cx, rfl, hBx, hcx, hgx⟩ := hv.at_ hyl (by omega)
 have hBx2 : Bs w2 gx 0 Y := by
  obtain ⟨b, o, e, h⟩ := hBx (ne_nil hyl (by omega))
  injection e with e
  injection e with e1 e2
  rw [e1, e2]
  exact h
 have hR2 : Blk w2 w.heap.size 113 #[.int .u8 0, .int .u8 0, .int .u8 0, .int .u8 0, .int .u8 0, .int .u8 0, .int .u8 0, .int .u8 0, .int .u8 0, .int .u8 0, .int .u8 0, .int .u8 0, .int .u8 0, .int .u8 0, .int .u8 0, .int .u8 0] := (hk2.block _ (by omega) (by omega)).trans hR
 have hB2 : Book0 w2 bp tp := (hk2.block _ (by omega) hne2).trans hB1
 have hb2 : w2.cell? ⟨gb, 0, none⟩ = some (.pointer (some ⟨bp, 0, none⟩)) := (World.cell?_of_block (hk2.block gb (by omega) hne)).trans hb1
 have hk12 := hk1.trans hk2
 have hs2 := hk2.size
 have hba2 := (Below.refl w2.heap.size w2).alloc (Nat.le_refl _) (.cells #[.int .u8 0, .int .u8 0, .int .u8 0, .int .u8 0, .int .u8 0, .int .u8 0, .int .u8 0, .int .u8 0, .int .u8 0, .int .u8 0, .int .u8 0, .int .u8 0, .int .u8 0, .int .u8 0, .int .u8 0, .int .u8 0] 113)
 go_wp2_with (first
  | (refine wpList_load_bs rfl 113 (.tmp 22) rfl gx 0 rfl Y hBx2 _ Tryz.underlying113 rfl (by rw [info_16u8, hyl]) ?_)
  | (refine wpList_store_all rfl 113 (.tmp 8) (.tmp 23) rfl w2.heap.size (byteCells Y) rfl rfl 113 #[.int .u8 0, .int .u8 0, .int .u8 0, .int .u8 0, .int .u8 0, .int .u8 0, .int .u8 0, .int .u8 0, .int .u8 0, .int .u8 0, .int .u8 0, .int .u8 0, .int .u8 0, .int .u8 0, .int .u8 0, .int .u8 0] (Blk.new w2 _ _) (by rw [info_16u8, hbs]) (by rw [hbs]; rfl) hone ?_; intro w3 hB3 hO3; have hb3 := hO3.below hba2 (Nat.le_refl _))
  | (refine wpList_load_row rfl 113 (.tmp 8) rfl w2.heap.size rfl 113 (byteCells Y) (0,0) _ hB3 Tryz.underlying113 rfl (by rw [info_16u8, hbs]) ?_))
 have hR3 := hR2.below hb3 (by omega)
 have hB3b : Book0 w3 bp tp := Blk.below hB2 hb3 hB2.lt
 have hb33 : w3.cell? ⟨gb, 0, none⟩ = some (.pointer (some ⟨bp, 0, none⟩)) := (hb3.cell (p := ⟨gb, 0, none⟩) (block_lt_of_cell hb2)).trans hb2
 have hT3 : TapeAt w3 tp tb D := hT2.below hb3
 have hk3 := hk12.trans (Keep.ofBelow hb3)
 have hs3 := hb3.size
 refine (HTK.out _ hb33 hB3b).mono ?_
 rintro e w4 ⟨rfl, hb4⟩
 have hR4 := hR3.below hb4 (by omega)
 have hB4 := hB3.below hb4 hB3.lt
 have hT4 : TapeAt w4 tp tb D := hT3.below hb4
 have hk4 := hk3.trans (Keep.ofBelow hb4)
 go_wp2_with (first
  | (refine wpList_load_row rfl 113 (.tmp 8) rfl w2.heap.size rfl 113 (byteCells Y) (0,0) _ hB4 Tryz.underlying113 rfl (by rw [info_16u8, hbs]) ?_)
  | (refine wpList_store_all rfl 113 (.tmp 4) (.tmp 28) rfl w.heap.size (byteCells Y) rfl rfl 113 #[.int .u8 0, .int .u8 0, .int .u8 0, .int .u8 0, .int .u8 0, .int .u8 0, .int .u8 0, .int .u8 0, .int .u8 0, .int .u8 0, .int .u8 0, .int .u8 0, .int .u8 0, .int .u8 0, .int .u8 0, .int .u8 0] hR4 (by rw [info_16u8, hbs]) (by rw [hbs]; rfl) hone ?_; intro w5 hB5 hO5)
  | (refine bodyPost_ret (results_cell2 rfl _ _ w.heap.size 113 _ _ rfl hB5 Tryz.underlying113 rfl (by rw [info_16u8, hbs])) rfl ?_; refine ⟨rfl, ?_, ?_⟩))
 ·
  exact hT4.same (hO5.block _ (by omega)) (fun _ => hO5.block _ (by omega))
 ·
  exact ⟨hO5.os.trans hk4.os, hO5.tape.trans hk4.tape, hO5.output.trans hk4.output, by have := hk4.size; have := hO5.size; omega, fun i hi hn => (hO5.block i (by omega)).trans (hk4.block i hi hn)⟩

set_option maxHeartbeats 4000000 in
set_option maxRecDepth 100000 in
/-- draws of a book without a row, where the tape is at its end -/
theorem draw0_end (T : List Nat) (m : Nat) (hT : T.length = m) (h16 : m < 16) (bp tp tb : Nat) (f : Value) (w : World) (hB : Book0 w bp tp) (hTp : TapeAt w tp tb T) :
    Calls Tryz.prog 103 #[.pointer (some ⟨bp, 0, none⟩), f] w fun e w' => (∃ v, e = .returned (.tuple #[.agg #[.int .u8 0, .int .u8 0, .int .u8 0, .int .u8 0, .int .u8 0, .int .u8 0, .int .u8 0, .int .u8 0, .int .u8 0, .int .u8 0, .int .u8 0, .int .u8 0, .int .u8 0, .int .u8 0, .int .u8 0, .int .u8 0], v]) ∧ ErIs w' w.heap.size v (.fa m 13)) ∧ Below w.heap.size w w' := by
 have HTA := Lib.hid (fun W hTW => take_end T m hT h16 tp tb W hTW)
 have hR := Blk.new w 113 #[.int .u8 0, .int .u8 0, .int .u8 0, .int .u8 0, .int .u8 0, .int .u8 0, .int .u8 0, .int .u8 0, .int .u8 0, .int .u8 0, .int .u8 0, .int .u8 0, .int .u8 0, .int .u8 0, .int .u8 0, .int .u8 0]
 have hba := (Below.refl w.heap.size w).alloc (Nat.le_refl _) (.cells #[.int .u8 0, .int .u8 0, .int .u8 0, .int .u8 0, .int .u8 0, .int .u8 0, .int .u8 0, .int .u8 0, .int .u8 0, .int .u8 0, .int .u8 0, .int .u8 0, .int .u8 0, .int .u8 0, .int .u8 0, .int .u8 0] 113)
 have hT1 := hTp.below hba
 have hB1 : Book0 (w.alloc (.cells #[.int .u8 0, .int .u8 0, .int .u8 0, .int .u8 0, .int .u8 0, .int .u8 0, .int .u8 0, .int .u8 0, .int .u8 0, .int .u8 0, .int .u8 0, .int .u8 0, .int .u8 0, .int .u8 0, .int .u8 0, .int .u8 0] 113)) bp tp := Blk.alloc hB _
 have hc1 := hB1.cell 1
 have hsz : (w.alloc (.cells #[.int .u8 0, .int .u8 0, .int .u8 0, .int .u8 0, .int .u8 0, .int .u8 0, .int .u8 0, .int .u8 0, .int .u8 0, .int .u8 0, .int .u8 0, .int .u8 0, .int .u8 0, .int .u8 0, .int .u8 0, .int .u8 0] 113)).heap.size = w.heap.size + 1 := by simp
 have HSZ := Lib.hid hsz; clear hsz
 go_enter Tryz.func103, Tryz.ntmps103
 go_wp2
 generalize w.alloc (.cells #[.int .u8 0, .int .u8 0, .int .u8 0, .int .u8 0, .int .u8 0, .int .u8 0, .int .u8 0, .int .u8 0, .int .u8 0, .int .u8 0, .int .u8 0, .int .u8 0, .int .u8 0, .int .u8 0, .int .u8 0, .int .u8 0] 113) = w1 at *
 refine wp_loop_rounds 1 ?_
 rw [rounds_succ]
 go_wp2_with fail
 refine (HTA.out _ hT1).mono ?_
 rintro e w2 ⟨⟨v, rfl, g, rfl, hg, hF⟩, hb2⟩
 have hs := HSZ.out
 have hR2 : Blk w2 w.heap.size 113 #[.int .u8 0, .int .u8 0, .int .u8 0, .int .u8 0, .int .u8 0, .int .u8 0, .int .u8 0, .int .u8 0, .int .u8 0, .int .u8 0, .int .u8 0, .int .u8 0, .int .u8 0, .int .u8 0, .int .u8 0, .int .u8 0] := hR.below hb2 (by omega)
 have hb02 := hba.trans (hb2.mono (by omega))
 go_wp2_with (first
  | (refine wpList_store_all rfl 113 (.tmp 4) (.tmp 19) rfl w.heap.size #[.int .u8 0, .int .u8 0, .int .u8 0, .int .u8 0, .int .u8 0, .int .u8 0, .int .u8 0, .int .u8 0, .int .u8 0, .int .u8 0, .int .u8 0, .int .u8 0, .int .u8 0, .int .u8 0, .int .u8 0, .int .u8 0] rfl rfl 113 #[.int .u8 0, .int .u8 0, .int .u8 0, .int .u8 0, .int .u8 0, .int .u8 0, .int .u8 0, .int .u8 0, .int .u8 0, .int .u8 0, .int .u8 0, .int .u8 0, .int .u8 0, .int .u8 0, .int .u8 0, .int .u8 0] hR2 (by rw [info_16u8]; rfl) rfl (by simp [Value.oneCell']) ?_; intro w5 hB5 hO5)
  | (refine bodyPost_ret (results_cell2 rfl _ _ w.heap.size 113 _ _ rfl hB5 Tryz.underlying113 rfl (by rw [info_16u8]; rfl)) rfl ?_; exact ⟨⟨_, rfl, g, rfl, by omega, hF.only hO5 (by omega)⟩, hO5.below hb02 (Nat.le_refl _)⟩))
end Go.Proofs.YthodpjcdmdbnoaaGreatDoor

/- A row of the book, as it is built. -/
namespace Go.Proofs.YthodpjcdmdbnoaaGreatDoor
open Go Go.RowKit Pr

theorem info_rowB3 : (Tryz.prog.info? 178).map (fun i => (i.zero, i.size, i.bytes)) = some (some (.agg #[.string ⟨#[]⟩, .int .u8 0, .int .u8 0, .int .u8 0, .int .u8 0, .int .u8 0, .int .u8 0, .int .u8 0, .int .u8 0, .int .u8 0, .int .u8 0, .int .u8 0, .int .u8 0, .int .u8 0, .int .u8 0, .int .u8 0, .int .u8 0, .int .u8 0, .int .u8 0, .int .u8 0, .int .u8 0, .int .u8 0, .int .u8 0, .int .u8 0, .int .u8 0, .int .u8 0, .int .u8 0, .int .u8 0, .int .u8 0, .int .u8 0, .int .u8 0, .int .u8 0, .int .u8 0]), 33, 48) := by kernel_rfl
theorem info_rowB : (Tryz.prog.info? 178).map (·.size) = some 33 := by kernel_rfl

theorem fold_cells (o : Nat) : ∀ (vs : List Value) (i : Nat) (cs : Array Value), ((vs.zipIdx i).foldl (fun cs (x : Value × Nat) => cs.setIfInBounds (o + x.2) x.1) cs).size = cs.size ∧ ∀ j, ((vs.zipIdx i).foldl (fun cs (x : Value × Nat) => cs.setIfInBounds (o + x.2) x.1) cs)[j]? = if o + i ≤ j ∧ j < o + i + vs.length ∧ j < cs.size then vs[j - (o + i)]? else cs[j]?
 | [], i, cs => ⟨rfl, fun j => by
  rw [if_neg (by simp only [List.length_nil]; omega)]
  rfl⟩
 | v :: vs, i, cs => by
  obtain ⟨h1, h2⟩ := fold_cells o vs (i + 1) (cs.setIfInBounds (o + i) v)
  rw [List.zipIdx_cons, List.foldl_cons]
  refine ⟨by rw [h1, Array.size_setIfInBounds], fun j => ?_⟩
  rw [h2 j, Array.size_setIfInBounds, Array.getElem?_setIfInBounds, List.length_cons]
  by_cases hj : o + i = j
  ·
   subst hj
   rw [if_neg (by omega), if_pos rfl]
   by_cases hs : o + i < cs.size
   ·
    rw [if_pos hs, if_pos ⟨by omega, by omega, hs⟩, Nat.sub_self]
    rfl
   ·
    rw [if_neg hs, if_neg (by omega), Array.getElem?_eq_none (by omega)]
  ·
   rw [if_neg hj]
   by_cases hc : o + (i + 1) ≤ j ∧ j < o + (i + 1) + vs.length ∧ j < cs.size
   ·
    rw [if_pos hc, if_pos ⟨by omega, by omega, hc.2.2⟩, show j - (o + i) = (j - (o + (i + 1))) + 1 by omega, List.getElem?_cons_succ]
   ·
    rw [if_neg hc, if_neg (by omega)]
theorem build_row (k : Value) (cx cy : Array Value) (hx : cx.size = 16) (hy : cy.size = 16) :
    Array.foldl (fun cs (x : Value × Nat) => cs.setIfInBounds (17 + x.snd) x.fst) (Array.foldl (fun cs (x : Value × Nat) => cs.setIfInBounds (1 + x.snd) x.fst) #[k, Value.int .u8 0, Value.int .u8 0, Value.int .u8 0, Value.int .u8 0, Value.int .u8 0, Value.int .u8 0, Value.int .u8 0, Value.int .u8 0, Value.int .u8 0, Value.int .u8 0, Value.int .u8 0, Value.int .u8 0, Value.int .u8 0, Value.int .u8 0, Value.int .u8 0, Value.int .u8 0, Value.int .u8 0, Value.int .u8 0, Value.int .u8 0, Value.int .u8 0, Value.int .u8 0, Value.int .u8 0, Value.int .u8 0, Value.int .u8 0, Value.int .u8 0, Value.int .u8 0, Value.int .u8 0, Value.int .u8 0, Value.int .u8 0, Value.int .u8 0, Value.int .u8 0, Value.int .u8 0] cx.zipIdx 0 16) cy.zipIdx 0 16 = #[k] ++ cx ++ cy := by
 have e1 : ∀ (o : Nat) (init c : Array Value), c.size = 16 → Array.foldl (fun cs (x : Value × Nat) => cs.setIfInBounds (o + x.snd) x.fst) init c.zipIdx 0 16 = (c.toList.zipIdx 0).foldl (fun cs (x : Value × Nat) => cs.setIfInBounds (o + x.snd) x.fst) init := fun o init c hc => by
  have hs : c.zipIdx.size = 16 := by simp [hc]
  rw [← Array.toList_zipIdx, Array.foldl_toList, hs]
 rw [e1 _ _ _ hx, e1 _ _ _ hy]
 obtain ⟨s1, h1⟩ := fold_cells 1 cx.toList 0 #[k, Value.int .u8 0, Value.int .u8 0, Value.int .u8 0, Value.int .u8 0, Value.int .u8 0, Value.int .u8 0, Value.int .u8 0, Value.int .u8 0, Value.int .u8 0, Value.int .u8 0, Value.int .u8 0, Value.int .u8 0, Value.int .u8 0, Value.int .u8 0, Value.int .u8 0, Value.int .u8 0, Value.int .u8 0, Value.int .u8 0, Value.int .u8 0, Value.int .u8 0, Value.int .u8 0, Value.int .u8 0, Value.int .u8 0, Value.int .u8 0, Value.int .u8 0, Value.int .u8 0, Value.int .u8 0, Value.int .u8 0, Value.int .u8 0, Value.int .u8 0, Value.int .u8 0, Value.int .u8 0]
 generalize (cx.toList.zipIdx 0).foldl (fun cs (x : Value × Nat) => cs.setIfInBounds (1 + x.snd) x.fst) #[k, Value.int .u8 0, Value.int .u8 0, Value.int .u8 0, Value.int .u8 0, Value.int .u8 0, Value.int .u8 0, Value.int .u8 0, Value.int .u8 0, Value.int .u8 0, Value.int .u8 0, Value.int .u8 0, Value.int .u8 0, Value.int .u8 0, Value.int .u8 0, Value.int .u8 0, Value.int .u8 0, Value.int .u8 0, Value.int .u8 0, Value.int .u8 0, Value.int .u8 0, Value.int .u8 0, Value.int .u8 0, Value.int .u8 0, Value.int .u8 0, Value.int .u8 0, Value.int .u8 0, Value.int .u8 0, Value.int .u8 0, Value.int .u8 0, Value.int .u8 0, Value.int .u8 0, Value.int .u8 0] = F1 at *
 obtain ⟨s2, h2⟩ := fold_cells 17 cy.toList 0 F1
 generalize (cy.toList.zipIdx 0).foldl (fun cs (x : Value × Nat) => cs.setIfInBounds (17 + x.snd) x.fst) F1 = F2 at *
 have s33 : F1.size = 33 := s1
 apply Array.ext_getElem?
 intro j
 have hlx : cx.toList.length = 16 := by simpa using hx
 have hly : cy.toList.length = 16 := by simpa using hy
 rw [h2 j, h1 j, hlx, hly, s33, Array.getElem?_append, Array.getElem?_append]
 have hk : (#[k] : Array Value).size = 1 := rfl
 have hz : (#[k, Value.int .u8 0, Value.int .u8 0, Value.int .u8 0, Value.int .u8 0, Value.int .u8 0, Value.int .u8 0, Value.int .u8 0, Value.int .u8 0, Value.int .u8 0, Value.int .u8 0, Value.int .u8 0, Value.int .u8 0, Value.int .u8 0, Value.int .u8 0, Value.int .u8 0, Value.int .u8 0, Value.int .u8 0, Value.int .u8 0, Value.int .u8 0, Value.int .u8 0, Value.int .u8 0, Value.int .u8 0, Value.int .u8 0, Value.int .u8 0, Value.int .u8 0, Value.int .u8 0, Value.int .u8 0, Value.int .u8 0, Value.int .u8 0, Value.int .u8 0, Value.int .u8 0, Value.int .u8 0] : Array Value).size = 33 := rfl
 rw [Array.size_append, hx, hk, hz]
 simp only [Array.getElem?_toList]
 rcases Nat.lt_or_ge j 1 with h | h
 ·
  obtain rfl : j = 0 := by omega
  rfl
 ·
  rcases Nat.lt_or_ge j 17 with h' | h'
  ·
   rw [if_neg (by omega), if_pos (by omega), if_pos (by omega), if_neg (by omega)]
  ·
   rcases Nat.lt_or_ge j 33 with h3 | h3
   ·
    rw [if_pos (by omega), if_neg (by omega)]
   ·
    rw [if_neg (by omega), if_neg (by omega), if_neg (by omega), Array.getElem?_eq_none (by rw [hz]; omega), Array.getElem?_eq_none (by rw [hy]; omega)]
theorem build_size (k : Value) (cx : Array Value) (hx : cx.size = 16) : (Array.foldl (fun cs (x : Value × Nat) => cs.setIfInBounds (1 + x.snd) x.fst) #[k, Value.int .u8 0, Value.int .u8 0, Value.int .u8 0, Value.int .u8 0, Value.int .u8 0, Value.int .u8 0, Value.int .u8 0, Value.int .u8 0, Value.int .u8 0, Value.int .u8 0, Value.int .u8 0, Value.int .u8 0, Value.int .u8 0, Value.int .u8 0, Value.int .u8 0, Value.int .u8 0, Value.int .u8 0, Value.int .u8 0, Value.int .u8 0, Value.int .u8 0, Value.int .u8 0, Value.int .u8 0, Value.int .u8 0, Value.int .u8 0, Value.int .u8 0, Value.int .u8 0, Value.int .u8 0, Value.int .u8 0, Value.int .u8 0, Value.int .u8 0, Value.int .u8 0, Value.int .u8 0] cx.zipIdx 0 16).size = 33 := by
 have hs : cx.zipIdx.size = 16 := by simp [hx]
 have e : Array.foldl (fun cs (x : Value × Nat) => cs.setIfInBounds (1 + x.snd) x.fst) #[k, Value.int .u8 0, Value.int .u8 0, Value.int .u8 0, Value.int .u8 0, Value.int .u8 0, Value.int .u8 0, Value.int .u8 0, Value.int .u8 0, Value.int .u8 0, Value.int .u8 0, Value.int .u8 0, Value.int .u8 0, Value.int .u8 0, Value.int .u8 0, Value.int .u8 0, Value.int .u8 0, Value.int .u8 0, Value.int .u8 0, Value.int .u8 0, Value.int .u8 0, Value.int .u8 0, Value.int .u8 0, Value.int .u8 0, Value.int .u8 0, Value.int .u8 0, Value.int .u8 0, Value.int .u8 0, Value.int .u8 0, Value.int .u8 0, Value.int .u8 0, Value.int .u8 0, Value.int .u8 0] cx.zipIdx 0 16 = (cx.toList.zipIdx 0).foldl (fun cs (x : Value × Nat) => cs.setIfInBounds (1 + x.snd) x.fst) #[k, Value.int .u8 0, Value.int .u8 0, Value.int .u8 0, Value.int .u8 0, Value.int .u8 0, Value.int .u8 0, Value.int .u8 0, Value.int .u8 0, Value.int .u8 0, Value.int .u8 0, Value.int .u8 0, Value.int .u8 0, Value.int .u8 0, Value.int .u8 0, Value.int .u8 0, Value.int .u8 0, Value.int .u8 0, Value.int .u8 0, Value.int .u8 0, Value.int .u8 0, Value.int .u8 0, Value.int .u8 0, Value.int .u8 0, Value.int .u8 0, Value.int .u8 0, Value.int .u8 0, Value.int .u8 0, Value.int .u8 0, Value.int .u8 0, Value.int .u8 0, Value.int .u8 0, Value.int .u8 0] := by
  rw [← Array.toList_zipIdx, Array.foldl_toList, hs]
 rw [e, (fold_cells 1 cx.toList 0 _).1]
 rfl
theorem build_one (init c : Array Value) (hi : init.size = 33) (hc : c.size = 33) : Array.foldl (fun cs (x : Value × Nat) => cs.setIfInBounds x.snd x.fst) init c.zipIdx 0 33 = c := by
 have hs : c.zipIdx.size = 33 := by simp [hc]
 have e : Array.foldl (fun cs (x : Value × Nat) => cs.setIfInBounds x.snd x.fst) init c.zipIdx 0 33 = (c.toList.zipIdx 0).foldl (fun cs (x : Value × Nat) => cs.setIfInBounds (0 + x.2) x.1) init := by
  simp only [Nat.zero_add]
  rw [← Array.toList_zipIdx, Array.foldl_toList, hs]
 rw [e]
 have hl : c.toList.length = 33 := by rw [Array.length_toList, hc]
 apply Array.ext_getElem?
 intro j
 rw [(fold_cells 0 c.toList 0 init).2 j, hl, hi]
 by_cases h : j < 33
 ·
  rw [if_pos (by omega), Array.getElem?_toList]
  rfl
 ·
  rw [if_neg (by omega), Array.getElem?_eq_none (by omega), Array.getElem?_eq_none (by omega)]
end Go.Proofs.YthodpjcdmdbnoaaGreatDoor

/- block.Book's ask of a book with one row: the closure that parts a row's sides. -/
namespace Go.Proofs.YthodpjcdmdbnoaaGreatDoor
open Go Go.RowKit Pr

/-- a row's cells -/
def rowC (key : ByteArray) (I O : List Nat) : Array Value := #[Value.string key] ++ (byteCells I ++ byteCells O)
theorem rowC_size (key : ByteArray) (I O : List Nat) (hI : I.length = 16) (hO : O.length = 16) : (rowC key I O).size = 33 := by
 unfold rowC
 rw [Array.size_append, Array.size_append, size_byteCells, size_byteCells, hI, hO]
 rfl
theorem rowC_one (key : ByteArray) (I O : List Nat) : (rowC key I O).all (·.oneCell') = true := by
 unfold rowC
 rw [Array.all_append, Array.all_append, bytes_one, bytes_one]
 simp [Value.oneCell']
theorem rowC_key (key : ByteArray) (I O : List Nat) : (rowC key I O)[0]? = some (.string key) := by
 unfold rowC
 rw [Array.getElem?_append, if_pos (by show 0 < 1; omega)]
 rfl
theorem rowC_in (key : ByteArray) (I O : List Nat) (hI : I.length = 16) (j : Nat) (v : Value) (h : (byteCells I).toList[j]? = some v) : (rowC key I O)[1 + j]? = some v := by
 have hj : j < 16 := by
  have := (List.getElem?_eq_some_iff.1 h).1
  rw [Array.length_toList, size_byteCells, hI] at this
  exact this
 unfold rowC
 rw [Array.getElem?_append, if_neg (by show ¬ 1 + j < 1; omega), Array.getElem?_append, if_pos (by rw [size_byteCells, hI]; show 1 + j - 1 < 16; omega)]
 rw [← h, Array.getElem?_toList]
 congr 1
 show 1 + j - 1 = j
 omega
theorem rowC_out (key : ByteArray) (I O : List Nat) (hI : I.length = 16) (j : Nat) (v : Value) (h : (byteCells O).toList[j]? = some v) : (rowC key I O)[17 + j]? = some v := by
 unfold rowC
 rw [Array.getElem?_append, if_neg (by show ¬ 17 + j < 1; omega), Array.getElem?_append, if_neg (by rw [size_byteCells, hI]; show ¬ 17 + j - 1 < 16; omega)]
 rw [← h, Array.getElem?_toList]
 congr 1
 rw [size_byteCells, hI]
 show 17 + j - 1 - 16 = j
 omega
theorem Blk.rowIn {w : World} {g : Nat} {t : TypeId} {key : ByteArray} {I O : List Nat} (h : Blk w g t (rowC key I O)) (hI : I.length = 16) : Bs w g 1 I := h.range 1 _ (fun j v hv => rowC_in key I O hI j v hv)
theorem Blk.rowOut {w : World} {g : Nat} {t : TypeId} {key : ByteArray} {I O : List Nat} (h : Blk w g t (rowC key I O)) (hI : I.length = 16) : Bs w g 17 O := h.range 17 _ (fun j v hv => rowC_out key I O hI j v hv)

section
variable {P : Program} {ops : Array Oper} {Q : Exit → Act → World → Prop} {S : World → Prop} {L : Nat} {i : Nat} {o : Oper} {n : Sch} {a : Act} {w : World}
theorem s_load_bs (ho : ops[i]? = some o) (hw : Region.wanted o (yielded ops a.tmps) = true) (ty : TypeId) (x : Operand) (hop : o.op = .load ty x) (b k : Nat) (hx : a.eval x = .pointer (some ⟨b, k, none⟩)) (l : List Nat) (hS : S w) (hB : ∀ W, S W → Bs W b k l)
    (d : TypeDesc) (hu : P.underlying ty = some d) (hd : d.isRow = true) (hi : (P.info? ty).map (·.size) = some l.length)
    (h : wpS P ops Q S L n (a.put o.dst (.agg (byteCells l))) w) : wpS P ops Q S L (.q i n) a w :=
 s_q ho hw hS _ (fun W hW => by
  unfold execOp
  simp only [hop, hx, Sem.run_bind, run_loadAt_mid W b k ty (byteCells l).toList d (hB W hW) hu hd (by rw [hi]; simp [byteCells]), Result.andThen_ok]
  rfl) h
theorem op_store_all {K : Act → World → Prop} (ty : TypeId) (x y : Operand) (hop : o.op = .store ty x y) (g : Nat) (vs : Array Value) (hx : a.eval x = .pointer (some ⟨g, 0, none⟩)) (hy : a.eval y = .agg vs)
    (t : TypeId) (cs : Array Value) (hB : Blk w g t cs) (hi : (P.info? ty).map (·.size) = some vs.size) (hs : vs.size = cs.size) (h1 : vs.all (·.oneCell') = true)
    (h : ∀ w', Blk w' g t vs → Only g w w' → K (a.put o.dst undef) w') : o.wp P a w K Q := by
 refine wp_store_mid ty x y hop g 0 vs hx hy (hB.there 0 _ (by omega)) hi h1 (h _ ?_ (Only.setCells g _ _ _))
 have := Blk.setCells vs.toList 0 cs w hB
 have e : splice cs 0 vs.toList = vs := by
  apply Array.ext_getElem?
  intro j
  rw [splice_get]
  by_cases hj : j < vs.size
  ·
   rw [if_pos (by simp; omega), Nat.sub_zero, Array.getElem?_toList]
  ·
   rw [if_neg (by simp; omega), Array.getElem?_eq_none (by omega), Array.getElem?_eq_none (by omega)]
 rwa [e] at this
theorem results_cell22 {fn : Func} {p q : Tmp} {ty ty2 : TypeId} (h : fn.results = #[.cell p ty, .cell q ty2]) (tmps : Array Value) (w : World) (g g2 : Nat) (t t2 : TypeId) (cs cs2 : Array Value) (d d2 : TypeDesc)
    (hp : tmps.getD p undef = .pointer (some ⟨g, 0, none⟩)) (hg : Blk w g t cs)
    (hu : P.underlying ty = some d) (hd : (match d with | .struct _ | .array _ _ => true | _ => false) = true) (hi : (P.info? ty).map (·.size) = some cs.size)
    (hp2 : tmps.getD q undef = .pointer (some ⟨g2, 0, none⟩)) (hg2 : Blk w g2 t2 cs2)
    (hu2 : P.underlying ty2 = some d2) (hd2 : (match d2 with | .struct _ | .array _ _ => true | _ => false) = true) (hi2 : (P.info? ty2).map (·.size) = some cs2.size) :
    (results fn tmps).run P w = .ok (.tuple #[.agg cs, .agg cs2]) w := by
 have hp' : tmps[p]?.getD undef = .pointer (some ⟨g, 0, none⟩) := by simpa using hp
 have hp2' : tmps[q]?.getD undef = .pointer (some ⟨g2, 0, none⟩) := by simpa using hp2
 simp [results, h, hp', hp2', asAddr, run_loadVar_row w g t ty cs (0, 0) d hg hu hd hi, run_loadVar_row w g2 t2 ty2 cs2 (0, 0) d2 hg2 hu2 hd2 hi2]
end

set_option maxHeartbeats 4000000 in
set_option maxRecDepth 100000 in
theorem sides_any (key : ByteArray) (I O : List Nat) (hI : I.length = 16) (hO : O.length = 16) (back : Bool) (gb : Nat) (w : World) (hb : w.cell? ⟨gb, 0, none⟩ = some (.bool back)) :
    Calls Tryz.prog 102 #[.agg (rowC key I O), .pointer (some ⟨gb, 0, none⟩)] w fun e w' =>
     e = .returned (.tuple #[.agg (byteCells (if back then O else I)), .agg (byteCells (if back then I else O))]) ∧ Below w.heap.size w w' := by
 have hrs := rowC_size key I O hI hO
 have hro := rowC_one key I O
 have HIN := Lib.hid (fun W t (h : Blk W w.heap.size t (rowC key I O)) => h.rowIn hI)
 have HOUT := Lib.hid (fun W t (h : Blk W w.heap.size t (rowC key I O)) => h.rowOut hI)
 have hgl := block_lt_of_cell hb
 generalize rowC key I O = row at *
 obtain ⟨wa, hwa⟩ : ∃ x, w.alloc (.cells row 178) = x := ⟨_, rfl⟩
 have zwa : wa.heap.size = w.heap.size + 1 := by rw [← hwa]; simp
 have bwa : Blk wa w.heap.size 178 row := by have := Blk.new w 178 row; rw [hwa] at this; exact this
 have kwa : Below w.heap.size w wa := by rw [← hwa]; exact (Below.refl _ _).alloc (by omega) _
 obtain ⟨wb, hwb⟩ : ∃ x, wa.alloc (.cells (byteCells (List.replicate 16 0)) 113) = x := ⟨_, rfl⟩
 have zwb : wb.heap.size = w.heap.size + 1 + 1 := by rw [← hwb]; simp [zwa]
 have bwb : Blk wb (w.heap.size + 1) 113 (byteCells (List.replicate 16 0)) := by have := Blk.new wa 113 (byteCells (List.replicate 16 0)); rw [hwb, zwa] at this; exact this
 have kwb : Below w.heap.size w wb := by rw [← hwb]; exact kwa.alloc (by omega) _
 have bwab : Blk wb w.heap.size 178 row := by rw [← hwb]; exact bwa.alloc _
 obtain ⟨wc, hwc⟩ : ∃ x, wb.alloc (.cells (byteCells (List.replicate 16 0)) 113) = x := ⟨_, rfl⟩
 have zwc : wc.heap.size = w.heap.size + 1 + 1 + 1 := by rw [← hwc]; simp [zwb]
 have bwc : Blk wc (w.heap.size + 1 + 1) 113 (byteCells (List.replicate 16 0)) := by have := Blk.new wb 113 (byteCells (List.replicate 16 0)); rw [hwc, zwb] at this; exact this
 have kwc : Below w.heap.size w wc := by rw [← hwc]; exact kwb.alloc (by omega) _
 have bwac : Blk wc w.heap.size 178 row := by rw [← hwc]; exact bwab.alloc _
 have bwbc : Blk wc (w.heap.size + 1) 113 (byteCells (List.replicate 16 0)) := by rw [← hwc]; exact bwb.alloc _
 have hcb : wc.cell? ⟨gb, 0, none⟩ = some (.bool back) := (kwc.cell (p := ⟨gb, 0, none⟩) hgl).trans hb
 rw [show byteCells (List.replicate 16 0) = #[.int .u8 0, .int .u8 0, .int .u8 0, .int .u8 0, .int .u8 0, .int .u8 0, .int .u8 0, .int .u8 0, .int .u8 0, .int .u8 0, .int .u8 0, .int .u8 0, .int .u8 0, .int .u8 0, .int .u8 0, .int .u8 0] from rfl] at hwb hwc
 have hIs : (byteCells I).size = 16 := by rw [size_byteCells, hI]
 have hOs : (byteCells O).size = 16 := by rw [size_byteCells, hO]
 have hIo : (byteCells I).all (·.oneCell') = true := bytes_one _
 have hOo : (byteCells O).all (·.oneCell') = true := bytes_one _
 have hzs : (byteCells (List.replicate 16 0)).size = 16 := rfl
 clear bwb bwab bwa
 cases back
 ·
  go_enter Tryz.func102, Tryz.ntmps102
  go_wp2
  refine wp_region_last (.q 0 (.q 1 (.q 2 (.q 3 (.e [4] fun _ => .e [5] fun _ => .done))))) (fun V => Blk V w.heap.size 178 row) 5 rfl (by kernel_rfl) (fun _ _ d _ _ h => by cases d <;> exact h) ?_
  change wpS _ _ _ _ _ _ _ wc.drew
  have hS : Blk wc.drew w.heap.size 178 row := bwac
  have h3 : Blk wc.drew (w.heap.size + 1) 113 (byteCells (List.replicate 16 0)) := bwbc
  have h4 : Blk wc.drew (w.heap.size + 1 + 1) 113 (byteCells (List.replicate 16 0)) := bwc
  have hk := below_drewN kwc 1
  change Below w.heap.size w wc.drew at hk
  generalize wc.drew = wd at *
  refine s_q rfl rfl hS _ (fun V hV => by (go_simp; rfl)) ?_
  go_simp
  refine s_load_bs rfl rfl 113 (.tmp 10) rfl w.heap.size 1 rfl I hS (fun W hW => HIN.out W _ hW) _ Tryz.underlying113 rfl (by rw [info_16u8, hI]) ?_
  go_simp
  refine s_q rfl rfl hS _ (fun V hV => by (go_simp; rfl)) ?_
  go_simp
  refine s_load_bs rfl rfl 113 (.tmp 12) rfl w.heap.size 17 rfl O hS (fun W hW => HOUT.out W _ hW) _ Tryz.underlying113 rfl (by rw [info_16u8, hO]) ?_
  go_simp
  refine s_e rfl rfl fun K hK => ?_
  refine op_store_all 113 (.tmp 3) (.tmp 11) rfl (w.heap.size + 1) (byteCells I) rfl rfl 113 _ h3 (by rw [info_16u8, hIs]) (by rw [hIs]; rfl) hIo fun we h3e hoe => ?_
  have h4e := h4.only hoe (by omega)
  refine hK _ _ (fun _ => hS.only hoe (by omega)) ?_
  clear hK K
  refine s_e rfl rfl fun K hK => ?_
  refine op_store_all 113 (.tmp 4) (.tmp 13) rfl (w.heap.size + 1 + 1) (byteCells O) rfl rfl 113 _ h4e (by rw [info_16u8, hOs]) (by rw [hOs]; rfl) hOo fun wf h4f hof => ?_
  refine hK _ _ (fun h => absurd rfl h) ?_
  refine s_done ?_
  have h3f := h3e.only hof (by omega)
  have hkf := hof.below (hoe.below hk (by omega)) (by omega)
  clear hwa hwb hwc
  go_wp2_with (first
   | (refine bodyPost_ret (results_cell22 rfl _ _ (w.heap.size + 1) (w.heap.size + 1 + 1) 113 113 _ _ _ _ rfl h3f Tryz.underlying113 rfl (by rw [info_16u8, hIs]) rfl h4f Tryz.underlying113 rfl (by rw [info_16u8, hOs])) rfl ?_; exact ⟨rfl, hkf⟩))
 ·
  go_enter Tryz.func102, Tryz.ntmps102
  go_wp2
  refine wp_region_last (.q 0 (.q 1 (.q 2 (.q 3 (.e [4] fun _ => .e [5] fun _ => .done))))) (fun V => Blk V w.heap.size 178 row) 5 rfl (by kernel_rfl) (fun _ _ d _ _ h => by cases d <;> exact h) ?_
  change wpS _ _ _ _ _ _ _ wc.drew
  have hS : Blk wc.drew w.heap.size 178 row := bwac
  have h3 : Blk wc.drew (w.heap.size + 1) 113 (byteCells (List.replicate 16 0)) := bwbc
  have h4 : Blk wc.drew (w.heap.size + 1 + 1) 113 (byteCells (List.replicate 16 0)) := bwc
  have hk := below_drewN kwc 1
  change Below w.heap.size w wc.drew at hk
  generalize wc.drew = wd at *
  refine s_q rfl rfl hS _ (fun V hV => by (go_simp; rfl)) ?_
  go_simp
  refine s_load_bs rfl rfl 113 (.tmp 6) rfl w.heap.size 17 rfl O hS (fun W hW => HOUT.out W _ hW) _ Tryz.underlying113 rfl (by rw [info_16u8, hO]) ?_
  go_simp
  refine s_q rfl rfl hS _ (fun V hV => by (go_simp; rfl)) ?_
  go_simp
  refine s_load_bs rfl rfl 113 (.tmp 8) rfl w.heap.size 1 rfl I hS (fun W hW => HIN.out W _ hW) _ Tryz.underlying113 rfl (by rw [info_16u8, hI]) ?_
  go_simp
  refine s_e rfl rfl fun K hK => ?_
  refine op_store_all 113 (.tmp 3) (.tmp 7) rfl (w.heap.size + 1) (byteCells O) rfl rfl 113 _ h3 (by rw [info_16u8, hOs]) (by rw [hOs]; rfl) hOo fun we h3e hoe => ?_
  have h4e := h4.only hoe (by omega)
  refine hK _ _ (fun _ => hS.only hoe (by omega)) ?_
  clear hK K
  refine s_e rfl rfl fun K hK => ?_
  refine op_store_all 113 (.tmp 4) (.tmp 9) rfl (w.heap.size + 1 + 1) (byteCells I) rfl rfl 113 _ h4e (by rw [info_16u8, hIs]) (by rw [hIs]; rfl) hIo fun wf h4f hof => ?_
  refine hK _ _ (fun h => absurd rfl h) ?_
  refine s_done ?_
  have h3f := h3e.only hof (by omega)
  have hkf := hof.below (hoe.below hk (by omega)) (by omega)
  clear hwa hwb hwc
  go_wp2_with (first
   | (refine bodyPost_ret (results_cell22 rfl _ _ (w.heap.size + 1) (w.heap.size + 1 + 1) 113 113 _ _ _ _ rfl h3f Tryz.underlying113 rfl (by rw [info_16u8, hOs]) rfl h4f Tryz.underlying113 rfl (by rw [info_16u8, hIs])) rfl ?_; exact ⟨rfl, hkf⟩))
end Go.Proofs.YthodpjcdmdbnoaaGreatDoor
