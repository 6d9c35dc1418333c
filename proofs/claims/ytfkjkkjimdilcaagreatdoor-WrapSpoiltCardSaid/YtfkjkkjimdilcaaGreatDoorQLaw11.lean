/- The contract of lockboxref02.Same. lockboxlaw11.some, sample, awake. Heads compared. lockboxlaw11.awake. -/
import Derived.Test.YtfkjkkjimdilcaaGreatDoorQEqual
import Derived.Test.YtfkjkkjimdilcaaGreatDoorQWrapFG
import Derived.Test.YtfkjkkjimdilcaaGreatDoorQModeM
import Derived.Test.YtfkjkkjimdilcaaGreatDoorQHeadM
set_option maxHeartbeats 8000000
set_option maxRecDepth 100000
/- The contract of lockboxref02.Same. -/
namespace Go.Proofs.YtfkjkkjimdilcaaGreatDoor
open Go Go.RowKit Pr

theorem same_any (la lb : List Nat) (A B : Option Addr) (ca cb : Nat) (_ha : ∀ c ∈ la, c < 256) (_hb : ∀ c ∈ lb, c < 256) (hla : la.length ≤ 140737488351232) (w : World) (hA : At w A la) (hB : At w B lb) :
    Calls Tryz.prog 16 #[.slice A la.length ca, .slice B lb.length cb] w fun e w' => e = .returned (.bool (decide (la = lb))) ∧ ∃ n, w' = w.drewN n := by
 by_cases hne : la.length = lb.length
 ·
  obtain ⟨n, hn⟩ : ∃ n, la.length = n := ⟨_, rfl⟩; have hn2 : lb.length = n := by rw [← hne, hn]
  rw [hn] at hla ⊢; rw [hn2]; have t1 : ((n : Int) != (n : Int)) = false := by simp
  have HN := Hh hn; clear hn; have HN2 := Hh hn2; clear hn2 hne; have HA := Hh hA; clear hA; have HB := Hh hB; clear hB
  go_enter Tryz.func16, Tryz.ntmps16
  go_wp2
  go_loopw [5] (fun i wr => ∃ k : Nat, k ≤ n ∧ i = .int .i64 k ∧ Hid (la.take k = lb.take k) ∧ ∃ m, wr = w.drewN m) (fun i _ => n - (intOf i).toNat)
  case atStart => exact ⟨0, by omega, rfl, by show la.take 0 = lb.take 0; simp, 0, rfl⟩
  case round =>
   obtain ⟨k, hk, rfl, hrel, m, rfl⟩ := hrel
   by_cases hlt : k < n
   ·
    have hka : k < la.length := by rw [HN.out]; exact hlt
    have hkb : k < lb.length := by rw [HN2.out]; exact hlt
    obtain ⟨b1, o1, rfl, hB1⟩ := HA.out (by intro h; rw [h] at hka; cases hka); obtain ⟨b2, o2, rfl, hB2⟩ := HB.out (by intro h; rw [h] at hkb; cases hkb); have c1 : w.cell? ⟨b1, o1 + k, none⟩ = some (.int .u8 (la[k] : Nat)) := hB1.cell k hka; have c2 : w.cell? ⟨b2, o2 + k, none⟩ = some (.int .u8 (lb[k] : Nat)) := hB2.cell k hkb
    by_cases he : la[k] = lb[k]
    ·
     have hst : Hid (la.take (k + 1) = lb.take (k + 1)) := by
      show la.take (k + 1) = lb.take (k + 1)
      rw [List.take_succ_eq_append_getElem hka, List.take_succ_eq_append_getElem hkb, hrel.out, he]
     have t2 : ((la[k] : Int) != (lb[k] : Int)) = false := by rw [he]; simp
     clear he; generalize la[k] = x at *; generalize lb[k] = y at *; go_wp2
     go_quiet (fail)
     go_wp2
     go_roundw
     case rel => exact ⟨k + 1, by omega, by go_num, hst, _, rfl⟩
     case measure => simp [intOf]; omega
    ·
     have hd : decide (la = lb) = false := decide_eq_false (fun h => he (by subst h; rfl)); have HD := Hh hd; clear hd; have t2 : ((la[k] : Int) != (lb[k] : Int)) = true := by rw [bne_iff_ne]; omega
     clear he; generalize la[k] = x at *; generalize lb[k] = y at *; go_wp2
     go_quiet (fail)
     go_wp2
     go_ret
     exact ⟨by rw [HD.out]; rfl, _, World.drewN_drewN _ _ _⟩
   ·
    have hfin : decide (la = lb) = true := by
     have h1 : la.take k = la := List.take_of_length_le (by rw [HN.out]; omega); have h2 : lb.take k = lb := List.take_of_length_le (by rw [HN2.out]; omega); have := hrel.out; rw [h1, h2] at this; exact decide_eq_true this
    have HF := Hh hfin; clear hfin; go_wp2
    go_ret
    exact ⟨by rw [HF.out]; rfl, _, rfl⟩
 ·
  have t1 : ((la.length : Int) != (lb.length : Int)) = true := by rw [bne_iff_ne]; omega
  have hd : decide (la = lb) = false := decide_eq_false (fun h => hne (by rw [h])); have HD := Hh hd; clear hd
  go_enter Tryz.func16, Tryz.ntmps16
  go_wp2
  go_ret
  exact ⟨by rw [HD.out]; rfl, 0, rfl⟩

def someN (l : List Nat) (n : Nat) : List Nat := (List.range n).map fun i => if l.length = 0 then 0 else l.getD (i % l.length) 0
theorem someN_len (l : List Nat) (n : Nat) : (someN l n).length = n := by simp [someN]
theorem someN_succ (l : List Nat) (k : Nat) : someN l (k + 1) = someN l k ++ [if l.length = 0 then 0 else l.getD (k % l.length) 0] := by
 unfold someN
 rw [List.range_succ, List.map_append]
 rfl
theorem someN_byt {l : List Nat} (h : Byt l) (n : Nat) : Byt (someN l n) := fun c hc => by
 obtain ⟨i, _, rfl⟩ := List.mem_map.1 hc
 split
 ·
  omega
 ·
  exact h.at_ _

theorem some_any (l : List Nat) (L : Nat) (hl : l.length = L) (hL : L ≤ 1000) (gl : Byt l) (n : Nat) (hn : n ≤ 1000) (A : Option Addr) (c : Nat) (w : World) (hA : At w A l) :
    Calls Tryz.prog 12 #[.slice A L c, .int .i64 n] w fun e w' => (∃ v, e = .returned v ∧ Own w' w.heap.size v (someN l n)) ∧ Below w.heap.size w w' := by
 have hs := fun k => someN_succ l k; have hsl := fun k => someN_len l k; have h0 : someN l 0 = [] := rfl; rw [hl] at hs; have HX := Hh (fun k => gl.at_ k)
 have hcx : ∀ J, J < L → ∃ b o, A = some ⟨b, o, none⟩ ∧ ∀ W, Below w.heap.size w W → W.cell? ⟨b, o + J, none⟩ = some (.int .u8 (l.getD J 0 : Nat)) := fun J hJ => by
  obtain ⟨b, o, e, hB⟩ := hA (ne_nil hl (by omega)); refine ⟨b, o, e, fun W hW => ?_⟩; exact (hB.below hW (hB.lt (ne_nil hl (by omega)))).cellD J (by omega)
 generalize someN l = SN at *; have HS := Hh hs; have HSL := Hh hsl; have HH0 := Hh h0; have HCX := Hh hcx; clear hs hsl h0 hcx hA hl gl
 go_enter Tryz.func12, Tryz.ntmps12
 go_wp2
 go_loopw [5, 6] (fun v i wr => ∃ k : Nat, k ≤ n ∧ i = .int .i64 k ∧ OwnN 5 .u8 wr w.heap.size v (SN k) ∧ Below w.heap.size w wr) (fun _ i _ => n - (intOf i).toNat)
 case atStart => exact ⟨0, by omega, rfl, by rw [HH0.out]; exact OwnN.nil _ _ _ _, Below.refl _ _⟩
 case round =>
  obtain ⟨k, hk, rfl, hown, hbel⟩ := hrel; obtain ⟨A5, c5, rfl, hc5, hAt5⟩ := OwnN.form hown; rw [HSL.out k] at hown hc5 ⊢
  by_cases hlt : k < n
  ·
   have hss := hbel.size; have hownA : OwnN 5 .u8 (wr.alloc (.cells #[.int .u8 0] 5)) w.heap.size (.slice A5 k c5) (SN k) := OwnN.below hown ((Below.refl wr.heap.size wr).alloc lr _) lr; have hlen : (SN k).length + 1 ≤ 1000000000 := by rw [HSL.out]; omega
   have hst := HS.out k; clear hown hAt5
   by_cases hL0 : L = 0
   ·
    rw [if_pos hL0] at hst; have HST := Hh hst; clear hst; have hLI : ¬ ((0 : Int) < (L : Int)) := by omega
    clear hL0; go_wp2_with (at_builtin; go_loud (refine wpList_append_nums rfl (.tmp 12) (.tmp 13) 22 rfl .u8 5 1 Tryz.underlying22 info_byte w.heap.size w _ (SN k) rfl hownA (hbel.alloc hss _) (by rw [World.size_alloc]; omega) _ 1 1 [0] rfl rfl ⟨_, _, rfl, Ns.new .u8 wr 5 0⟩ hlen (by omega) ?_); intro v6 w6 hown6 hbel6 hsz6)
    rw [← HST.out] at hown6; exact ⟨⟨k + 1, by omega, by go_num, hown6, hbel6⟩, by simp [intOf]; omega⟩
   ·
    rw [if_neg hL0] at hst; obtain ⟨J, hJ⟩ : ∃ J, k % L = J := ⟨_, rfl⟩; have hJL : J < L := by rw [← hJ]; exact Nat.mod_lt _ (by omega)
    rw [hJ] at hst; obtain ⟨b, o, rfl, hcell⟩ := HCX.out J hJL; have hx := HX.out J; generalize l.getD J 0 = x at *; have HST := Hh hst; clear hst; have eJ : (k : Int) % (L : Int) = (J : Int) := by omega
    have hLI : (0 : Int) < (L : Int) := by omega
    have hJI : (J : Int) < (L : Int) := by omega
    have HCELL := Hh hcell; clear hcell hJ; go_wp2_with (at_builtin; go_loud (refine wpList_append_nums rfl (.tmp 12) (.tmp 13) 22 rfl .u8 5 1 Tryz.underlying22 info_byte w.heap.size w _ (SN k) rfl hownA (hbel.alloc hss _) (by rw [World.size_alloc]; omega) _ 1 1 [0] rfl rfl ⟨_, _, rfl, Ns.new .u8 wr 5 0⟩ hlen (by omega) ?_); intro v6 w6 hown6 hbel6 hsz6; have hl6 : (SN k ++ [0]).length = k + 1 := (by rw [List.length_append, HSL.out]; rfl); obtain ⟨g6, c6, rfl, hg6, hgl6, hB6⟩ := Own.addr (OwnN.bytes hown6) (ne_nil hl6 (by omega)); rw [hl6] at hown6 ⊢; have hck := hB6.cellD k (by rw [hl6]; omega); rw [Nat.zero_add] at hck; have hfk := Own.frz (OwnN.bytes hown6) hl6 k; have hcx := HCELL.out w6 hbel6; have hkk : k < k + 1 := Nat.lt_succ_self k; have hkI : (k : Int) < (k : Int) + 1 := (by omega))
    have hset := Own.set (OwnN.bytes hown6) k x
    have hst2 : (SN k ++ [0]).set k x = SN (k + 1) := by
     rw [HST.out, List.set_append_right _ _ (by rw [HSL.out]; exact Nat.le_refl _), HSL.out, Nat.sub_self]
     rfl
    rw [hst2] at hset; have hbs := hbel6.setCell (p := ⟨g6, k, none⟩) (by show w.heap.size ≤ g6; exact hg6) (.int .u8 (x : Int)); exact ⟨⟨k + 1, by omega, by go_num, hset, hbs⟩, by simp [intOf]; omega⟩
  ·
   obtain rfl : k = n := by omega
   go_wp2
   go_ret
   exact ⟨⟨_, rfl, OwnN.bytes hown⟩, hbel⟩

/-- a sample of a version -/
def hS (v : UInt8) : Hd := ⟨v, ⟨#[80, 48]⟩, 84, 69, ⟨#[48, 48]⟩, 69⟩
theorem sample_any (v : UInt8) (w : World) :
    Calls Tryz.prog 17 #[.int .u8 (v.toNat : Int)] w fun e w' => e = .returned (.agg (hS v).cells) ∧ Below w.heap.size w w' := by
 have hc : (hS v).cells = #[.int .u8 (v.toNat : Int), .string ⟨#[80, 48]⟩, .int .u8 84, .int .u8 69, .string ⟨#[48, 48]⟩, .int .u8 69] := rfl; rw [hc]; generalize v.toNat = u at *
 go_enter Tryz.func17, Tryz.ntmps17
 go_wp2
 refine bodyPost_ret (v := .agg #[.int .u8 (u : Int), .string ⟨#[80, 48]⟩, .int .u8 84, .int .u8 69, .string ⟨#[48, 48]⟩, .int .u8 69]) (results_cell_row rfl _ _ w.heap.size 24 _ (0,0) _ rfl (Blk.new w _ _) Tryz.underlying24 rfl (by rw [info_head]; rfl)) rfl ?_; exact ⟨rfl, (Below.refl _ _).alloc lr _⟩
theorem eqHead (h : Hd) (W : World) : (Op.equalIn 10000 24 (.agg h.cells) (.agg h.cells)).run Tryz.prog W = .ok true W := by
 unfold Hd.cells
 go_simp
 done

def y16 : List Nat := List.replicate 16 0
def y6 : List Nat := List.replicate 6 0
theorem wIn11 : WrapIn (hS 66) y16 y16 y6 where
 hr := by kernel_rfl
 hk := ⟨zero_byt 16, .inl ⟨rfl, .inl rfl⟩⟩
 gk := zero_byt 16
 gf := zero_byt 6
 hfits := by decide
 hfill := by decide
 hf0 := by decide
theorem s11_size : (str (wrapS (hS 66) y16 y16 y6)).size = 80 := by
 rw [str_size, wIn11.len.1]
 rfl
theorem s11_head : (str (wrapS (hS 66) y16 y16 y6)).extract 0 5 = ⟨#[66, 48, 48, 56, 48]⟩ := by
 rw [str_extract]
 have e : wrapS (hS 66) y16 y16 y6 = printL (hS 66) 80 ++ (hexL (encW (hS 66) y16 y16 y6) ++ hexL (codeW (hS 66) y16 y16 y6)) := by
  unfold wrapS
  rw [show lenW (kindV (hS 66).ver.toNat) (textW y16 y6).length = 80 from rfl, List.append_assoc]
 rw [e, List.drop_zero, List.take_append_of_le_length (by decide)]
 decide

section
variable {Q : Exit → Act → World → Prop} {o : Oper} {a : Act} {w : World}
/-- the operation alone: a new row of nothing -/
theorem op_make_bytes {K : Act → World → Prop} (x y : Operand) (ho : o.op = .makeSlice 22 x y) (kl kc : IntKind) (i j : Int) (n : Nat) (hi : i = n) (hj : j = n) (hx : a.eval x = .int kl i) (hy : a.eval y = .int kc j) (hn : n ≤ 140737488355328)
    (h : ∀ w', Below w.heap.size w w' → Blk w' w.heap.size 5 (byteCells (List.replicate n 0)) → w'.heap.size = w.heap.size + 1 → K (a.put o.dst (.slice (some ⟨w.heap.size, 0, none⟩) n n)) w') : o.wp Tryz.prog a w K Q := by
 have hrun : (execOp a.eval o).run Tryz.prog w = .ok (.value (.slice (some ⟨w.heap.size, 0, none⟩) n n)) (w.alloc (.cells (byteCells (List.replicate n 0)) 5)) := by
  unfold execOp
  simp only [ho, hx, hy, hi, hj, Sem.run_bind, run_make_bytes kl kc n hn w, Result.andThen_ok]
  simp
 unfold Oper.wp
 rw [hrun]; exact h _ ((Below.refl _ _).alloc lr _) (Blk.new w _ _) (by simp)
/-- two rows of six asked whether they are alike -/
theorem wpList_eql_row {P : Program} {ops : Array Oper} {rest : List Oper} (hw : Region.wanted o (yielded ops a.tmps) = true) (ty rt : TypeId) (x y : Operand) (ho : o.op = .binOp .eql ty x y rt) (cs : Array Value) (b : Bool) (hx : a.eval x = .agg cs) (hy : a.eval y = .agg cs)
    (heq : (Op.equalIn 10000 ty (.agg cs) (.agg cs)).run P w = .ok b w) (hg : (eqGuard .eql ty x y (.agg cs) (.agg cs)).run P w = .ok () w) (h : wpList P ops Q rest (a.put o.dst (.bool b)) w) : wpList P ops Q (o :: rest) a w :=
 wpList_wanted hw fun _ hK => by
  have hrun : (execOp a.eval o).run P w = .ok (.value (.bool b)) w := by
   unfold execOp
   simp only [ho, hx, hy, Sem.run_bind, run_eql_struct, hg, heq, Result.andThen_ok]
   simp
  unfold Oper.wp
  rw [hrun]; exact hK _ _ h
end
theorem awake11_any (w : World) (hG : EtOk w) (hT : ∀ W, Below w.heap.size w W → TabOk W) :
    Calls Tryz.prog 10 #[] w fun e w' => e = .returned (.bool true) ∧ Below w.heap.size w w' := by
 have hin := wIn11; have HSA := Hh (fun W => sample_any 66 W); have hws := fun A0 A1 A2 c0 c1 c2 W h0 h1 h2 hTW => wrap_ok (hS 66) hin.hr y16 16 hin.hk rfl y16 y6 16 6 rfl rfl hin.gk hin.gf hin.hfits hin.hfill (by omega) A0 A1 A2 c0 c1 c2 W h0 h1 h2 hTW; have HWR := Hh hws; clear hws; have HUN := Hh (fun A0 c0 W h0 hGW => back11 (hS 66) y16 y16 y6 hin 16 rfl A0 c0 W h0 hGW); have HFL := Hh (fun W => fill_any (hS 66) 16 (by omega) W); rw [show fillW (hS 66).ver.toNat 16 = 6 by decide] at HFL; have hs80 := s11_size; have hs5 := s11_head; have HSM := Hh (fun A B ca cb W hA hB => same_any y16 y16 A B ca cb (zero_byt 16) (zero_byt 16) (by decide) W hA hB); rw [show y16.length = 16 from rfl, show decide (y16 = y16) = true from decide_eq_true rfl] at HSM; have heq := fun W => eqHead (hS 66) W; have hcs6 : (hS 66).cells.size = 6 := rfl; have hco : (hS 66).cells.all (·.oneCell') = true := by simp [Hd.cells, Value.oneCell']
 generalize str (wrapS (hS 66) y16 y16 y6) = S at *; generalize (hS 66).cells = cs at *; have hs5T : ((S.extract 0 5).toList == [66, 48, 48, 56, 48]) = true := by rw [hs5]; simp
 clear hs5; have HEQ := Hh heq; clear heq; have HS6 := Hh hcs6; clear hcs6; have HCO := Hh hco; clear hco hin; have hs80I : ((S.size : Int) == 80) = true := by rw [beq_iff_eq]; omega
 have hS80 : 5 ≤ S.size := by omega
 have hs5I : (5 : Int) ≤ (S.size : Int) := by omega
 clear hs80; have hy16 : y16.length = 16 := rfl; have HT := Hh hT; clear hT
 go_enter Tryz.func10, Tryz.ntmps10
 go_wp2_with fail
 refine (HSA.out _).mono ?_; rintro e w1 ⟨rfl, hb1⟩
 go_wp2_with (first
  | (refine wpList_store_all rfl 24 (.tmp 1) (.tmp 8) rfl w1.heap.size cs rfl rfl 24 #[.int .u8 0, .string ⟨#[]⟩, .int .u8 0, .int .u8 0, .string ⟨#[]⟩, .int .u8 0] (Blk.new w1 _ _) (by rw [info_head, HS6.out]) (by rw [HS6.out]; rfl) HCO.out ?_; intro w2 hH2 hO2)
  | (refine wpList_make_bytes rfl _ _ rfl .i64 .i64 16 16 16 rfl rfl rfl rfl (by omega) ?_; intro w3 hb3 hK3 hs3))
 have hK3' : Blk w3 w2.heap.size 5 (byteCells y16) := hK3; have hH3 := hH2.below hb3 hH2.lt; have hbel2 := hO2.below (hb1.alloc hb1.size (.cells #[.int .u8 0, .string ⟨#[]⟩, .int .u8 0, .int .u8 0, .string ⟨#[]⟩, .int .u8 0] 24)) hb1.size; have hbel3 := hbel2.trans (hb3.mono hbel2.size); have hA3 : At w3 (some ⟨w2.heap.size, 0, none⟩) y16 := fun _ => ⟨_, _, rfl, Bs.ofBlk hK3'⟩; have hss3 := hH3.lt; clear hK3 hK3' hH2 hO2 hb3 hb1 hbel2; refine wp_region_tree (.q 0 (.q 1 (.q 2 (.e [3] fun _ => .e [4] fun _ => .q 5 (.q 6 (.q 7 (.q 8 (.q 9 (.done))))))))) (fun W => Blk W w1.heap.size 24 cs ∧ At W (some ⟨w2.heap.size, 0, none⟩) y16) rfl (by kernel_rfl) (fun _ _ d _ _ h => by cases d <;> exact h) ?_; have hS : Blk w3.drew w1.heap.size 24 cs ∧ At w3.drew (some ⟨w2.heap.size, 0, none⟩) y16 := ⟨hH3, hA3⟩; have hbd : Below w.heap.size w w3.drew := below_drewN hbel3 1
 change wpT _ _ _ _ _ _ w3.drew
 clear hH3 hA3 hbel3 hss3; generalize w3.drew = w4 at *; refine t_q rfl rfl hS _ (fun W hW => by (go_simp; rfl)) ?_; go_simp
 refine t_load_row rfl rfl 24 (.tmp 1) rfl w1.heap.size rfl 24 cs hS (fun W hW => hW.1) _ Tryz.underlying24 rfl (by rw [info_head, HS6.out]) ?_; go_simp
 refine t_q rfl rfl hS _ (fun W hW => by (go_simp; rfl)) ?_; go_simp
 refine t_e rfl rfl fun K hK => ?_; refine op_make_bytes _ _ rfl .i64 .i64 6 6 6 rfl rfl rfl rfl (by omega) fun w5 hb5 hB5 hs5 => ?_; have hA5 : At w5 (some ⟨w4.heap.size, 0, none⟩) y6 := fun _ => ⟨_, _, rfl, Bs.ofBlk hB5⟩; have hS5 : Blk w5 w1.heap.size 24 cs ∧ At w5 (some ⟨w2.heap.size, 0, none⟩) y16 := ⟨hS.1.below hb5 hS.1.lt, hS.2.below hb5 lr⟩; have hbd5 : Below w.heap.size w w5 := hbd.trans (hb5.mono hbd.size); refine hK _ _ hS5 ?_; clear hK K hb5 hB5 hs5 hS hbd; refine t_e rfl rfl fun K hK => ?_; go_simp
 refine (HWR.out _ _ _ _ _ _ w5 hS5.2 hS5.2 hA5 (fun W hW => HT.out W (hbd5.trans (hW.mono hbd5.size)))).mono ?_; rintro e w6 ⟨rfl, hb6⟩; have hS6 : Blk w6 w1.heap.size 24 cs ∧ At w6 (some ⟨w2.heap.size, 0, none⟩) y16 := ⟨hS5.1.below hb6 hS5.1.lt, hS5.2.below hb6 lr⟩; have hbd6 : Below w.heap.size w w6 := hbd5.trans (hb6.mono hbd5.size); refine hK _ _ hS6 ?_; clear hK K hb6 hA5 hS5 hbd5; go_simp
 iterate 5 (refine t_q rfl rfl hS6 _ (fun W hW => by (go_simp; rfl)) ?_; go_simp)
 refine t_done ?_; have hG6 := hG.below hbd6 lr; go_wp2_with fail
 refine (HUN.out _ _ _ hS6.2 hG6).mono ?_; rintro e w7 ⟨⟨v, rfl, hv⟩, hb7⟩; obtain ⟨g7, c7, rfl, hA7, hcap7, hg7⟩ := hv.at_ hy16 (by omega); have hS7 : Blk w7 w1.heap.size 24 cs ∧ At w7 (some ⟨w2.heap.size, 0, none⟩) y16 := ⟨hS6.1.below hb7 hS6.1.lt, hS6.2.below hb7 lr⟩; have hbd7 : Below w.heap.size w w7 := hbd6.trans (hb7.mono hbd6.size); clear hv hcap7 hg7 hb7 hbd6 hS6 hG6; have hbn := (Below.refl w7.heap.size w7).alloc lr (.cells #[.int .u8 0, .string ⟨#[]⟩, .int .u8 0, .int .u8 0, .string ⟨#[]⟩, .int .u8 0] 24)
 go_wp2_with (first
  | (refine wpList_store_all rfl 24 (.tmp 5) (.tmp 22) rfl w7.heap.size cs rfl rfl 24 #[.int .u8 0, .string ⟨#[]⟩, .int .u8 0, .int .u8 0, .string ⟨#[]⟩, .int .u8 0] (Blk.new w7 _ _) (by rw [info_head, HS6.out]) (by rw [HS6.out]; rfl) HCO.out ?_; intro w8 hH8 hO8; have hb8 := hO8.below hbn lr; have hH18 := hS7.1.below hb8 hS7.1.lt; have hKK8 := hS7.2.below hb8 lr; have hXX8 := hA7.below hb8 lr; have hbd8 : Below w.heap.size w w8 := hbd7.trans (hb8.mono hbd7.size))
  | (refine wpList_load_rowG rfl 24 (.tmp 1) rfl w1.heap.size rfl 24 cs hH18 _ Tryz.underlying24 rfl (by rw [info_head, HS6.out]) ?_))
 have hHH8 : Blk w8 w7.heap.size 24 cs := hH8; clear hH8 hO8 hb8 hS7 hA7 hbd7; refine (HFL.out _).mono ?_; rintro e w9 ⟨rfl, hb9⟩; have hH19 := hH18.below hb9 hH18.lt; have hH59 := hHH8.below hb9 hHH8.lt; have hK9 := hKK8.below hb9 lr; have hX9 := hXX8.below hb9 lr; have hbd9 : Below w.heap.size w w9 := hbd8.trans (hb9.mono hbd8.size); clear hb9 hH18 hHH8 hKK8 hXX8 hbd8
 go_wp2_with (first
  | (refine wpList_load_rowG rfl 24 (.tmp 1) rfl w1.heap.size rfl 24 cs hH19 _ Tryz.underlying24 rfl (by rw [info_head, HS6.out]) ?_)
  | (refine wpList_load_rowG rfl 24 (.tmp 5) rfl w7.heap.size rfl 24 cs hH59 _ Tryz.underlying24 rfl (by rw [info_head, HS6.out]) ?_)
  | (refine wpList_eql_row rfl 24 24 (.tmp 47) (.tmp 48) rfl cs true rfl rfl (HEQ.out w9) (by unfold eqGuard; go_simp; done) ?_))
 refine (HSM.out _ _ _ _ _ hX9 hK9).mono ?_; rintro e wA ⟨rfl, nA, rfl⟩; have hbdA : Below w.heap.size w (w9.drewN nA) := below_drewN hbd9 nA; go_wp2
 go_ret
 exact ⟨rfl, hbdA⟩
end Go.Proofs.YtfkjkkjimdilcaaGreatDoor
