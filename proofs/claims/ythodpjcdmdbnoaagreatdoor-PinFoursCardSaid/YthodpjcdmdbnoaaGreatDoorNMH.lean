/- The contracts of mode.Chained's closure, mode.each as Chained calls it, mode.Chained. The contracts of mac.doubled, mac.Pad. The contracts of mode.Chained's closure, deciphering; mode.each as Chained calls it; mode.Chained. The contract of mode.Chained. A row of bytes of one's own: read and written cell by cell. The contract of mac.Pad. The contracts of mac.chain, mac.Cmac. head.one, head.letters, head.wrong, head.number, and the reference's in, pair. head.number, head.ahead, head.Right; lockboxref10.in, pair, Wrong. head.Right, head.ahead, head.Fits, lockboxref10.Wrong. head.ahead, head.Fits; how a length is printed. head.Print. head.Print of whatever head and length. head.Parse. head.Parse of whatever text; lockboxref10.Parse. Bytes read as a text. lockboxref10.Print. The table of powers of ten stays. The contracts of wrap.kindOf, sizeOf, sort, fits, Fill. The contracts of wrap.Fill, made, Keys, ciphers. The contract of wrap.ciphers. Bytes made of a string, and appended to: 'append([]byte(s), x...)'. Loads of whole rows by an operation that is guarded. The contract of wrap.Wrap, where all is right. The contract of wrap.opened. The contract of wrap.Unwrap, where all is right. A head that is printed is read as it was; what is read is printed as it stood. The plain law: what was wrapped is unwrapped as it was. The contract of lockboxref02.Same. lockboxlaw11.some, sample, awake. Heads compared. lockboxlaw11.awake. -/
import Derived.Test.YthodpjcdmdbnoaaGreatDoorNR3
import Derived.Test.YthodpjcdmdbnoaaGreatDoorNPB
import Derived.Test.YthodpjcdmdbnoaaGreatDoorNEC
import Derived.Test.YthodpjcdmdbnoaaGreatDoorNAs
import Derived.Test.YthodpjcdmdbnoaaGreatDoorNPureAll
import Derived.Lib.ItoaNum
import Derived.Lib.AppendIntMem
import Derived.Laws.Runes
import Derived.Laws.IdiomStrings
import Derived.ArgAppend
import Derived.Deep.MidRow
import Derived.Test.YthodpjcdmdbnoaaGreatDoorNKit
/- The contracts of mode.Chained's closure, mode.each as Chained calls it, mode.Chained. The contracts of mac.doubled, mac.Pad. The contracts of mode.Chained's closure, deciphering; mode.each as Chained calls it; mode.Chained. The contract of mode.Chained. A row of bytes of one's own: read and written cell by cell. The contract of mac.Pad. The contracts of mac.chain, mac.Cmac. -/
/- The contracts of mode.Chained's closure, mode.each as Chained calls it, mode.Chained. -/
namespace Go.Proofs.YthodpjcdmdbnoaaGreatDoor
open Go Go.RowKit Pr

/-- a cipher whose blocks lie below B -/
def CipherB (w : World) (B g kind : Nat) (key : List Nat) (bk : Value) : Prop :=
 g < B ∧ ∃ gk cp, Blk w g 62 #[.int .i64 kind, .slice (some ⟨gk, 0, none⟩) key.length cp, bk] ∧ key.length ≤ cp ∧ Bs w gk 0 key ∧ gk < B ∧ gk < w.heap.size
theorem CipherB.at_ {w : World} {B g kind : Nat} {key : List Nat} {bk : Value} (h : CipherB w B g kind key bk) : CipherAt w g kind key bk := by
 obtain ⟨_, gk, cp, hB, hc, hK, _, hk⟩ := h
 exact ⟨gk, cp, hB, hc, hK, hk⟩
theorem CipherB.keep {w w' : World} {B g kind x : Nat} {key : List Nat} {bk : Value} (h : CipherB w B g kind key bk) (hk : Keep x w w') (hx : B ≤ x) : CipherB w' B g kind key bk := by
 obtain ⟨hg, gk, cp, hB, hc, hK, hkB, hl⟩ := h
 exact ⟨hg, gk, cp, hB.keep hk (by omega), hc, hK.keep hk (by omega), hkB, Nat.lt_of_lt_of_le hl hk.size⟩
theorem CipherB.below {w w' : World} {B C g kind : Nat} {key : List Nat} {bk : Value} (h : CipherB w B g kind key bk) (hb : Below C w w') (hC : B ≤ C) : CipherB w' B g kind key bk := by
 obtain ⟨hg, gk, cp, hB, hc, hK, hkB, hl⟩ := h
 exact ⟨hg, gk, cp, hB.below hb (by omega), hc, hK.below hb (by omega), hkB, Nat.lt_of_lt_of_le hl hb.size⟩
theorem CipherB.grown {w w' : World} {B g kind : Nat} {key : List Nat} {bk : Value} {row : Option Nat} (h : CipherB w B g kind key bk) (hg : w.grownBy w' row) (hr : ∀ r, row = some r → B ≤ r) : CipherB w' B g kind key bk := by
 obtain ⟨hgB, gk, cp, hB, hc, hK, hkB, hl⟩ := h
 have hs := hg.size
 refine ⟨hgB, gk, cp, (hg.block g hB.lt (fun e => by have := hr g e.symm; omega)).trans hB, hc, fun j v hv => ?_, hkB, by omega⟩
 exact (World.cell?_of_block (a := ⟨gk, 0 + j, none⟩) (hg.block gk hl (fun e => by have := hr gk e.symm; omega))).trans (hK j v hv)
theorem ne_nil {l : List Nat} {n : Nat} (h : l.length = n) (hn : 0 < n) : l ≠ [] := fun e => by rw [e] at h; simp at h; omega
/-- what the closure has in hand -/
structure ChIn (W : World) (B gb gc gl g kind : Nat) (key : List Nat) (bk : Value) (back : Bool) (bl ol cl : Nat) (last : List Nat) : Prop where
 hgb : gb < B
 hgc : gc < B
 hgl : B ≤ gl
 fb : Blk W gb 4 #[.bool back]
 fc : Blk W gc 31 #[.pointer (some ⟨g, 0, none⟩)]
 fl : Blk W gl 22 #[.slice (some ⟨bl, ol, none⟩) (sizeN kind) cl]
 hbl : bl < W.heap.size
 fs : Bs W bl ol last
 fC : CipherB W B g kind key bk
theorem ChIn.keep {W W' : World} {B gb gc gl g kind : Nat} {key : List Nat} {bk : Value} {back : Bool} {bl ol cl bl' ol' cl' : Nat} {last last' : List Nat} (h : ChIn W B gb gc gl g kind key bk back bl ol cl last) (hk : Keep gl W W')
    (fl : Blk W' gl 22 #[.slice (some ⟨bl', ol', none⟩) (sizeN kind) cl']) (hbl : bl' < W'.heap.size) (fs : Bs W' bl' ol' last') : ChIn W' B gb gc gl g kind key bk back bl' ol' cl' last' :=
 ⟨h.hgb, h.hgc, h.hgl, h.fb.keep hk (by have := h.hgb; have := h.hgl; omega), h.fc.keep hk (by have := h.hgc; have := h.hgl; omega), fl, hbl, fs, h.fC.keep hk h.hgl⟩

end Go.Proofs.YthodpjcdmdbnoaaGreatDoor

/- The contracts of mac.doubled, mac.Pad. -/
namespace Go.Proofs.YthodpjcdmdbnoaaGreatDoor
open Go Go.RowKit Pr

end Go.Proofs.YthodpjcdmdbnoaaGreatDoor

/- The contracts of mode.Chained's closure, deciphering; mode.each as Chained calls it; mode.Chained. -/
namespace Go.Proofs.YthodpjcdmdbnoaaGreatDoor
open Go Go.RowKit Pr

theorem Keep.grown {gl : Nat} {a w w' : World} {row : Option Nat} (h : Keep gl a w) (hg : w.grownBy w' row) (hr : ∀ k, row = some k → a.heap.size ≤ k) : Keep gl a w' :=
 ⟨hg.os.trans h.os, hg.tape.trans h.tape, hg.output.trans h.output, Nat.le_trans h.size hg.size, fun k hk hne => (hg.block k (Nat.lt_of_lt_of_le hk h.size) (fun e => by have := hr k e.symm; omega)).trans (h.block k hk hne)⟩
theorem ChIn.grown {W W' : World} {B gb gc gl g kind : Nat} {key : List Nat} {bk : Value} {back : Bool} {bl ol cl : Nat} {last : List Nat} {row : Option Nat} (h : ChIn W B gb gc gl g kind key bk back bl ol cl last) (hg : W.grownBy W' row) (hr : ∀ r, row = some r → gl < r ∧ r ≠ bl) : ChIn W' B gb gc gl g kind key bk back bl ol cl last := by
 have hb := h.hgb
 have hc := h.hgc
 have hl := h.hgl
 have ne : ∀ i, i ≤ gl → some i ≠ row := fun i hi e => by have := hr i e.symm; omega
 refine ⟨hb, hc, hl, (hg.block gb h.fb.lt (ne _ (by omega))).trans h.fb, (hg.block gc h.fc.lt (ne _ (by omega))).trans h.fc, (hg.block gl h.fl.lt (ne _ (by omega))).trans h.fl, Nat.lt_of_lt_of_le h.hbl hg.size, fun j v hv => ?_, h.fC.grown hg (fun r e => by have := hr r e; omega)⟩
 exact (World.cell?_of_block (a := ⟨bl, ol + j, none⟩) (hg.block bl h.hbl (fun e => (hr bl e.symm).2 rfl))).trans (h.fs j v hv)
section
variable {P : Program} {ops : Array Oper} {rest : List Oper} {op : Oper} {a : Act} {w : World} {Q : Exit → Act → World → Prop}
end

end Go.Proofs.YthodpjcdmdbnoaaGreatDoor

/- The contract of mode.Chained. -/
namespace Go.Proofs.YthodpjcdmdbnoaaGreatDoor
open Go Go.RowKit Pr

theorem CipherB.mono {w : World} {B B' g kind : Nat} {key : List Nat} {bk : Value} (h : CipherB w B g kind key bk) (hB : B ≤ B') : CipherB w B' g kind key bk := by
 obtain ⟨hg, gk, cp, h1, hc, hK, hkB, hl⟩ := h
 exact ⟨by omega, gk, cp, h1, hc, hK, by omega, hl⟩
end Go.Proofs.YthodpjcdmdbnoaaGreatDoor

/- A row of bytes of one's own: read and written cell by cell. -/
namespace Go.Proofs.YthodpjcdmdbnoaaGreatDoor
open Go Go.RowKit Pr

theorem Own.set {w : World} {B g n cap : Nat} {l : List Nat} (h : Own w B (.slice (some ⟨g, 0, none⟩) n cap) l) (k c : Nat) : Own (w.setCell ⟨g, k, none⟩ (.int .u8 (c : Int))) B (.slice (some ⟨g, 0, none⟩) n cap) (l.set k c) := by
 rcases h with ⟨h1, h2⟩
 unfold Own
 rw [List.length_set]
 refine ⟨by simp [byteCells], ?_⟩
 rcases h2 with ⟨h2, _⟩ | ⟨g', cap', cur, hv, hg, hb, hn, hm, hs, ht⟩
 ·
  cases h2
 ·
  injection hv with e1 e2 e3
  injection e1 with e1
  injection e1 with e1
  subst e1; subst e3
  refine .inr ⟨g, cap, cur.setIfInBounds k (.int .u8 (c : Int)), by rw [e2], hg, Blk.set_ hb k _, hn, hm, by simpa using hs, ?_⟩
  rw [Array.toList_setIfInBounds, List.take_set, ht]
  simp [byteCells]
theorem Own.shape {w : World} {B : Nat} {v : Value} {l : List Nat} (h : Own w B v l) : ∃ A cap, v = .slice A l.length cap ∧ (l = [] ∨ ∃ g, A = some ⟨g, 0, none⟩ ∧ B ≤ g ∧ g < w.heap.size) := by
 by_cases hl : l = []
 ·
  obtain ⟨A, cap, rfl, -, -⟩ := OwnN.form (e := 5) (kd := .u8) h
  exact ⟨A, cap, rfl, .inl hl⟩
 ·
  obtain ⟨g, cap, rfl, hg, _, hlt, _⟩ := h.form hl
  exact ⟨_, cap, rfl, .inr ⟨g, rfl, hg, hlt⟩⟩
theorem Own.only {g B : Nat} {w w' : World} {v : Value} {l : List Nat} (h : Own w B v l) (ho : Only g w w') (hne : v.ownBlock ≠ some g) : Own w' B v l := by
 rcases h with ⟨h1, h2⟩
 refine ⟨h1, ?_⟩
 rcases h2 with h2 | ⟨g', cap, cur, rfl, hg, hgb, r⟩
 ·
  exact .inl h2
 ·
  exact .inr ⟨g', cap, cur, rfl, hg, (ho.block g' (fun e => hne (by rw [e]; rfl))).trans hgb, r⟩
end Go.Proofs.YthodpjcdmdbnoaaGreatDoor

/- The contract of mac.Pad. -/
namespace Go.Proofs.YthodpjcdmdbnoaaGreatDoor
open Go Go.RowKit Pr

end Go.Proofs.YthodpjcdmdbnoaaGreatDoor

/- The contracts of mac.chain, mac.Cmac. -/
namespace Go.Proofs.YthodpjcdmdbnoaaGreatDoor
open Go Go.RowKit Pr

end Go.Proofs.YthodpjcdmdbnoaaGreatDoor

/- head.one, head.letters, head.wrong, head.number, and the reference's in, pair. head.number, head.ahead, head.Right; lockboxref10.in, pair, Wrong. head.Right, head.ahead, head.Fits, lockboxref10.Wrong. head.ahead, head.Fits; how a length is printed. -/
/- head.one, head.letters, head.wrong, head.number, and the reference's in, pair. -/
namespace Go.Proofs.YthodpjcdmdbnoaaGreatDoor
open Go Go.RowKit Pr
namespace Pr
def isLet (c : UInt8) : Bool := decide (65 ≤ c.toNat ∧ c.toNat ≤ 90) || decide (48 ≤ c.toNat ∧ c.toNat ≤ 57)
def letB (l : List UInt8) : Bool := decide (l.length = 2) && l.all isLet
end Pr

end Go.Proofs.YthodpjcdmdbnoaaGreatDoor

/- head.number, head.ahead, head.Right; lockboxref10.in, pair, Wrong. -/
namespace Go.Proofs.YthodpjcdmdbnoaaGreatDoor
open Go Go.RowKit Pr
namespace Pr
theorem isIn_mem (l : List UInt8) (c : UInt8) : isIn l c = decide (c ∈ l) := by
 unfold isIn
 rw [Bool.eq_iff_iff, decide_eq_true_eq, decide_eq_true_eq]
 induction l with
 | nil => simp [Lib.indexByte]
 | cons b l ih =>
  have hge := Lib.indexByte_ge l c
  rw [Lib.indexByte]
  by_cases h : b = c
  ·
   subst h; simp
  ·
   have h1 : (b == c) = false := beq_eq_false_iff_ne.2 h
   rw [h1]
   simp only [List.mem_cons, Bool.false_eq_true, if_false]
   by_cases h2 : Lib.indexByte l c = -1
   ·
    rw [h2]
    simp only [beq_self_eq_true, if_true]
    constructor
    ·
     intro h'; omega
    ·
     rintro (h' | h')
     ·
      exact absurd h'.symm h
     ·
      have := ih.2 h'; omega
   ·
    have h3 : (Lib.indexByte l c == -1) = false := beq_eq_false_iff_ne.2 h2
    rw [h3]
    simp only [Bool.false_eq_true, if_false]
    constructor
    ·
     intro _; exact .inr (ih.1 (by omega))
    ·
     intro _; omega
end Pr

end Go.Proofs.YthodpjcdmdbnoaaGreatDoor

/- head.Right, head.ahead, head.Fits, lockboxref10.Wrong. -/
namespace Go.Proofs.YthodpjcdmdbnoaaGreatDoor
open Go Go.RowKit Pr
namespace Pr
/-- a head's fields -/
structure Hd where
 ver : UInt8
 usage : ByteArray
 alg : UInt8
 mode : UInt8
 serial : ByteArray
 exp : UInt8
def Hd.cells (h : Hd) : Array Value := #[.int .u8 (h.ver.toNat : Int), .string h.usage, .int .u8 (h.alg.toNat : Int), .int .u8 (h.mode.toNat : Int), .string h.serial, .int .u8 (h.exp.toNat : Int)]
def sBD : ByteArray := ⟨#[66, 68]⟩
def sTA : ByteArray := ⟨#[84, 65]⟩
def sMO : ByteArray := ⟨#[66, 67, 68, 69, 71, 78, 83, 84, 86, 88, 89]⟩
def sEX : ByteArray := ⟨#[69, 78, 83]⟩
/-- the place of the first field that is wrong -/
def rE (b0 b1 b2 b3 b4 b5 : Bool) : Er := if b0 then (if b1 then (if b2 then (if b3 then (if b4 then (if b5 then .ok else .fa 11 6) else .fa 9 6) else .fa 8 6) else .fa 7 6) else .fa 5 6) else .fa 0 6
def rightEr (h : Hd) : Er := rE (isIn sBD.data.toList h.ver) (letB h.usage.data.toList) (isIn sTA.data.toList h.alg) (isIn sMO.data.toList h.mode) (letB h.serial.data.toList) (isIn sEX.data.toList h.exp)
end Pr

end Go.Proofs.YthodpjcdmdbnoaaGreatDoor

/- head.ahead, head.Fits; how a length is printed. -/
namespace Go.Proofs.YthodpjcdmdbnoaaGreatDoor
open Go Go.RowKit Pr

/-- four decimal digits -/
def dig4 (n : Nat) : List UInt8 := [UInt8.ofNat (48 + n / 1000), UInt8.ofNat (48 + n / 100 % 10), UInt8.ofNat (48 + n / 10 % 10), UInt8.ofNat (48 + n % 10)]
end Go.Proofs.YthodpjcdmdbnoaaGreatDoor

/- head.Print. head.Print of whatever head and length. head.Parse. head.Parse of whatever text; lockboxref10.Parse. Bytes read as a text. lockboxref10.Print. The table of powers of ten stays. -/
/- head.Print. -/
namespace Go.Proofs.YthodpjcdmdbnoaaGreatDoor
open Go Go.RowKit Pr

/-- a head, printed -/
def printL (h : Hd) (n : Nat) : List UInt8 := [h.ver] ++ dig4 n ++ h.usage.data.toList ++ [h.alg] ++ [h.mode] ++ h.serial.data.toList ++ [h.exp] ++ [48, 48, 48, 48]
def TabOk (w : World) : Prop := Lib.TabIs Tryz.prog w "internal/strconv.uint64pow10" .u64 Lib.pow10Tab
theorem letB_size {s : ByteArray} (h : letB s.data.toList = true) : s.size = 2 := by
 have hlist : s.data.toList.length = s.size := by simp
 unfold letB at h
 rw [Bool.and_eq_true, decide_eq_true_eq, hlist] at h
 exact h.1
theorem isIn_lt {l : List UInt8} {c : UInt8} (h : isIn l c = true) (hl : ∀ x ∈ l, x.toNat < 128) : c.toNat < 128 := by
 rw [isIn_mem, decide_eq_true_eq] at h
 exact hl c h
theorem right_ok {h : Hd} (hr : rightEr h = .ok) : h.ver.toNat < 128 ∧ h.alg.toNat < 128 ∧ h.mode.toNat < 128 ∧ h.exp.toNat < 128 ∧ h.usage.size = 2 ∧ h.serial.size = 2 := by
 unfold rightEr rE at hr
 split at hr
 ·
  rename_i b0
  split at hr
  ·
   rename_i b1
   split at hr
   ·
    rename_i b2
    split at hr
    ·
     rename_i b3
     split at hr
     ·
      rename_i b4
      split at hr
      ·
       rename_i b5
       exact ⟨isIn_lt b0 (by decide), isIn_lt b2 (by decide), isIn_lt b3 (by decide), isIn_lt b5 (by decide), letB_size b1, letB_size b4⟩
      ·
       cases hr
     ·
      cases hr
    ·
     cases hr
   ·
    cases hr
  ·
   cases hr
 ·
  cases hr

end Go.Proofs.YthodpjcdmdbnoaaGreatDoor

/- head.Print of whatever head and length. -/
namespace Go.Proofs.YthodpjcdmdbnoaaGreatDoor
open Go Go.RowKit Pr
end Go.Proofs.YthodpjcdmdbnoaaGreatDoor

/- head.Parse. -/
namespace Go.Proofs.YthodpjcdmdbnoaaGreatDoor
open Go Go.RowKit Pr
section
variable {P : Program}
theorem results_cell3 {fn : Func} {p u v : Tmp} {ty : TypeId} (h : fn.results = #[.cell p ty, .tmp u, .tmp v]) (tmps : Array Value) (w : World) (g : Nat) (t : TypeId) (cs : Array Value) (d : TypeDesc)
    (hp : tmps.getD p undef = .pointer (some ⟨g, 0, none⟩)) (hg : Blk w g t cs)
    (hu : P.underlying ty = some d) (hd : (match d with | .struct _ | .array _ _ => true | _ => false) = true) (hi : (P.info? ty).map (·.size) = some cs.size) :
    (results fn tmps).run P w = .ok (.tuple #[.agg cs, tmps.getD u undef, tmps.getD v undef]) w := by
 have hp' : tmps[p]?.getD undef = .pointer (some ⟨g, 0, none⟩) := by simpa using hp
 simp [results, h, hp', asAddr, run_loadVar_row w g t ty cs (0, 0) d hg hu hd hi]
end
def Hd.zero : Hd := ⟨0, ⟨#[]⟩, 0, 0, ⟨#[]⟩, 0⟩
theorem ErIs.only {w w' : World} {B g : Nat} {v : Value} {e : Er} (h : ErIs w B v e) (ho : Only g w w') (hg : g < B) : ErIs w' B v e := by
 cases e with
 | ok => exact h
 | no n => exact h
 | fa p n =>
  obtain ⟨b, rfl, hb, hB⟩ := h
  exact ⟨b, rfl, hb, hB.only ho (by omega)⟩

end Go.Proofs.YthodpjcdmdbnoaaGreatDoor

/- head.Parse of whatever text; lockboxref10.Parse. -/
namespace Go.Proofs.YthodpjcdmdbnoaaGreatDoor
open Go Go.RowKit Pr
end Go.Proofs.YthodpjcdmdbnoaaGreatDoor

/- Bytes read as a text. -/
namespace Go.Proofs.YthodpjcdmdbnoaaGreatDoor
open Go Go.RowKit Pr

end Go.Proofs.YthodpjcdmdbnoaaGreatDoor

/- lockboxref10.Print. -/
namespace Go.Proofs.YthodpjcdmdbnoaaGreatDoor
open Go Go.RowKit Pr
end Go.Proofs.YthodpjcdmdbnoaaGreatDoor

/- The table of powers of ten stays. -/
namespace Go.Proofs.YthodpjcdmdbnoaaGreatDoor
open Go Go.RowKit Pr
theorem tabName : Tryz.prog.globalNamed "internal/strconv.uint64pow10" = some 2 := by kernel_rfl
theorem TabOk.below {w W : World} (h : TabOk w) (hb : Below w.heap.size w W) : TabOk W := by
 unfold TabOk Lib.TabIs World.var? at *
 rw [tabName] at *
 simp only [Option.bind_some] at *
 have hlt : 2 < w.heap.size := by
  rcases Nat.lt_or_ge 2 w.heap.size with hlt | hge
  ·
   exact hlt
  ·
   rw [Array.getElem?_eq_none hge] at h; cases h
 rw [hb.block _ hlt]
 exact h
end Go.Proofs.YthodpjcdmdbnoaaGreatDoor

/- The contracts of wrap.kindOf, sizeOf, sort, fits, Fill. The contracts of wrap.Fill, made, Keys, ciphers. The contract of wrap.ciphers. Bytes made of a string, and appended to: 'append([]byte(s), x...)'. -/
/- The contracts of wrap.kindOf, sizeOf, sort, fits, Fill. -/
namespace Go.Proofs.YthodpjcdmdbnoaaGreatDoor
open Go Go.RowKit Pr

def kindV (v : Nat) : Nat := if v = 66 then 2 else if v = 68 then 1 else 0
/-- which kind of wrapping key; below 0: none -/
def sortZ (kind n : Nat) : Int := if n = 16 ∨ n = 24 then (if kind = 2 then (n / 8 - 2 : Nat) else (n / 8 : Nat)) else if n = 32 ∧ kind = 1 then 4 else -1
def fitsW (alg n : Nat) : Bool := (n == 16 || n == 24) || (n == 32 && alg == 65)
/-- how many fill bytes -/
def fillW (v : Nat) (n : Int) : Int := if kindV v = 0 ∨ n < 0 then 0 else ((sizeN (kindV v) - (n.toNat % sizeN (kindV v) + 2) % sizeN (kindV v)) % sizeN (kindV v) : Nat)
end Go.Proofs.YthodpjcdmdbnoaaGreatDoor

/- The contracts of wrap.Fill, made, Keys, ciphers. -/
namespace Go.Proofs.YthodpjcdmdbnoaaGreatDoor
open Go Go.RowKit Pr

theorem Own.pre {w : World} {B g m cap : Nat} {l : List Nat} (h : Own w B (.slice (some ⟨g, 0, none⟩) m cap) l) (k : Nat) (hk : k ≤ l.length) : Own w B (.slice (some ⟨g, 0, none⟩) k cap) (l.take k) := by
 rcases h with ⟨h1, h2⟩
 have hl : (l.take k).length = k := by rw [List.length_take]; omega
 unfold Own
 rw [hl]
 refine ⟨by simp [byteCells]; omega, ?_⟩
 rcases h2 with ⟨h2, _⟩ | ⟨g', cap', cur, hv, hg, hb, hn, hm, hs, ht⟩
 ·
  cases h2
 ·
  injection hv with e1 e2 e3
  injection e1 with e1
  injection e1 with e4
  subst e4
  subst e3
  refine .inr ⟨g, cap, cur, rfl, hg, hb, by omega, hm, hs, ?_⟩
  have e : (byteCells (l.take k)).toList = (byteCells l).toList.take k := by simp [byteCells]
  rw [e, ← ht, List.take_take]
  congr 1
  omega

def blkI (i p s n : Nat) : List Nat := [i, 0, p, 0, 0, s, 8 * n / 256, 8 * n % 256]
def madeTo (kind : Nat) (key : List Nat) (s n p : Nat) : Nat → List Nat
 | 0 => []
 | j + 1 => madeTo kind key s n p j ++ cmacN kind key (blkI (j + 1) p s n)
def sortN (kind n : Nat) : Nat := if kind = 2 then n / 8 - 2 else n / 8
def madeM (kind n : Nat) : Nat := (n + sizeN kind - 1) / sizeN kind
def madeN (kind : Nat) (key : List Nat) (p : Nat) : List Nat := (madeTo kind key (sortN kind key.length) key.length p (madeM kind key.length)).take key.length
theorem blkI_byt {i p s n : Nat} (hi : i < 256) (hp : p < 256) (hs : s < 256) (hn : n < 8000) : Byt (blkI i p s n) := fun c hc => by
 unfold blkI at hc
 simp only [List.mem_cons, List.not_mem_nil, or_false] at hc
 rcases hc with rfl | rfl | rfl | rfl | rfl | rfl | rfl | rfl <;> omega
theorem madeTo_ok {kind : Nat} {key : List Nat} (hk : Byt key) {s n p : Nat} (hp : p < 256) (hs : s < 256) (hn : n < 8000) : ∀ j, j ≤ 200 → (madeTo kind key s n p j).length = sizeN kind * j ∧ Byt (madeTo kind key s n p j)
 | 0, _ => ⟨rfl, fun c hc => by cases hc⟩
 | j + 1, hj => by
  obtain ⟨h1, h2⟩ := madeTo_ok hk (n := n) hp hs hn j (by omega)
  obtain ⟨h3, h4⟩ := cmacN_ok (kind := kind) hk (blkI_byt (i := j + 1) (by omega) hp hs hn)
  unfold madeTo
  refine ⟨by rw [List.length_append, h1, h3, Nat.mul_succ], fun c hc => ?_⟩
  rcases List.mem_append.1 hc with hc | hc
  ·
   exact h2 c hc
  ·
   exact h4 c hc
theorem KeyOk.len {kind : Nat} {key : List Nat} (hk : KeyOk kind key) : (kind = 2 ∧ (key.length = 16 ∨ key.length = 24)) ∨ (kind = 1 ∧ (key.length = 16 ∨ key.length = 24 ∨ key.length = 32)) := hk.2
theorem sort_key {kind : Nat} {key : List Nat} (hk : KeyOk kind key) : sortZ kind key.length = (sortN kind key.length : Nat) ∧ sortN kind key.length ≤ 4 := by
 rcases hk.2 with ⟨rfl, h | h⟩ | ⟨rfl, h | h | h⟩ <;> rw [h] <;> decide
theorem made_cond {kind : Nat} {key : List Nat} (hk : KeyOk kind key) : ∀ j q, sizeN kind * j = q → (j < madeM kind key.length → q < key.length) ∧ (j = madeM kind key.length → key.length ≤ q) ∧ madeM kind key.length ≤ 3 := by
 intro j q hq
 subst hq
 unfold madeM
 rcases hk.2 with ⟨rfl, h | h⟩ | ⟨rfl, h | h | h⟩ <;> rw [h]
 all_goals first
  | (rw [size_2]; refine ⟨fun h => ?_, fun h => ?_, by decide⟩ <;> omega)
  | (rw [size_1]; refine ⟨fun h => ?_, fun h => ?_, by decide⟩ <;> omega)
theorem madeN_ok {kind : Nat} {key : List Nat} (hk : KeyOk kind key) {p : Nat} (hp : p < 256) : (madeN kind key p).length = key.length ∧ Byt (madeN kind key p) := by
 have hc := (made_cond hk (madeM kind key.length) _ rfl).2
 have h := madeTo_ok (kind := kind) hk.1 (s := sortN kind key.length) (n := key.length) (p := p) hp (by have := (sort_key hk).2; omega) (by rcases hk.2 with ⟨_, h | h⟩ | ⟨_, h | h | h⟩ <;> omega) (madeM kind key.length) (by omega)
 unfold madeN
 refine ⟨by rw [List.length_take, h.1]; have := hc.1 rfl; omega, fun c hc => h.2 c (List.mem_of_mem_take hc)⟩
theorem madeN_key {kind : Nat} {key : List Nat} (hk : KeyOk kind key) {p : Nat} (hp : p < 256) : KeyOk kind (madeN kind key p) := by
 obtain ⟨h1, h2⟩ := madeN_ok hk hp
 exact ⟨h2, by rw [h1]; exact hk.2⟩

theorem KeyOk.fits {kind : Nat} {key : List Nat} (hk : KeyOk kind key) : fitsB kind key.length = true := by
 rcases hk.2 with ⟨rfl, h | h⟩ | ⟨rfl, h | h | h⟩ <;> rw [h] <;> decide
end Go.Proofs.YthodpjcdmdbnoaaGreatDoor

/- The contract of wrap.ciphers. -/
namespace Go.Proofs.YthodpjcdmdbnoaaGreatDoor
open Go Go.RowKit Pr

theorem Own.at_ {w : World} {B : Nat} {v : Value} {l : List Nat} {n : Nat} (h : Own w B v l) (hl : l.length = n) (hn : 0 < n) : ∃ g cap, v = .slice (some ⟨g, 0, none⟩) n cap ∧ At w (some ⟨g, 0, none⟩) l ∧ n ≤ cap ∧ B ≤ g := by
 obtain ⟨g, cap, e, h1, h3, h4, h5⟩ := Own.form h (ne_nil hl hn)
 rw [hl] at e h3
 exact ⟨g, cap, e, fun _ => ⟨_, _, rfl, h5⟩, h3, h1⟩

end Go.Proofs.YthodpjcdmdbnoaaGreatDoor

/- Bytes made of a string, and appended to: 'append([]byte(s), x...)'. -/
namespace Go.Proofs.YthodpjcdmdbnoaaGreatDoor
open Go Go.RowKit Pr

/-- bytes in a block that lies from B on, with room behind them that may be written -/
def Room (w : World) (B g n cap : Nat) (l : List Nat) : Prop :=
 B ≤ g ∧ g < w.heap.size ∧ l.length = n ∧ n ≤ cap ∧ Bs w g 0 l ∧ ∀ j, n ≤ j → j < cap → (w.cell? ⟨g, j, none⟩).isSome = true ∧ w.frozen? ⟨g, j, none⟩ = false
theorem Room.below {w w' : World} {B C g n cap : Nat} {l : List Nat} (h : Room w B g n cap l) (hb : Below C w w') (hC : w.heap.size ≤ C) : Room w' B g n cap l := by
 obtain ⟨h1, h2, h3, h4, h5, h6⟩ := h
 refine ⟨h1, Nat.lt_of_lt_of_le h2 hb.size, h3, h4, h5.below hb (by omega), fun j h7 h8 => ?_⟩
 rw [hb.cell (p := ⟨g, j, none⟩) (by show g < C; omega), hb.frozen (p := ⟨g, j, none⟩) (by show g < C; omega)]
 exact h6 j h7 h8
section
variable {P : Program} {ops : Array Oper} {rest : List Oper} {op : Oper} {a : Act} {w : World} {Q : Exit → Act → World → Prop}
theorem Bs.append {w : World} {b : Nat} {l m : List Nat} (h1 : Bs w b 0 l) (h2 : Bs w b l.length m) : Bs w b 0 (l ++ m) := fun j v hv => by
 have e : (byteCells (l ++ m)).toList = (byteCells l).toList ++ (byteCells m).toList := by simp [byteCells]
 have hl : (byteCells l).toList.length = l.length := by simp [byteCells]
 rw [e] at hv
 by_cases hj : j < l.length
 ·
  rw [List.getElem?_append_left (by omega)] at hv
  exact h1 j v hv
 ·
  rw [List.getElem?_append_right (by omega), hl] at hv
  have := h2 (j - l.length) v hv
  rw [show l.length + (j - l.length) = j by omega] at this
  rw [Nat.zero_add]
  exact this
end
end Go.Proofs.YthodpjcdmdbnoaaGreatDoor

/- Loads of whole rows by an operation that is guarded. The contract of wrap.Wrap, where all is right. The contract of wrap.opened. -/
/- Loads of whole rows by an operation that is guarded. -/
namespace Go.Proofs.YthodpjcdmdbnoaaGreatDoor
open Go Go.RowKit Pr

section
variable {P : Program} {ops : Array Oper} {rest : List Oper} {o : Oper} {a : Act} {w : World} {Q : Exit → Act → World → Prop}
theorem wpList_wanted (hw : Region.wanted o (yielded ops a.tmps) = true) (h : ∀ K : Act → World → Prop, (∀ a w, wpList P ops Q rest a w → K a w) → o.wp P a w K Q) : wpList P ops Q (o :: rest) a w :=
 wpList_step fun K hK => by rw [if_pos hw]; exact h K hK
theorem wpList_load_rowG (hw : Region.wanted o (yielded ops a.tmps) = true) (ty : TypeId) (x : Operand) (ho : o.op = .load ty x)
    (g : Nat) (hx : a.eval x = .pointer (some ⟨g, 0, none⟩)) (t : TypeId) (cs : Array Value) (hg : Blk w g t cs) (d : TypeDesc)
    (hu : P.underlying ty = some d) (hd : (match d with | .struct _ | .array _ _ => true | _ => false) = true) (hi : (P.info? ty).map (·.size) = some cs.size)
    (h : wpList P ops Q rest (a.put o.dst (.agg cs)) w) : wpList P ops Q (o :: rest) a w :=
 wpList_wanted hw fun _ hK => wp_load_row ty x ho g hx t cs (0, 0) d hg hu hd hi (hK _ _ h)
end
end Go.Proofs.YthodpjcdmdbnoaaGreatDoor

/- The contract of wrap.Wrap, where all is right. -/
namespace Go.Proofs.YthodpjcdmdbnoaaGreatDoor
open Go Go.RowKit Pr

def textW (key fill : List Nat) : List Nat := [8 * key.length / 256, 8 * key.length % 256] ++ key ++ fill
def lenW (kind T : Nat) : Nat := 16 + 2 * T + 2 * sizeN kind
def codeW (h : Hd) (wk key fill : List Nat) : List Nat := cmacN (kindV h.ver.toNat) (madeN (kindV h.ver.toNat) wk 1) (sN (str (printL h (lenW (kindV h.ver.toNat) (textW key fill).length))) ++ textW key fill)
def encW (h : Hd) (wk key fill : List Nat) : List Nat := chN (kindV h.ver.toNat) (madeN (kindV h.ver.toNat) wk 0) (codeW h wk key fill) (textW key fill) false
def wrapS (h : Hd) (wk key fill : List Nat) : List UInt8 := printL h (lenW (kindV h.ver.toNat) (textW key fill).length) ++ hexL (encW h wk key fill) ++ hexL (codeW h wk key fill)
theorem textW_len (key fill : List Nat) : (textW key fill).length = 2 + key.length + fill.length := by simp [textW]; omega
theorem textW_byt {key fill : List Nat} (gk : Byt key) (gf : Byt fill) (hl : key.length ≤ 1000) : Byt (textW key fill) := fun c hc => by
 unfold textW at hc
 simp only [List.mem_append, List.mem_cons, List.not_mem_nil, or_false] at hc
 rcases hc with ((rfl | rfl) | hc) | hc
 ·
  omega
 ·
  omega
 ·
  exact gk c hc
 ·
  exact gf c hc
theorem fits_len {alg kl : Nat} (h : fitsW alg kl = true) : kl = 16 ∨ kl = 24 ∨ kl = 32 := by
 unfold fitsW at h
 simp at h
 omega
/-- what is filled up is whole blocks -/
theorem fill_mod {v kl fl : Nat} (hv : kindV v ≠ 0) (hf : fillW v (kl : Int) = (fl : Int)) : (2 + kl + fl) % sizeN (kindV v) = 0 ∧ fl < sizeN (kindV v) := by
 unfold fillW at hf
 rw [if_neg (by omega), Int.toNat_natCast] at hf
 have hz : sizeN (kindV v) = 8 ∨ sizeN (kindV v) = 16 := by unfold sizeN; split <;> omega
 rcases hz with h | h <;> rw [h] at hf ⊢ <;> omega

theorem printL_size (h : Hd) (hu : h.usage.size = 2) (hs : h.serial.size = 2) (n : Nat) : (printL h n).length = 16 := by
 unfold printL dig4
 simp [hu, hs]

end Go.Proofs.YthodpjcdmdbnoaaGreatDoor

/- The contract of wrap.opened. -/
namespace Go.Proofs.YthodpjcdmdbnoaaGreatDoor
open Go Go.RowKit Pr

end Go.Proofs.YthodpjcdmdbnoaaGreatDoor

/- The contract of wrap.Unwrap, where all is right. A head that is printed is read as it was; what is read is printed as it stood. The plain law: what was wrapped is unwrapped as it was. -/
/- The contract of wrap.Unwrap, where all is right. -/
namespace Go.Proofs.YthodpjcdmdbnoaaGreatDoor
open Go Go.RowKit Pr

section
variable {P : Program} {ops : Array Oper} {Q : Exit → Act → World → Prop} {S : World → Prop} {i : Nat} {o : Oper} {n : Sch} {a : Act} {w : World}
theorem t_load_row (ho : ops[i]? = some o) (hw : Region.wanted o (yielded ops a.tmps) = true) (ty : TypeId) (x : Operand) (hop : o.op = .load ty x) (g : Nat) (hx : a.eval x = .pointer (some ⟨g, 0, none⟩)) (t : TypeId) (cs : Array Value) (hS : S w) (hB : ∀ W, S W → Blk W g t cs)
    (d : TypeDesc) (hu : P.underlying ty = some d) (hd : (match d with | .struct _ | .array _ _ => true | _ => false) = true) (hi : (P.info? ty).map (·.size) = some cs.size)
    (h : wpT P ops Q S n (a.put o.dst (.agg cs)) w) : wpT P ops Q S (.q i n) a w :=
 t_q ho hw hS _ (fun W hW => by
  unfold execOp
  simp only [hop, hx, Instr.loadAt, Instr.sureAddr, Sem.run_bind, Sem.run_pure, Result.andThen_ok, run_loadVar_row W g t ty cs (0, 0) d (hB W hW) hu hd hi]) h
end
theorem Own.onlyB {g B : Nat} {w w' : World} {v : Value} {l : List Nat} (h : Own w B v l) (ho : Only g w w') (hg : g < B) : Own w' B v l := by
 rcases h with ⟨h1, h2⟩
 refine ⟨h1, ?_⟩
 rcases h2 with h2 | ⟨g', cap, cur, rfl, hgB, hgb, r⟩
 ·
  exact .inl h2
 ·
  exact .inr ⟨g', cap, cur, rfl, hgB, (ho.block g' (by omega)).trans hgb, r⟩
end Go.Proofs.YthodpjcdmdbnoaaGreatDoor

/- A head that is printed is read as it was; what is read is printed as it stood. -/
namespace Go.Proofs.YthodpjcdmdbnoaaGreatDoor
open Go Go.RowKit Pr
end Go.Proofs.YthodpjcdmdbnoaaGreatDoor

/- The plain law: what was wrapped is unwrapped as it was. -/
namespace Go.Proofs.YthodpjcdmdbnoaaGreatDoor
open Go Go.RowKit Pr

/-- what goes into Wrap -/
structure WrapIn (h : Hd) (wk key fill : List Nat) : Prop where
 hr : rightEr h = .ok
 hk : KeyOk (kindV h.ver.toNat) wk
 gk : Byt key
 gf : Byt fill
 hfits : fitsW h.alg.toNat key.length = true
 hfill : fillW h.ver.toNat (key.length : Int) = (fill.length : Int)
 hf0 : 0 < fill.length
theorem WrapIn.facts {h : Hd} {wk key fill : List Nat} (H : WrapIn h wk key fill) :
    (textW key fill).length % sizeN (kindV h.ver.toNat) = 0 ∧ (textW key fill).length = 2 + key.length + fill.length ∧ Byt (textW key fill) ∧ key.length ≤ 32 ∧ 16 ≤ key.length ∧ fill.length ≤ 16 := by
 have hkl := fits_len H.hfits
 have hkd := H.hk.kind
 have hfm := fill_mod (by omega) H.hfill
 have hz := size_le (kindV h.ver.toNat)
 exact ⟨by rw [textW_len]; exact hfm.1, textW_len _ _, textW_byt H.gk H.gf (by omega), by omega, by omega, by omega⟩
theorem WrapIn.code {h : Hd} {wk key fill : List Nat} (H : WrapIn h wk key fill) : (codeW h wk key fill).length = sizeN (kindV h.ver.toNat) ∧ Byt (codeW h wk key fill) := by
 refine cmacN_ok (madeN_key H.hk (p := 1) (by omega)).1 (fun c hc => ?_)
 rcases List.mem_append.1 hc with hc | hc
 ·
  exact sN_lt _ c hc
 ·
  exact H.facts.2.2.1 c hc
theorem WrapIn.enc {h : Hd} {wk key fill : List Nat} (H : WrapIn h wk key fill) : (encW h wk key fill).length = (textW key fill).length ∧ Byt (encW h wk key fill) :=
 chN_ok (madeN_key H.hk (p := 0) (by omega)).1 H.code.1 H.code.2 H.facts.2.2.1 H.facts.1 false
theorem WrapIn.len {h : Hd} {wk key fill : List Nat} (H : WrapIn h wk key fill) : (wrapS h wk key fill).length = lenW (kindV h.ver.toNat) (textW key fill).length ∧ lenW (kindV h.ver.toNat) (textW key fill).length ≤ 200 := by
 obtain ⟨-, -, -, -, hu2, hs2⟩ := right_ok H.hr
 have f := H.facts
 have hz := size_le (kindV h.ver.toNat)
 refine ⟨?_, by unfold lenW; rw [f.2.1]; omega⟩
 unfold wrapS
 rw [List.length_append, List.length_append, hexL_len, hexL_len, H.enc.1, H.code.1, printL_size h hu2 hs2]
 unfold lenW
 omega

end Go.Proofs.YthodpjcdmdbnoaaGreatDoor

/- The contract of lockboxref02.Same. lockboxlaw11.some, sample, awake. Heads compared. lockboxlaw11.awake. -/
/- The contract of lockboxref02.Same. -/
namespace Go.Proofs.YthodpjcdmdbnoaaGreatDoor
open Go Go.RowKit Pr

set_option maxHeartbeats 1000000 in
theorem same_any (la lb : List Nat) (A B : Option Addr) (ca cb : Nat) (_ha : ∀ c ∈ la, c < 256) (_hb : ∀ c ∈ lb, c < 256) (hla : la.length ≤ 140737488351232) (w : World) (hA : At w A la) (hB : At w B lb) :
    Calls Tryz.prog 15 #[.slice A la.length ca, .slice B lb.length cb] w fun e w' => e = .returned (.bool (decide (la = lb))) ∧ ∃ n, w' = w.drewN n := by
 by_cases hne : la.length = lb.length
 ·
  obtain ⟨n, hn⟩ : ∃ n, la.length = n := ⟨_, rfl⟩
  have hn2 : lb.length = n := by rw [← hne, hn]
  rw [hn] at hla ⊢
  rw [hn2]
  have t1 : ((n : Int) != (n : Int)) = false := by simp
  have HN := Lib.hid hn; clear hn
  have HN2 := Lib.hid hn2; clear hn2 hne
  have HA := Lib.hid hA; clear hA
  have HB := Lib.hid hB; clear hB
  go_enter Tryz.func15, Tryz.ntmps15
  go_wp2
  go_loopw [5] (fun i wr => ∃ k : Nat, k ≤ n ∧ i = .int .i64 k ∧ Hid (la.take k = lb.take k) ∧ ∃ m, wr = w.drewN m) (fun i _ => n - (intOf i).toNat)
  case atStart => exact ⟨0, by omega, rfl, by show la.take 0 = lb.take 0; simp, 0, rfl⟩
  case round =>
   obtain ⟨k, hk, rfl, hrel, m, rfl⟩ := hrel
   by_cases hlt : k < n
   ·
    have hka : k < la.length := by rw [HN.out]; exact hlt
    have hkb : k < lb.length := by rw [HN2.out]; exact hlt
    obtain ⟨b1, o1, rfl, hB1⟩ := HA.out (by intro h; rw [h] at hka; cases hka)
    obtain ⟨b2, o2, rfl, hB2⟩ := HB.out (by intro h; rw [h] at hkb; cases hkb)
    have c1 : w.cell? ⟨b1, o1 + k, none⟩ = some (.int .u8 (la[k] : Nat)) := hB1.cell k hka
    have c2 : w.cell? ⟨b2, o2 + k, none⟩ = some (.int .u8 (lb[k] : Nat)) := hB2.cell k hkb
    by_cases he : la[k] = lb[k]
    ·
     have hst : Hid (la.take (k + 1) = lb.take (k + 1)) := by
      show la.take (k + 1) = lb.take (k + 1)
      rw [List.take_succ_eq_append_getElem hka, List.take_succ_eq_append_getElem hkb, hrel.out, he]
     have t2 : ((la[k] : Int) != (lb[k] : Int)) = false := by rw [he]; simp
     clear he
     generalize la[k] = x at *
     generalize lb[k] = y at *
     go_wp2
     go_quiet (fail)
     go_wp2
     go_roundw
     case rel => exact ⟨k + 1, by omega, by go_num, hst, _, rfl⟩
     case measure => simp [intOf]; omega
    ·
     have hd : decide (la = lb) = false := decide_eq_false (fun h => he (by subst h; rfl))
     have HD := Lib.hid hd; clear hd
     have t2 : ((la[k] : Int) != (lb[k] : Int)) = true := by rw [bne_iff_ne]; omega
     clear he
     generalize la[k] = x at *
     generalize lb[k] = y at *
     go_wp2
     go_quiet (fail)
     go_wp2
     go_ret
     exact ⟨by rw [HD.out]; rfl, _, World.drewN_drewN _ _ _⟩
   ·
    have hfin : decide (la = lb) = true := by
     have h1 : la.take k = la := List.take_of_length_le (by rw [HN.out]; omega)
     have h2 : lb.take k = lb := List.take_of_length_le (by rw [HN2.out]; omega)
     have := hrel.out
     rw [h1, h2] at this
     exact decide_eq_true this
    have HF := Lib.hid hfin; clear hfin
    go_wp2
    go_ret
    exact ⟨by rw [HF.out]; rfl, _, rfl⟩
 ·
  have t1 : ((la.length : Int) != (lb.length : Int)) = true := by rw [bne_iff_ne]; omega
  have hd : decide (la = lb) = false := decide_eq_false (fun h => hne (by rw [h]))
  have HD := Lib.hid hd; clear hd
  go_enter Tryz.func15, Tryz.ntmps15
  go_wp2
  go_ret
  exact ⟨by rw [HD.out]; rfl, 0, rfl⟩
end Go.Proofs.YthodpjcdmdbnoaaGreatDoor

/- lockboxlaw11.some, sample, awake. -/
namespace Go.Proofs.YthodpjcdmdbnoaaGreatDoor
open Go Go.RowKit Pr

/-- a sample of a version -/
def hS (v : UInt8) : Hd := ⟨v, ⟨#[80, 48]⟩, 84, 69, ⟨#[48, 48]⟩, 69⟩
end Go.Proofs.YthodpjcdmdbnoaaGreatDoor

/- Heads compared. -/
namespace Go.Proofs.YthodpjcdmdbnoaaGreatDoor
open Go Go.RowKit Pr
end Go.Proofs.YthodpjcdmdbnoaaGreatDoor

/- lockboxlaw11.awake. -/
namespace Go.Proofs.YthodpjcdmdbnoaaGreatDoor
open Go Go.RowKit Pr

section
variable {Q : Exit → Act → World → Prop} {o : Oper} {a : Act} {w : World}
end
end Go.Proofs.YthodpjcdmdbnoaaGreatDoor
