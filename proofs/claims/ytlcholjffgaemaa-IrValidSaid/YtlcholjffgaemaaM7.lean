/-
Texts of the proof, part 7: Su Sd Te Tx V1 V2 V3.
No statement of the program is proved here.
-/
import Derived.Test.YtlcholjffgaemaaM6
set_option linter.unusedVariables false
set_option linter.unusedSimpArgs false
set_option linter.unusedSectionVars false
namespace Go.Abs
open Go
structure Typ where
 width : Int
 signed : Bool
deriving DecidableEq
def Typ.z : Typ := ⟨0, false⟩
def Typ.e (x : Typ) : Nat -> T
 | 0 => .int .i64 x.width
 | 1 => .bool x.signed
 | _ => .any
def Fn.z : Fn := ⟨ByteArray.empty, [], [], [], [], []⟩
inductive Ow (α β : Type) where
 | own (l : List α)
 | fz (l : List β)
inductive Gn (α : Type) where
 | own (l : List α)
 | gone
def Sp.gnL {α : Type} : Gn α -> Option (List α)
 | .own l => some l
 | .gone => none
def Sp.ownL {α β : Type} : Ow α β -> Option (List α)
 | .own l => some l
 | .fz _ => none
def Sp.frzL {α β : Type} : Ow α β -> Option (List β)
 | .own _ => none
 | .fz l => some l
structure InstM where
 op : Int
 dest : Int
 args : (Ow Int Int)
 num : Int
 mem : Int
def InstM.z : InstM := ⟨0, 0, (.fz []), 0, 0⟩
structure EdgeM where
 block : Int
 args : (Ow Int Int)
def EdgeM.z : EdgeM := ⟨0, (.fz [])⟩
structure TermM where
 kind : Int
 cond : Int
 to : (Ow EdgeM Edge)
 rets : (Ow Int Int)
def TermM.z : TermM := ⟨0, 0, (.fz []), (.fz [])⟩
structure BlockM where
 params : (Ow Int Int)
 insts : (Ow InstM Inst)
 term : TermM
 pipeline : Int
 unroll : Int
 line : Int
def BlockM.z : BlockM := ⟨(.fz []), (.fz []), TermM.z, 0, 0, 0⟩
structure LsI where
 v : (Gn Int)
def LsI.z : LsI := ⟨(.own [])⟩
@[reducible] def suD : Nat -> Type
 | 0 => Inst
 | 1 => Edge
 | 2 => Term
 | 3 => Block
 | 4 => Arr
 | 5 => Strm
 | 6 => Fn
 | 7 => Typ
 | 8 => InstM
 | 9 => EdgeM
 | 10 => TermM
 | 11 => BlockM
 | 12 => LsI
 | _ => Unit
def suZ : (i : Nat) -> suD i
 | 0 => Inst.z
 | 1 => Edge.z
 | 2 => Term.z
 | 3 => Block.z
 | 4 => Arr.z
 | 5 => Strm.z
 | 6 => Fn.z
 | 7 => Typ.z
 | 8 => InstM.z
 | 9 => EdgeM.z
 | 10 => TermM.z
 | 11 => BlockM.z
 | 12 => LsI.z
 | _ + 13 => ()
def suSz : Nat -> Nat
 | 0 => 5
 | 1 => 2
 | 2 => 4
 | 3 => 9
 | 4 => 5
 | 5 => 3
 | 6 => 6
 | 7 => 2
 | 8 => 5
 | 9 => 2
 | 10 => 4
 | 11 => 9
 | 12 => 1
 | _ => 0
def suEnc : (i : Nat) -> suD i -> Nat -> T
 | 0, x => Inst.e x
 | 1, x => Edge.e x
 | 2, x => Term.e x
 | 3, x => Block.e x
 | 4, x => Arr.e x
 | 5, x => Strm.e x
 | 6, x => Fn.e x
 | 7, x => Typ.e x
 | _ + 8, _ => fun _ => .any
instance : SU := ⟨suD, suZ, suSz, suEnc⟩
theorem castN_same : ∀ (D : Nat -> Type) (i : Nat) (x : D i), castN D i i x = some x
 | D, 0, x => rfl
 | D, i + 1, x => castN_same (fun n => D (n + 1)) i x
theorem castF_same : ∀ (F : Type -> Type) (τ : Ty) (x : F τ.D), castF F τ τ x = some x
 | F, .bool, x => rfl
 | F, .int k, x => by cases k <;> rfl
 | F, .str, x => rfl
 | F, .st i, x => castN_same (fun i => F (SU.D i)) i x
 | F, .sl e, x => castF_same (fun X => F (List X)) e x
 | F, .ol t e, x => by simp only [castF, Nat.beq_refl, cond_true]; exact castF_same (fun X => F (List X)) e x
def set0 : (τ : Ty) -> EV -> Option τ.D
 | .bool, .b y => some y
 | .int k, .i k' n => bif kindEq k k' then some n else none
 | .str, .s y => some y
 | .sl e, .fz e' l => castF List e' e l
 | .sl e, .nils => some []
 | _, _ => none
def cell0 : (τ : Ty) -> τ.D -> EV
 | .bool, x => .b x
 | .int k, x => .i k x
 | .str, x => .s x
 | .sl e, l => .fz e l
 | .st i, x => .un
 | .ol _ _, x => .un
theorem set0_ok {τ : Ty} {v : EV} {y : τ.D} (h : set0 τ v = some y) : ∀ len, Wk (toV len v) (toV len (cell0 τ y)) := fun len => by
 cases τ with
 | bool => cases v <;> simp only [set0] at h <;> first | (cases h; done) | (injection h with h; subst h; exact Wk.refl _)
 | int k =>
  cases v <;> simp only [set0] at h <;> try (cases h; done)
  rename_i k' n
  cases hk : kindEq k k' with
  | false => rw [hk] at h; cases h
  | true =>
   have := kindEq_eq hk
   subst this
   rw [hk] at h
   simp only [cond_true] at h
   injection h with h; subst h; exact Wk.refl _
 | str => cases v <;> simp only [set0] at h <;> first | (cases h; done) | (injection h with h; subst h; exact Wk.refl _)
 | st i => simp only [cell0, toV]; exact Wk.un _
 | ol _ _ => simp only [cell0, toV]; exact Wk.un _
 | sl e =>
  cases v <;> simp only [set0] at h <;> try (cases h; done)
  ·obtain ⟨rfl, h⟩ := castL_ok h
   obtain rfl := eq_of_heq h
   exact Wk.refl _
  ·injection h with h; subst h
   simp only [cell0, toV, encL]
   exact Wk.nils _ _
def Inst.c (x : Inst) : Nat -> EV
 | 0 => .i .i64 (x.op)
 | 1 => .i .i64 (x.dest)
 | 2 => .fz (.int .i64) (x.args)
 | 3 => .i .u64 (x.num)
 | 4 => .i .i64 (x.mem)
 | _ => .un
def Inst.s (x : Inst) (j : Nat) (v : EV) : Option Inst := match j with
 | 0 => match set0 (.int .i64) v with
  | some y => some { x with op := y }
  | none => none
 | 1 => match set0 (.int .i64) v with
  | some y => some { x with dest := y }
  | none => none
 | 2 => match set0 (.sl (.int .i64)) v with
  | some y => some { x with args := y }
  | none => none
 | 3 => match set0 (.int .u64) v with
  | some y => some { x with num := y }
  | none => none
 | 4 => match set0 (.int .i64) v with
  | some y => some { x with mem := y }
  | none => none
 | _ => none
def Inst.m : List EV -> Option Inst
 | [a0, a1, a2, a3, a4] => match set0 (.int .i64) a0, set0 (.int .i64) a1, set0 (.sl (.int .i64)) a2, set0 (.int .u64) a3, set0 (.int .i64) a4 with
  | some y0, some y1, some y2, some y3, some y4 => some ⟨y0, y1, y2, y3, y4⟩
  | _, _, _, _, _ => none
 | _ => none
theorem Inst.c_ok (x : Inst) (len : Len) : ∀ j, j < 5 -> toV len (Inst.c x j) = .t (Inst.e x j)
 | 0, _ => by simp only [Inst.c, toV]; rfl
 | 1, _ => by simp only [Inst.c, toV]; rfl
 | 2, _ => by simp only [Inst.c, toV]; rfl
 | 3, _ => by simp only [Inst.c, toV]; rfl
 | 4, _ => by simp only [Inst.c, toV]; rfl
 | n + 5, h => absurd h (by omega)
theorem Inst.c_dat (x : Inst) : ∀ j, (Inst.c x j).dat = true
 | 0 => rfl
 | 1 => rfl
 | 2 => rfl
 | 3 => rfl
 | 4 => rfl
 | n + 5 => rfl
theorem Inst.s_ok (x : Inst) (j : Nat) (v : EV) (y : Inst) (h : Inst.s x j v = some y) : (∀ len, Wk (toV len v) (toV len (Inst.c y j))) /\ ∀ j', j' ≠ j -> Inst.c y j' = Inst.c x j' := by
 match j with
 | 0 =>
  simp only [Inst.s] at h
  split at h
  ·rename_i a ha
   injection h with h
   subst h
   refine ⟨set0_ok ha, fun j' hj => ?_⟩
   match j', hj with
   | 0, hj => exact absurd rfl hj
   | 1, hj => exact rfl
   | 2, hj => exact rfl
   | 3, hj => exact rfl
   | 4, hj => exact rfl
   | n + 5, _ => rfl
  ·cases h
 | 1 =>
  simp only [Inst.s] at h
  split at h
  ·rename_i a ha
   injection h with h
   subst h
   refine ⟨set0_ok ha, fun j' hj => ?_⟩
   match j', hj with
   | 0, hj => exact rfl
   | 1, hj => exact absurd rfl hj
   | 2, hj => exact rfl
   | 3, hj => exact rfl
   | 4, hj => exact rfl
   | n + 5, _ => rfl
  ·cases h
 | 2 =>
  simp only [Inst.s] at h
  split at h
  ·rename_i a ha
   injection h with h
   subst h
   refine ⟨set0_ok ha, fun j' hj => ?_⟩
   match j', hj with
   | 0, hj => exact rfl
   | 1, hj => exact rfl
   | 2, hj => exact absurd rfl hj
   | 3, hj => exact rfl
   | 4, hj => exact rfl
   | n + 5, _ => rfl
  ·cases h
 | 3 =>
  simp only [Inst.s] at h
  split at h
  ·rename_i a ha
   injection h with h
   subst h
   refine ⟨set0_ok ha, fun j' hj => ?_⟩
   match j', hj with
   | 0, hj => exact rfl
   | 1, hj => exact rfl
   | 2, hj => exact rfl
   | 3, hj => exact absurd rfl hj
   | 4, hj => exact rfl
   | n + 5, _ => rfl
  ·cases h
 | 4 =>
  simp only [Inst.s] at h
  split at h
  ·rename_i a ha
   injection h with h
   subst h
   refine ⟨set0_ok ha, fun j' hj => ?_⟩
   match j', hj with
   | 0, hj => exact rfl
   | 1, hj => exact rfl
   | 2, hj => exact rfl
   | 3, hj => exact rfl
   | 4, hj => exact absurd rfl hj
   | n + 5, _ => rfl
  ·cases h
 | n + 5 => simp [Inst.s] at h
theorem Inst.m_ok (l : List EV) (y : Inst) (h : Inst.m l = some y) : l.length = 5 /\ ∀ j, j < 5 -> ∀ len, Wk (toVs len l j) (toV len (Inst.c y j)) := by
 unfold Inst.m at h
 split at h
 ·split at h
  ·rename_i h0 h1 h2 h3 h4
   injection h with h
   subst h
   refine ⟨rfl, fun j hj len => ?_⟩
   match j, hj with
   | 0, _ => simp only [toVs]; exact set0_ok h0 len
   | 1, _ => simp only [toVs]; exact set0_ok h1 len
   | 2, _ => simp only [toVs]; exact set0_ok h2 len
   | 3, _ => simp only [toVs]; exact set0_ok h3 len
   | 4, _ => simp only [toVs]; exact set0_ok h4 len
   | n + 5, h => exact absurd h (by omega)
  ·cases h
 ·cases h
def Edge.c (x : Edge) : Nat -> EV
 | 0 => .i .i64 (x.block)
 | 1 => .fz (.int .i64) (x.args)
 | _ => .un
def Edge.s (x : Edge) (j : Nat) (v : EV) : Option Edge := match j with
 | 0 => match set0 (.int .i64) v with
  | some y => some { x with block := y }
  | none => none
 | 1 => match set0 (.sl (.int .i64)) v with
  | some y => some { x with args := y }
  | none => none
 | _ => none
def Edge.m : List EV -> Option Edge
 | [a0, a1] => match set0 (.int .i64) a0, set0 (.sl (.int .i64)) a1 with
  | some y0, some y1 => some ⟨y0, y1⟩
  | _, _ => none
 | _ => none
theorem Edge.c_ok (x : Edge) (len : Len) : ∀ j, j < 2 -> toV len (Edge.c x j) = .t (Edge.e x j)
 | 0, _ => by simp only [Edge.c, toV]; rfl
 | 1, _ => by simp only [Edge.c, toV]; rfl
 | n + 2, h => absurd h (by omega)
theorem Edge.c_dat (x : Edge) : ∀ j, (Edge.c x j).dat = true
 | 0 => rfl
 | 1 => rfl
 | n + 2 => rfl
theorem Edge.s_ok (x : Edge) (j : Nat) (v : EV) (y : Edge) (h : Edge.s x j v = some y) : (∀ len, Wk (toV len v) (toV len (Edge.c y j))) /\ ∀ j', j' ≠ j -> Edge.c y j' = Edge.c x j' := by
 match j with
 | 0 =>
  simp only [Edge.s] at h
  split at h
  ·rename_i a ha
   injection h with h
   subst h
   refine ⟨set0_ok ha, fun j' hj => ?_⟩
   match j', hj with
   | 0, hj => exact absurd rfl hj
   | 1, hj => exact rfl
   | n + 2, _ => rfl
  ·cases h
 | 1 =>
  simp only [Edge.s] at h
  split at h
  ·rename_i a ha
   injection h with h
   subst h
   refine ⟨set0_ok ha, fun j' hj => ?_⟩
   match j', hj with
   | 0, hj => exact rfl
   | 1, hj => exact absurd rfl hj
   | n + 2, _ => rfl
  ·cases h
 | n + 2 => simp [Edge.s] at h
theorem Edge.m_ok (l : List EV) (y : Edge) (h : Edge.m l = some y) : l.length = 2 /\ ∀ j, j < 2 -> ∀ len, Wk (toVs len l j) (toV len (Edge.c y j)) := by
 unfold Edge.m at h
 split at h
 ·split at h
  ·rename_i h0 h1
   injection h with h
   subst h
   refine ⟨rfl, fun j hj len => ?_⟩
   match j, hj with
   | 0, _ => simp only [toVs]; exact set0_ok h0 len
   | 1, _ => simp only [toVs]; exact set0_ok h1 len
   | n + 2, h => exact absurd h (by omega)
  ·cases h
 ·cases h
def Term.c (x : Term) : Nat -> EV
 | 0 => .i .i64 (x.kind)
 | 1 => .i .i64 (x.cond)
 | 2 => .fz (.st 1) (x.to)
 | 3 => .fz (.int .i64) (x.rets)
 | _ => .un
def Term.s (x : Term) (j : Nat) (v : EV) : Option Term := match j with
 | 0 => match set0 (.int .i64) v with
  | some y => some { x with kind := y }
  | none => none
 | 1 => match set0 (.int .i64) v with
  | some y => some { x with cond := y }
  | none => none
 | 2 => match set0 (.sl (.st 1)) v with
  | some y => some { x with to := y }
  | none => none
 | 3 => match set0 (.sl (.int .i64)) v with
  | some y => some { x with rets := y }
  | none => none
 | _ => none
def Term.m : List EV -> Option Term
 | [a0, a1, a2, a3] => match set0 (.int .i64) a0, set0 (.int .i64) a1, set0 (.sl (.st 1)) a2, set0 (.sl (.int .i64)) a3 with
  | some y0, some y1, some y2, some y3 => some ⟨y0, y1, y2, y3⟩
  | _, _, _, _ => none
 | _ => none
theorem Term.c_ok (x : Term) (len : Len) : ∀ j, j < 4 -> toV len (Term.c x j) = .t (Term.e x j)
 | 0, _ => by simp only [Term.c, toV]; rfl
 | 1, _ => by simp only [Term.c, toV]; rfl
 | 2, _ => by simp only [Term.c, toV]; rfl
 | 3, _ => by simp only [Term.c, toV]; rfl
 | n + 4, h => absurd h (by omega)
theorem Term.c_dat (x : Term) : ∀ j, (Term.c x j).dat = true
 | 0 => rfl
 | 1 => rfl
 | 2 => rfl
 | 3 => rfl
 | n + 4 => rfl
theorem Term.s_ok (x : Term) (j : Nat) (v : EV) (y : Term) (h : Term.s x j v = some y) : (∀ len, Wk (toV len v) (toV len (Term.c y j))) /\ ∀ j', j' ≠ j -> Term.c y j' = Term.c x j' := by
 match j with
 | 0 =>
  simp only [Term.s] at h
  split at h
  ·rename_i a ha
   injection h with h
   subst h
   refine ⟨set0_ok ha, fun j' hj => ?_⟩
   match j', hj with
   | 0, hj => exact absurd rfl hj
   | 1, hj => exact rfl
   | 2, hj => exact rfl
   | 3, hj => exact rfl
   | n + 4, _ => rfl
  ·cases h
 | 1 =>
  simp only [Term.s] at h
  split at h
  ·rename_i a ha
   injection h with h
   subst h
   refine ⟨set0_ok ha, fun j' hj => ?_⟩
   match j', hj with
   | 0, hj => exact rfl
   | 1, hj => exact absurd rfl hj
   | 2, hj => exact rfl
   | 3, hj => exact rfl
   | n + 4, _ => rfl
  ·cases h
 | 2 =>
  simp only [Term.s] at h
  split at h
  ·rename_i a ha
   injection h with h
   subst h
   refine ⟨set0_ok ha, fun j' hj => ?_⟩
   match j', hj with
   | 0, hj => exact rfl
   | 1, hj => exact rfl
   | 2, hj => exact absurd rfl hj
   | 3, hj => exact rfl
   | n + 4, _ => rfl
  ·cases h
 | 3 =>
  simp only [Term.s] at h
  split at h
  ·rename_i a ha
   injection h with h
   subst h
   refine ⟨set0_ok ha, fun j' hj => ?_⟩
   match j', hj with
   | 0, hj => exact rfl
   | 1, hj => exact rfl
   | 2, hj => exact rfl
   | 3, hj => exact absurd rfl hj
   | n + 4, _ => rfl
  ·cases h
 | n + 4 => simp [Term.s] at h
theorem Term.m_ok (l : List EV) (y : Term) (h : Term.m l = some y) : l.length = 4 /\ ∀ j, j < 4 -> ∀ len, Wk (toVs len l j) (toV len (Term.c y j)) := by
 unfold Term.m at h
 split at h
 ·split at h
  ·rename_i h0 h1 h2 h3
   injection h with h
   subst h
   refine ⟨rfl, fun j hj len => ?_⟩
   match j, hj with
   | 0, _ => simp only [toVs]; exact set0_ok h0 len
   | 1, _ => simp only [toVs]; exact set0_ok h1 len
   | 2, _ => simp only [toVs]; exact set0_ok h2 len
   | 3, _ => simp only [toVs]; exact set0_ok h3 len
   | n + 4, h => exact absurd h (by omega)
  ·cases h
 ·cases h
def Block.c (x : Block) : Nat -> EV
 | 0 => .fz (.int .i64) (x.params)
 | 1 => .fz (.st 0) (x.insts)
 | 2 => .i .i64 (x.term.kind)
 | 3 => .i .i64 (x.term.cond)
 | 4 => .fz (.st 1) (x.term.to)
 | 5 => .fz (.int .i64) (x.term.rets)
 | 6 => .i .i64 (x.pipeline)
 | 7 => .i .i64 (x.unroll)
 | 8 => .i .i64 (x.line)
 | _ => .un
def Block.s (x : Block) (j : Nat) (v : EV) : Option Block := match j with
 | 0 => match set0 (.sl (.int .i64)) v with
  | some y => some { x with params := y }
  | none => none
 | 1 => match set0 (.sl (.st 0)) v with
  | some y => some { x with insts := y }
  | none => none
 | 2 => match set0 (.int .i64) v with
  | some y => some { x with term := { x.term with kind := y } }
  | none => none
 | 3 => match set0 (.int .i64) v with
  | some y => some { x with term := { x.term with cond := y } }
  | none => none
 | 4 => match set0 (.sl (.st 1)) v with
  | some y => some { x with term := { x.term with to := y } }
  | none => none
 | 5 => match set0 (.sl (.int .i64)) v with
  | some y => some { x with term := { x.term with rets := y } }
  | none => none
 | 6 => match set0 (.int .i64) v with
  | some y => some { x with pipeline := y }
  | none => none
 | 7 => match set0 (.int .i64) v with
  | some y => some { x with unroll := y }
  | none => none
 | 8 => match set0 (.int .i64) v with
  | some y => some { x with line := y }
  | none => none
 | _ => none
def Block.m : List EV -> Option Block
 | [a0, a1, a2, a3, a4, a5, a6, a7, a8] => match set0 (.sl (.int .i64)) a0, set0 (.sl (.st 0)) a1, set0 (.int .i64) a2, set0 (.int .i64) a3, set0 (.sl (.st 1)) a4, set0 (.sl (.int .i64)) a5, set0 (.int .i64) a6, set0 (.int .i64) a7, set0 (.int .i64) a8 with
  | some y0, some y1, some y2, some y3, some y4, some y5, some y6, some y7, some y8 => some ⟨y0, y1, ⟨y2, y3, y4, y5⟩, y6, y7, y8⟩
  | _, _, _, _, _, _, _, _, _ => none
 | _ => none
theorem Block.c_ok (x : Block) (len : Len) : ∀ j, j < 9 -> toV len (Block.c x j) = .t (Block.e x j)
 | 0, _ => by simp only [Block.c, toV]; rfl
 | 1, _ => by simp only [Block.c, toV]; rfl
 | 2, _ => by simp only [Block.c, toV]; rfl
 | 3, _ => by simp only [Block.c, toV]; rfl
 | 4, _ => by simp only [Block.c, toV]; rfl
 | 5, _ => by simp only [Block.c, toV]; rfl
 | 6, _ => by simp only [Block.c, toV]; rfl
 | 7, _ => by simp only [Block.c, toV]; rfl
 | 8, _ => by simp only [Block.c, toV]; rfl
 | n + 9, h => absurd h (by omega)
theorem Block.c_dat (x : Block) : ∀ j, (Block.c x j).dat = true
 | 0 => rfl
 | 1 => rfl
 | 2 => rfl
 | 3 => rfl
 | 4 => rfl
 | 5 => rfl
 | 6 => rfl
 | 7 => rfl
 | 8 => rfl
 | n + 9 => rfl
theorem Block.s_ok (x : Block) (j : Nat) (v : EV) (y : Block) (h : Block.s x j v = some y) : (∀ len, Wk (toV len v) (toV len (Block.c y j))) /\ ∀ j', j' ≠ j -> Block.c y j' = Block.c x j' := by
 match j with
 | 0 =>
  simp only [Block.s] at h
  split at h
  ·rename_i a ha
   injection h with h
   subst h
   refine ⟨set0_ok ha, fun j' hj => ?_⟩
   match j', hj with
   | 0, hj => exact absurd rfl hj
   | 1, hj => exact rfl
   | 2, hj => exact rfl
   | 3, hj => exact rfl
   | 4, hj => exact rfl
   | 5, hj => exact rfl
   | 6, hj => exact rfl
   | 7, hj => exact rfl
   | 8, hj => exact rfl
   | n + 9, _ => rfl
  ·cases h
 | 1 =>
  simp only [Block.s] at h
  split at h
  ·rename_i a ha
   injection h with h
   subst h
   refine ⟨set0_ok ha, fun j' hj => ?_⟩
   match j', hj with
   | 0, hj => exact rfl
   | 1, hj => exact absurd rfl hj
   | 2, hj => exact rfl
   | 3, hj => exact rfl
   | 4, hj => exact rfl
   | 5, hj => exact rfl
   | 6, hj => exact rfl
   | 7, hj => exact rfl
   | 8, hj => exact rfl
   | n + 9, _ => rfl
  ·cases h
 | 2 =>
  simp only [Block.s] at h
  split at h
  ·rename_i a ha
   injection h with h
   subst h
   refine ⟨set0_ok ha, fun j' hj => ?_⟩
   match j', hj with
   | 0, hj => exact rfl
   | 1, hj => exact rfl
   | 2, hj => exact absurd rfl hj
   | 3, hj => exact rfl
   | 4, hj => exact rfl
   | 5, hj => exact rfl
   | 6, hj => exact rfl
   | 7, hj => exact rfl
   | 8, hj => exact rfl
   | n + 9, _ => rfl
  ·cases h
 | 3 =>
  simp only [Block.s] at h
  split at h
  ·rename_i a ha
   injection h with h
   subst h
   refine ⟨set0_ok ha, fun j' hj => ?_⟩
   match j', hj with
   | 0, hj => exact rfl
   | 1, hj => exact rfl
   | 2, hj => exact rfl
   | 3, hj => exact absurd rfl hj
   | 4, hj => exact rfl
   | 5, hj => exact rfl
   | 6, hj => exact rfl
   | 7, hj => exact rfl
   | 8, hj => exact rfl
   | n + 9, _ => rfl
  ·cases h
 | 4 =>
  simp only [Block.s] at h
  split at h
  ·rename_i a ha
   injection h with h
   subst h
   refine ⟨set0_ok ha, fun j' hj => ?_⟩
   match j', hj with
   | 0, hj => exact rfl
   | 1, hj => exact rfl
   | 2, hj => exact rfl
   | 3, hj => exact rfl
   | 4, hj => exact absurd rfl hj
   | 5, hj => exact rfl
   | 6, hj => exact rfl
   | 7, hj => exact rfl
   | 8, hj => exact rfl
   | n + 9, _ => rfl
  ·cases h
 | 5 =>
  simp only [Block.s] at h
  split at h
  ·rename_i a ha
   injection h with h
   subst h
   refine ⟨set0_ok ha, fun j' hj => ?_⟩
   match j', hj with
   | 0, hj => exact rfl
   | 1, hj => exact rfl
   | 2, hj => exact rfl
   | 3, hj => exact rfl
   | 4, hj => exact rfl
   | 5, hj => exact absurd rfl hj
   | 6, hj => exact rfl
   | 7, hj => exact rfl
   | 8, hj => exact rfl
   | n + 9, _ => rfl
  ·cases h
 | 6 =>
  simp only [Block.s] at h
  split at h
  ·rename_i a ha
   injection h with h
   subst h
   refine ⟨set0_ok ha, fun j' hj => ?_⟩
   match j', hj with
   | 0, hj => exact rfl
   | 1, hj => exact rfl
   | 2, hj => exact rfl
   | 3, hj => exact rfl
   | 4, hj => exact rfl
   | 5, hj => exact rfl
   | 6, hj => exact absurd rfl hj
   | 7, hj => exact rfl
   | 8, hj => exact rfl
   | n + 9, _ => rfl
  ·cases h
 | 7 =>
  simp only [Block.s] at h
  split at h
  ·rename_i a ha
   injection h with h
   subst h
   refine ⟨set0_ok ha, fun j' hj => ?_⟩
   match j', hj with
   | 0, hj => exact rfl
   | 1, hj => exact rfl
   | 2, hj => exact rfl
   | 3, hj => exact rfl
   | 4, hj => exact rfl
   | 5, hj => exact rfl
   | 6, hj => exact rfl
   | 7, hj => exact absurd rfl hj
   | 8, hj => exact rfl
   | n + 9, _ => rfl
  ·cases h
 | 8 =>
  simp only [Block.s] at h
  split at h
  ·rename_i a ha
   injection h with h
   subst h
   refine ⟨set0_ok ha, fun j' hj => ?_⟩
   match j', hj with
   | 0, hj => exact rfl
   | 1, hj => exact rfl
   | 2, hj => exact rfl
   | 3, hj => exact rfl
   | 4, hj => exact rfl
   | 5, hj => exact rfl
   | 6, hj => exact rfl
   | 7, hj => exact rfl
   | 8, hj => exact absurd rfl hj
   | n + 9, _ => rfl
  ·cases h
 | n + 9 => simp [Block.s] at h
theorem Block.m_ok (l : List EV) (y : Block) (h : Block.m l = some y) : l.length = 9 /\ ∀ j, j < 9 -> ∀ len, Wk (toVs len l j) (toV len (Block.c y j)) := by
 unfold Block.m at h
 split at h
 ·split at h
  ·rename_i h0 h1 h2 h3 h4 h5 h6 h7 h8
   injection h with h
   subst h
   refine ⟨rfl, fun j hj len => ?_⟩
   match j, hj with
   | 0, _ => simp only [toVs]; exact set0_ok h0 len
   | 1, _ => simp only [toVs]; exact set0_ok h1 len
   | 2, _ => simp only [toVs]; exact set0_ok h2 len
   | 3, _ => simp only [toVs]; exact set0_ok h3 len
   | 4, _ => simp only [toVs]; exact set0_ok h4 len
   | 5, _ => simp only [toVs]; exact set0_ok h5 len
   | 6, _ => simp only [toVs]; exact set0_ok h6 len
   | 7, _ => simp only [toVs]; exact set0_ok h7 len
   | 8, _ => simp only [toVs]; exact set0_ok h8 len
   | n + 9, h => exact absurd h (by omega)
  ·cases h
 ·cases h
def Arr.c (x : Arr) : Nat -> EV
 | 0 => .s (x.name)
 | 1 => .i .i64 (x.width)
 | 2 => .i .i64 (x.len)
 | 3 => .i .i64 (x.kind)
 | 4 => .i .i64 (x.factor)
 | _ => .un
def Arr.s (x : Arr) (j : Nat) (v : EV) : Option Arr := match j with
 | 0 => match set0 (.str) v with
  | some y => some { x with name := y }
  | none => none
 | 1 => match set0 (.int .i64) v with
  | some y => some { x with width := y }
  | none => none
 | 2 => match set0 (.int .i64) v with
  | some y => some { x with len := y }
  | none => none
 | 3 => match set0 (.int .i64) v with
  | some y => some { x with kind := y }
  | none => none
 | 4 => match set0 (.int .i64) v with
  | some y => some { x with factor := y }
  | none => none
 | _ => none
def Arr.m : List EV -> Option Arr
 | [a0, a1, a2, a3, a4] => match set0 (.str) a0, set0 (.int .i64) a1, set0 (.int .i64) a2, set0 (.int .i64) a3, set0 (.int .i64) a4 with
  | some y0, some y1, some y2, some y3, some y4 => some ⟨y0, y1, y2, y3, y4⟩
  | _, _, _, _, _ => none
 | _ => none
theorem Arr.c_ok (x : Arr) (len : Len) : ∀ j, j < 5 -> toV len (Arr.c x j) = .t (Arr.e x j)
 | 0, _ => by simp only [Arr.c, toV]; rfl
 | 1, _ => by simp only [Arr.c, toV]; rfl
 | 2, _ => by simp only [Arr.c, toV]; rfl
 | 3, _ => by simp only [Arr.c, toV]; rfl
 | 4, _ => by simp only [Arr.c, toV]; rfl
 | n + 5, h => absurd h (by omega)
theorem Arr.c_dat (x : Arr) : ∀ j, (Arr.c x j).dat = true
 | 0 => rfl
 | 1 => rfl
 | 2 => rfl
 | 3 => rfl
 | 4 => rfl
 | n + 5 => rfl
theorem Arr.s_ok (x : Arr) (j : Nat) (v : EV) (y : Arr) (h : Arr.s x j v = some y) : (∀ len, Wk (toV len v) (toV len (Arr.c y j))) /\ ∀ j', j' ≠ j -> Arr.c y j' = Arr.c x j' := by
 match j with
 | 0 =>
  simp only [Arr.s] at h
  split at h
  ·rename_i a ha
   injection h with h
   subst h
   refine ⟨set0_ok ha, fun j' hj => ?_⟩
   match j', hj with
   | 0, hj => exact absurd rfl hj
   | 1, hj => exact rfl
   | 2, hj => exact rfl
   | 3, hj => exact rfl
   | 4, hj => exact rfl
   | n + 5, _ => rfl
  ·cases h
 | 1 =>
  simp only [Arr.s] at h
  split at h
  ·rename_i a ha
   injection h with h
   subst h
   refine ⟨set0_ok ha, fun j' hj => ?_⟩
   match j', hj with
   | 0, hj => exact rfl
   | 1, hj => exact absurd rfl hj
   | 2, hj => exact rfl
   | 3, hj => exact rfl
   | 4, hj => exact rfl
   | n + 5, _ => rfl
  ·cases h
 | 2 =>
  simp only [Arr.s] at h
  split at h
  ·rename_i a ha
   injection h with h
   subst h
   refine ⟨set0_ok ha, fun j' hj => ?_⟩
   match j', hj with
   | 0, hj => exact rfl
   | 1, hj => exact rfl
   | 2, hj => exact absurd rfl hj
   | 3, hj => exact rfl
   | 4, hj => exact rfl
   | n + 5, _ => rfl
  ·cases h
 | 3 =>
  simp only [Arr.s] at h
  split at h
  ·rename_i a ha
   injection h with h
   subst h
   refine ⟨set0_ok ha, fun j' hj => ?_⟩
   match j', hj with
   | 0, hj => exact rfl
   | 1, hj => exact rfl
   | 2, hj => exact rfl
   | 3, hj => exact absurd rfl hj
   | 4, hj => exact rfl
   | n + 5, _ => rfl
  ·cases h
 | 4 =>
  simp only [Arr.s] at h
  split at h
  ·rename_i a ha
   injection h with h
   subst h
   refine ⟨set0_ok ha, fun j' hj => ?_⟩
   match j', hj with
   | 0, hj => exact rfl
   | 1, hj => exact rfl
   | 2, hj => exact rfl
   | 3, hj => exact rfl
   | 4, hj => exact absurd rfl hj
   | n + 5, _ => rfl
  ·cases h
 | n + 5 => simp [Arr.s] at h
theorem Arr.m_ok (l : List EV) (y : Arr) (h : Arr.m l = some y) : l.length = 5 /\ ∀ j, j < 5 -> ∀ len, Wk (toVs len l j) (toV len (Arr.c y j)) := by
 unfold Arr.m at h
 split at h
 ·split at h
  ·rename_i h0 h1 h2 h3 h4
   injection h with h
   subst h
   refine ⟨rfl, fun j hj len => ?_⟩
   match j, hj with
   | 0, _ => simp only [toVs]; exact set0_ok h0 len
   | 1, _ => simp only [toVs]; exact set0_ok h1 len
   | 2, _ => simp only [toVs]; exact set0_ok h2 len
   | 3, _ => simp only [toVs]; exact set0_ok h3 len
   | 4, _ => simp only [toVs]; exact set0_ok h4 len
   | n + 5, h => exact absurd h (by omega)
  ·cases h
 ·cases h
def Strm.c (x : Strm) : Nat -> EV
 | 0 => .s (x.name)
 | 1 => .i .i64 (x.width)
 | 2 => .b (x.out)
 | _ => .un
def Strm.s (x : Strm) (j : Nat) (v : EV) : Option Strm := match j with
 | 0 => match set0 (.str) v with
  | some y => some { x with name := y }
  | none => none
 | 1 => match set0 (.int .i64) v with
  | some y => some { x with width := y }
  | none => none
 | 2 => match set0 (.bool) v with
  | some y => some { x with out := y }
  | none => none
 | _ => none
def Strm.m : List EV -> Option Strm
 | [a0, a1, a2] => match set0 (.str) a0, set0 (.int .i64) a1, set0 (.bool) a2 with
  | some y0, some y1, some y2 => some ⟨y0, y1, y2⟩
  | _, _, _ => none
 | _ => none
theorem Strm.c_ok (x : Strm) (len : Len) : ∀ j, j < 3 -> toV len (Strm.c x j) = .t (Strm.e x j)
 | 0, _ => by simp only [Strm.c, toV]; rfl
 | 1, _ => by simp only [Strm.c, toV]; rfl
 | 2, _ => by simp only [Strm.c, toV]; rfl
 | n + 3, h => absurd h (by omega)
theorem Strm.c_dat (x : Strm) : ∀ j, (Strm.c x j).dat = true
 | 0 => rfl
 | 1 => rfl
 | 2 => rfl
 | n + 3 => rfl
theorem Strm.s_ok (x : Strm) (j : Nat) (v : EV) (y : Strm) (h : Strm.s x j v = some y) : (∀ len, Wk (toV len v) (toV len (Strm.c y j))) /\ ∀ j', j' ≠ j -> Strm.c y j' = Strm.c x j' := by
 match j with
 | 0 =>
  simp only [Strm.s] at h
  split at h
  ·rename_i a ha
   injection h with h
   subst h
   refine ⟨set0_ok ha, fun j' hj => ?_⟩
   match j', hj with
   | 0, hj => exact absurd rfl hj
   | 1, hj => exact rfl
   | 2, hj => exact rfl
   | n + 3, _ => rfl
  ·cases h
 | 1 =>
  simp only [Strm.s] at h
  split at h
  ·rename_i a ha
   injection h with h
   subst h
   refine ⟨set0_ok ha, fun j' hj => ?_⟩
   match j', hj with
   | 0, hj => exact rfl
   | 1, hj => exact absurd rfl hj
   | 2, hj => exact rfl
   | n + 3, _ => rfl
  ·cases h
 | 2 =>
  simp only [Strm.s] at h
  split at h
  ·rename_i a ha
   injection h with h
   subst h
   refine ⟨set0_ok ha, fun j' hj => ?_⟩
   match j', hj with
   | 0, hj => exact rfl
   | 1, hj => exact rfl
   | 2, hj => exact absurd rfl hj
   | n + 3, _ => rfl
  ·cases h
 | n + 3 => simp [Strm.s] at h
theorem Strm.m_ok (l : List EV) (y : Strm) (h : Strm.m l = some y) : l.length = 3 /\ ∀ j, j < 3 -> ∀ len, Wk (toVs len l j) (toV len (Strm.c y j)) := by
 unfold Strm.m at h
 split at h
 ·split at h
  ·rename_i h0 h1 h2
   injection h with h
   subst h
   refine ⟨rfl, fun j hj len => ?_⟩
   match j, hj with
   | 0, _ => simp only [toVs]; exact set0_ok h0 len
   | 1, _ => simp only [toVs]; exact set0_ok h1 len
   | 2, _ => simp only [toVs]; exact set0_ok h2 len
   | n + 3, h => exact absurd h (by omega)
  ·cases h
 ·cases h
def Fn.c (x : Fn) : Nat -> EV
 | 0 => .s (x.name)
 | 1 => .fz (.int .i64) (x.widths)
 | 2 => .fz (.st 4) (x.arrays)
 | 3 => .fz (.st 5) (x.streams)
 | 4 => .fz (.int .i64) (x.rets)
 | 5 => .fz (.st 3) (x.blocks)
 | _ => .un
def Fn.s (x : Fn) (j : Nat) (v : EV) : Option Fn := match j with
 | 0 => match set0 (.str) v with
  | some y => some { x with name := y }
  | none => none
 | 1 => match set0 (.sl (.int .i64)) v with
  | some y => some { x with widths := y }
  | none => none
 | 2 => match set0 (.sl (.st 4)) v with
  | some y => some { x with arrays := y }
  | none => none
 | 3 => match set0 (.sl (.st 5)) v with
  | some y => some { x with streams := y }
  | none => none
 | 4 => match set0 (.sl (.int .i64)) v with
  | some y => some { x with rets := y }
  | none => none
 | 5 => match set0 (.sl (.st 3)) v with
  | some y => some { x with blocks := y }
  | none => none
 | _ => none
def Fn.m : List EV -> Option Fn
 | [a0, a1, a2, a3, a4, a5] => match set0 (.str) a0, set0 (.sl (.int .i64)) a1, set0 (.sl (.st 4)) a2, set0 (.sl (.st 5)) a3, set0 (.sl (.int .i64)) a4, set0 (.sl (.st 3)) a5 with
  | some y0, some y1, some y2, some y3, some y4, some y5 => some ⟨y0, y1, y2, y3, y4, y5⟩
  | _, _, _, _, _, _ => none
 | _ => none
theorem Fn.c_ok (x : Fn) (len : Len) : ∀ j, j < 6 -> toV len (Fn.c x j) = .t (Fn.e x j)
 | 0, _ => by simp only [Fn.c, toV]; rfl
 | 1, _ => by simp only [Fn.c, toV]; rfl
 | 2, _ => by simp only [Fn.c, toV]; rfl
 | 3, _ => by simp only [Fn.c, toV]; rfl
 | 4, _ => by simp only [Fn.c, toV]; rfl
 | 5, _ => by simp only [Fn.c, toV]; rfl
 | n + 6, h => absurd h (by omega)
theorem Fn.c_dat (x : Fn) : ∀ j, (Fn.c x j).dat = true
 | 0 => rfl
 | 1 => rfl
 | 2 => rfl
 | 3 => rfl
 | 4 => rfl
 | 5 => rfl
 | n + 6 => rfl
theorem Fn.s_ok (x : Fn) (j : Nat) (v : EV) (y : Fn) (h : Fn.s x j v = some y) : (∀ len, Wk (toV len v) (toV len (Fn.c y j))) /\ ∀ j', j' ≠ j -> Fn.c y j' = Fn.c x j' := by
 match j with
 | 0 =>
  simp only [Fn.s] at h
  split at h
  ·rename_i a ha
   injection h with h
   subst h
   refine ⟨set0_ok ha, fun j' hj => ?_⟩
   match j', hj with
   | 0, hj => exact absurd rfl hj
   | 1, hj => exact rfl
   | 2, hj => exact rfl
   | 3, hj => exact rfl
   | 4, hj => exact rfl
   | 5, hj => exact rfl
   | n + 6, _ => rfl
  ·cases h
 | 1 =>
  simp only [Fn.s] at h
  split at h
  ·rename_i a ha
   injection h with h
   subst h
   refine ⟨set0_ok ha, fun j' hj => ?_⟩
   match j', hj with
   | 0, hj => exact rfl
   | 1, hj => exact absurd rfl hj
   | 2, hj => exact rfl
   | 3, hj => exact rfl
   | 4, hj => exact rfl
   | 5, hj => exact rfl
   | n + 6, _ => rfl
  ·cases h
 | 2 =>
  simp only [Fn.s] at h
  split at h
  ·rename_i a ha
   injection h with h
   subst h
   refine ⟨set0_ok ha, fun j' hj => ?_⟩
   match j', hj with
   | 0, hj => exact rfl
   | 1, hj => exact rfl
   | 2, hj => exact absurd rfl hj
   | 3, hj => exact rfl
   | 4, hj => exact rfl
   | 5, hj => exact rfl
   | n + 6, _ => rfl
  ·cases h
 | 3 =>
  simp only [Fn.s] at h
  split at h
  ·rename_i a ha
   injection h with h
   subst h
   refine ⟨set0_ok ha, fun j' hj => ?_⟩
   match j', hj with
   | 0, hj => exact rfl
   | 1, hj => exact rfl
   | 2, hj => exact rfl
   | 3, hj => exact absurd rfl hj
   | 4, hj => exact rfl
   | 5, hj => exact rfl
   | n + 6, _ => rfl
  ·cases h
 | 4 =>
  simp only [Fn.s] at h
  split at h
  ·rename_i a ha
   injection h with h
   subst h
   refine ⟨set0_ok ha, fun j' hj => ?_⟩
   match j', hj with
   | 0, hj => exact rfl
   | 1, hj => exact rfl
   | 2, hj => exact rfl
   | 3, hj => exact rfl
   | 4, hj => exact absurd rfl hj
   | 5, hj => exact rfl
   | n + 6, _ => rfl
  ·cases h
 | 5 =>
  simp only [Fn.s] at h
  split at h
  ·rename_i a ha
   injection h with h
   subst h
   refine ⟨set0_ok ha, fun j' hj => ?_⟩
   match j', hj with
   | 0, hj => exact rfl
   | 1, hj => exact rfl
   | 2, hj => exact rfl
   | 3, hj => exact rfl
   | 4, hj => exact rfl
   | 5, hj => exact absurd rfl hj
   | n + 6, _ => rfl
  ·cases h
 | n + 6 => simp [Fn.s] at h
theorem Fn.m_ok (l : List EV) (y : Fn) (h : Fn.m l = some y) : l.length = 6 /\ ∀ j, j < 6 -> ∀ len, Wk (toVs len l j) (toV len (Fn.c y j)) := by
 unfold Fn.m at h
 split at h
 ·split at h
  ·rename_i h0 h1 h2 h3 h4 h5
   injection h with h
   subst h
   refine ⟨rfl, fun j hj len => ?_⟩
   match j, hj with
   | 0, _ => simp only [toVs]; exact set0_ok h0 len
   | 1, _ => simp only [toVs]; exact set0_ok h1 len
   | 2, _ => simp only [toVs]; exact set0_ok h2 len
   | 3, _ => simp only [toVs]; exact set0_ok h3 len
   | 4, _ => simp only [toVs]; exact set0_ok h4 len
   | 5, _ => simp only [toVs]; exact set0_ok h5 len
   | n + 6, h => exact absurd h (by omega)
  ·cases h
 ·cases h
def Typ.c (x : Typ) : Nat -> EV
 | 0 => .i .i64 (x.width)
 | 1 => .b (x.signed)
 | _ => .un
def Typ.s (x : Typ) (j : Nat) (v : EV) : Option Typ := match j with
 | 0 => match set0 (.int .i64) v with
  | some y => some { x with width := y }
  | none => none
 | 1 => match set0 (.bool) v with
  | some y => some { x with signed := y }
  | none => none
 | _ => none
def Typ.m : List EV -> Option Typ
 | [a0, a1] => match set0 (.int .i64) a0, set0 (.bool) a1 with
  | some y0, some y1 => some ⟨y0, y1⟩
  | _, _ => none
 | _ => none
theorem Typ.c_ok (x : Typ) (len : Len) : ∀ j, j < 2 -> toV len (Typ.c x j) = .t (Typ.e x j)
 | 0, _ => by simp only [Typ.c, toV]; rfl
 | 1, _ => by simp only [Typ.c, toV]; rfl
 | n + 2, h => absurd h (by omega)
theorem Typ.c_dat (x : Typ) : ∀ j, (Typ.c x j).dat = true
 | 0 => rfl
 | 1 => rfl
 | n + 2 => rfl
theorem Typ.s_ok (x : Typ) (j : Nat) (v : EV) (y : Typ) (h : Typ.s x j v = some y) : (∀ len, Wk (toV len v) (toV len (Typ.c y j))) /\ ∀ j', j' ≠ j -> Typ.c y j' = Typ.c x j' := by
 match j with
 | 0 =>
  simp only [Typ.s] at h
  split at h
  ·rename_i a ha
   injection h with h
   subst h
   refine ⟨set0_ok ha, fun j' hj => ?_⟩
   match j', hj with
   | 0, hj => exact absurd rfl hj
   | 1, hj => exact rfl
   | n + 2, _ => rfl
  ·cases h
 | 1 =>
  simp only [Typ.s] at h
  split at h
  ·rename_i a ha
   injection h with h
   subst h
   refine ⟨set0_ok ha, fun j' hj => ?_⟩
   match j', hj with
   | 0, hj => exact rfl
   | 1, hj => exact absurd rfl hj
   | n + 2, _ => rfl
  ·cases h
 | n + 2 => simp [Typ.s] at h
theorem Typ.m_ok (l : List EV) (y : Typ) (h : Typ.m l = some y) : l.length = 2 /\ ∀ j, j < 2 -> ∀ len, Wk (toVs len l j) (toV len (Typ.c y j)) := by
 unfold Typ.m at h
 split at h
 ·split at h
  ·rename_i h0 h1
   injection h with h
   subst h
   refine ⟨rfl, fun j hj len => ?_⟩
   match j, hj with
   | 0, _ => simp only [toVs]; exact set0_ok h0 len
   | 1, _ => simp only [toVs]; exact set0_ok h1 len
   | n + 2, h => exact absurd h (by omega)
  ·cases h
 ·cases h
def InstM.c (x : InstM) : Nat -> Cell
 | 0 => .ev (.i .i64 (x.op))
 | 1 => .ev (.i .i64 (x.dest))
 | 2 => match x.args with
  | .own l => .own 3 (.int .i64) l
  | .fz l => .ev (.fz (.int .i64) l)
 | 3 => .ev (.i .u64 (x.num))
 | 4 => .ev (.i .i64 (x.mem))
 | _ => .ev .un
def InstM.s (x : InstM) (j : Nat) (v : EV) : Option InstM := match j with
 | 0 => match set0 (.int .i64) v with
  | some y => some { x with op := y }
  | none => none
 | 1 => match set0 (.int .i64) v with
  | some y => some { x with dest := y }
  | none => none
 | 3 => match set0 (.int .u64) v with
  | some y => some { x with num := y }
  | none => none
 | 4 => match set0 (.int .i64) v with
  | some y => some { x with mem := y }
  | none => none
 | _ => none
def InstM.oS (x : InstM) (j : Nat) (t : TypeId) (e : Ty) (l : List e.D) : Option InstM := match j with
 | 2 => bif Nat.beq t 3 then (match castF List e (.int .i64) l with
  | some y => some { x with args := .own y }
  | none => none) else none
 | _ => none
def InstM.k (x : InstM) (j : Nat) (t : TypeId) (e : Ty) (l : List e.D) : Option InstM := match InstM.c x j with
 | .own _ _ _ => InstM.oS x j t e l
 | .ev _ => none
def InstM.oT : Nat -> Option (TypeId × Ty)
 | 2 => some (3, (.int .i64))
 | _ => none
def InstM.fT : Nat -> Option Ty
 | 2 => some (.int .i64)
 | _ => none
def InstM.oG (x : InstM) (j : Nat) (e : Ty) : Option (List e.D) := match j with
 | 2 => (match castF (fun X => Option (List X)) (.int .i64) e (Sp.ownL x.args) with
  | some o => o
  | none => none)
 | _ => none
def InstM.fG (x : InstM) (j : Nat) (e : Ty) : Option (List e.D) := match j with
 | 2 => (match castF (fun X => Option (List X)) (.int .i64) e (Sp.frzL x.args) with
  | some o => o
  | none => none)
 | _ => none
theorem InstM.s_ok (x : InstM) (j : Nat) (v : EV) (y : InstM) (h : InstM.s x j v = some y) : (∃ u0, InstM.c x j = .ev u0) /\ (∃ u, InstM.c y j = .ev u /\ ∀ len, Wk (toV len v) (toV len u)) /\ ∀ j', j' ≠ j -> InstM.c y j' = InstM.c x j' := by
 match j with
 | 0 =>
  simp only [InstM.s] at h
  split at h
  ·rename_i a ha
   injection h with h
   subst h
   refine ⟨⟨_, rfl⟩, ⟨_, rfl, set0_ok ha⟩, fun j' hj => ?_⟩
   match j', hj with
   | 0, hj => exact absurd rfl hj
   | 1, hj => exact rfl
   | 2, hj => exact rfl
   | 3, hj => exact rfl
   | 4, hj => exact rfl
   | n + 5, _ => rfl
  ·cases h
 | 1 =>
  simp only [InstM.s] at h
  split at h
  ·rename_i a ha
   injection h with h
   subst h
   refine ⟨⟨_, rfl⟩, ⟨_, rfl, set0_ok ha⟩, fun j' hj => ?_⟩
   match j', hj with
   | 0, hj => exact rfl
   | 1, hj => exact absurd rfl hj
   | 2, hj => exact rfl
   | 3, hj => exact rfl
   | 4, hj => exact rfl
   | n + 5, _ => rfl
  ·cases h
 | 2 => simp [InstM.s] at h
 | 3 =>
  simp only [InstM.s] at h
  split at h
  ·rename_i a ha
   injection h with h
   subst h
   refine ⟨⟨_, rfl⟩, ⟨_, rfl, set0_ok ha⟩, fun j' hj => ?_⟩
   match j', hj with
   | 0, hj => exact rfl
   | 1, hj => exact rfl
   | 2, hj => exact rfl
   | 3, hj => exact absurd rfl hj
   | 4, hj => exact rfl
   | n + 5, _ => rfl
  ·cases h
 | 4 =>
  simp only [InstM.s] at h
  split at h
  ·rename_i a ha
   injection h with h
   subst h
   refine ⟨⟨_, rfl⟩, ⟨_, rfl, set0_ok ha⟩, fun j' hj => ?_⟩
   match j', hj with
   | 0, hj => exact rfl
   | 1, hj => exact rfl
   | 2, hj => exact rfl
   | 3, hj => exact rfl
   | 4, hj => exact absurd rfl hj
   | n + 5, _ => rfl
  ·cases h
 | n + 5 => simp [InstM.s] at h
theorem InstM.oS_ok (x : InstM) (j : Nat) (t : TypeId) (e : Ty) (l : List e.D) (y : InstM) (h : InstM.oS x j t e l = some y) : InstM.c y j = .own t e l /\ ∀ j', j' ≠ j -> InstM.c y j' = InstM.c x j' := by
 match j with
 | 0 => simp [InstM.oS] at h
 | 1 => simp [InstM.oS] at h
 | 2 =>
  simp only [InstM.oS] at h
  cases hb : Nat.beq t 3 with
  | false => rw [hb] at h; cases h
  | true =>
   rw [hb] at h
   obtain rfl := Nat.eq_of_beq_eq_true hb
   simp only [cond_true] at h
   split at h
   ·rename_i a ha
    injection h with h
    subst h
    obtain ⟨rfl, ha⟩ := castL_ok ha
    obtain rfl := eq_of_heq ha
    refine ⟨rfl, fun j' hj => ?_⟩
    match j', hj with
    | 0, hj => exact rfl
    | 1, hj => exact rfl
    | 2, hj => exact absurd rfl hj
    | 3, hj => exact rfl
    | 4, hj => exact rfl
    | n + 5, _ => rfl
   ·cases h
 | 3 => simp [InstM.oS] at h
 | 4 => simp [InstM.oS] at h
 | n + 5 => simp [InstM.oS] at h
theorem InstM.oG_ok (x : InstM) (j : Nat) (t : TypeId) (e : Ty) (l : List e.D) (h1 : InstM.oT j = some (t, e)) (h2 : InstM.oG x j e = some l) : InstM.c x j = .own t e l := by
 match j with
 | 0 => simp [InstM.oT] at h1
 | 1 => simp [InstM.oT] at h1
 | 2 =>
  injection h1 with h1
  injection h1 with h1 h3
  subst h1; subst h3
  simp only [InstM.oG, castF_same, InstM.c] at h2 ⊢
  cases hx : x.args with
  | own l' => rw [hx] at h2; injection h2 with h2; subst h2; rfl
  | fz l' => rw [hx] at h2; cases h2
 | 3 => simp [InstM.oT] at h1
 | 4 => simp [InstM.oT] at h1
 | n + 5 => simp [InstM.oT] at h1
theorem InstM.fG_ok (x : InstM) (j : Nat) (e : Ty) (l : List e.D) (h1 : InstM.fT j = some e) (h2 : InstM.fG x j e = some l) : InstM.c x j = .ev (.fz e l) := by
 match j with
 | 0 => simp [InstM.fT] at h1
 | 1 => simp [InstM.fT] at h1
 | 2 =>
  injection h1 with h1
  subst h1
  simp only [InstM.fG, castF_same, InstM.c] at h2 ⊢
  cases hx : x.args with
  | fz l' => rw [hx] at h2; injection h2 with h2; subst h2; rfl
  | own l' => rw [hx] at h2; cases h2
 | 3 => simp [InstM.fT] at h1
 | 4 => simp [InstM.fT] at h1
 | n + 5 => simp [InstM.fT] at h1
theorem InstM.same (x : InstM) (j : Nat) (t : TypeId) (e : Ty) (l : List e.D) (y : InstM) (t0 : TypeId) (e0 : Ty) (l0 : List e0.D) (h : InstM.oS x j t e l = some y) (hc : InstM.c x j = .own t0 e0 l0) : ∃ l1, InstM.c x j = .own t e l1 := by
 match j with
 | 0 => simp [InstM.oS] at h
 | 1 => simp [InstM.oS] at h
 | 2 =>
  simp only [InstM.oS] at h
  cases hb : Nat.beq t 3 with
  | false => rw [hb] at h; cases h
  | true =>
   rw [hb] at h
   obtain rfl := Nat.eq_of_beq_eq_true hb
   simp only [cond_true] at h
   split at h
   ·rename_i a ha
    obtain ⟨rfl, _⟩ := castL_ok ha
    simp only [InstM.c] at hc ⊢
    cases hx : x.args with
    | own l1 => exact ⟨l1, rfl⟩
    | fz l1 => rw [hx] at hc; cases hc
   ·cases h
 | 3 => simp [InstM.oS] at h
 | 4 => simp [InstM.oS] at h
 | n + 5 => simp [InstM.oS] at h
theorem InstM.z_own (j : Nat) (t : TypeId) (e : Ty) (l : List e.D) (h : InstM.c InstM.z j = .own t e l) : l = [] := by
 match j with
 | 0 => cases h
 | 1 => cases h
 | 2 => cases h
 | 3 => cases h
 | 4 => cases h
 | n + 5 => cases h
theorem InstM.c_dat (x : InstM) (j : Nat) (u : EV) (h : InstM.c x j = .ev u) : u.dat = true := by
 match j with
 | 0 => injection h with h; subst h; rfl
 | 1 => injection h with h; subst h; rfl
 | 2 =>
  simp only [InstM.c] at h
  cases hx : x.args <;> rw [hx] at h
  ·cases h
  ·injection h with h; subst h; rfl
 | 3 => injection h with h; subst h; rfl
 | 4 => injection h with h; subst h; rfl
 | n + 5 => injection h with h; subst h; rfl
def EdgeM.c (x : EdgeM) : Nat -> Cell
 | 0 => .ev (.i .i64 (x.block))
 | 1 => match x.args with
  | .own l => .own 3 (.int .i64) l
  | .fz l => .ev (.fz (.int .i64) l)
 | _ => .ev .un
def EdgeM.s (x : EdgeM) (j : Nat) (v : EV) : Option EdgeM := match j with
 | 0 => match set0 (.int .i64) v with
  | some y => some { x with block := y }
  | none => none
 | _ => none
def EdgeM.oS (x : EdgeM) (j : Nat) (t : TypeId) (e : Ty) (l : List e.D) : Option EdgeM := match j with
 | 1 => bif Nat.beq t 3 then (match castF List e (.int .i64) l with
  | some y => some { x with args := .own y }
  | none => none) else none
 | _ => none
def EdgeM.k (x : EdgeM) (j : Nat) (t : TypeId) (e : Ty) (l : List e.D) : Option EdgeM := match EdgeM.c x j with
 | .own _ _ _ => EdgeM.oS x j t e l
 | .ev _ => none
def EdgeM.oT : Nat -> Option (TypeId × Ty)
 | 1 => some (3, (.int .i64))
 | _ => none
def EdgeM.fT : Nat -> Option Ty
 | 1 => some (.int .i64)
 | _ => none
def EdgeM.oG (x : EdgeM) (j : Nat) (e : Ty) : Option (List e.D) := match j with
 | 1 => (match castF (fun X => Option (List X)) (.int .i64) e (Sp.ownL x.args) with
  | some o => o
  | none => none)
 | _ => none
def EdgeM.fG (x : EdgeM) (j : Nat) (e : Ty) : Option (List e.D) := match j with
 | 1 => (match castF (fun X => Option (List X)) (.int .i64) e (Sp.frzL x.args) with
  | some o => o
  | none => none)
 | _ => none
theorem EdgeM.s_ok (x : EdgeM) (j : Nat) (v : EV) (y : EdgeM) (h : EdgeM.s x j v = some y) : (∃ u0, EdgeM.c x j = .ev u0) /\ (∃ u, EdgeM.c y j = .ev u /\ ∀ len, Wk (toV len v) (toV len u)) /\ ∀ j', j' ≠ j -> EdgeM.c y j' = EdgeM.c x j' := by
 match j with
 | 0 =>
  simp only [EdgeM.s] at h
  split at h
  ·rename_i a ha
   injection h with h
   subst h
   refine ⟨⟨_, rfl⟩, ⟨_, rfl, set0_ok ha⟩, fun j' hj => ?_⟩
   match j', hj with
   | 0, hj => exact absurd rfl hj
   | 1, hj => exact rfl
   | n + 2, _ => rfl
  ·cases h
 | 1 => simp [EdgeM.s] at h
 | n + 2 => simp [EdgeM.s] at h
theorem EdgeM.oS_ok (x : EdgeM) (j : Nat) (t : TypeId) (e : Ty) (l : List e.D) (y : EdgeM) (h : EdgeM.oS x j t e l = some y) : EdgeM.c y j = .own t e l /\ ∀ j', j' ≠ j -> EdgeM.c y j' = EdgeM.c x j' := by
 match j with
 | 0 => simp [EdgeM.oS] at h
 | 1 =>
  simp only [EdgeM.oS] at h
  cases hb : Nat.beq t 3 with
  | false => rw [hb] at h; cases h
  | true =>
   rw [hb] at h
   obtain rfl := Nat.eq_of_beq_eq_true hb
   simp only [cond_true] at h
   split at h
   ·rename_i a ha
    injection h with h
    subst h
    obtain ⟨rfl, ha⟩ := castL_ok ha
    obtain rfl := eq_of_heq ha
    refine ⟨rfl, fun j' hj => ?_⟩
    match j', hj with
    | 0, hj => exact rfl
    | 1, hj => exact absurd rfl hj
    | n + 2, _ => rfl
   ·cases h
 | n + 2 => simp [EdgeM.oS] at h
theorem EdgeM.oG_ok (x : EdgeM) (j : Nat) (t : TypeId) (e : Ty) (l : List e.D) (h1 : EdgeM.oT j = some (t, e)) (h2 : EdgeM.oG x j e = some l) : EdgeM.c x j = .own t e l := by
 match j with
 | 0 => simp [EdgeM.oT] at h1
 | 1 =>
  injection h1 with h1
  injection h1 with h1 h3
  subst h1; subst h3
  simp only [EdgeM.oG, castF_same, EdgeM.c] at h2 ⊢
  cases hx : x.args with
  | own l' => rw [hx] at h2; injection h2 with h2; subst h2; rfl
  | fz l' => rw [hx] at h2; cases h2
 | n + 2 => simp [EdgeM.oT] at h1
theorem EdgeM.fG_ok (x : EdgeM) (j : Nat) (e : Ty) (l : List e.D) (h1 : EdgeM.fT j = some e) (h2 : EdgeM.fG x j e = some l) : EdgeM.c x j = .ev (.fz e l) := by
 match j with
 | 0 => simp [EdgeM.fT] at h1
 | 1 =>
  injection h1 with h1
  subst h1
  simp only [EdgeM.fG, castF_same, EdgeM.c] at h2 ⊢
  cases hx : x.args with
  | fz l' => rw [hx] at h2; injection h2 with h2; subst h2; rfl
  | own l' => rw [hx] at h2; cases h2
 | n + 2 => simp [EdgeM.fT] at h1
theorem EdgeM.same (x : EdgeM) (j : Nat) (t : TypeId) (e : Ty) (l : List e.D) (y : EdgeM) (t0 : TypeId) (e0 : Ty) (l0 : List e0.D) (h : EdgeM.oS x j t e l = some y) (hc : EdgeM.c x j = .own t0 e0 l0) : ∃ l1, EdgeM.c x j = .own t e l1 := by
 match j with
 | 0 => simp [EdgeM.oS] at h
 | 1 =>
  simp only [EdgeM.oS] at h
  cases hb : Nat.beq t 3 with
  | false => rw [hb] at h; cases h
  | true =>
   rw [hb] at h
   obtain rfl := Nat.eq_of_beq_eq_true hb
   simp only [cond_true] at h
   split at h
   ·rename_i a ha
    obtain ⟨rfl, _⟩ := castL_ok ha
    simp only [EdgeM.c] at hc ⊢
    cases hx : x.args with
    | own l1 => exact ⟨l1, rfl⟩
    | fz l1 => rw [hx] at hc; cases hc
   ·cases h
 | n + 2 => simp [EdgeM.oS] at h
theorem EdgeM.z_own (j : Nat) (t : TypeId) (e : Ty) (l : List e.D) (h : EdgeM.c EdgeM.z j = .own t e l) : l = [] := by
 match j with
 | 0 => cases h
 | 1 => cases h
 | n + 2 => cases h
theorem EdgeM.c_dat (x : EdgeM) (j : Nat) (u : EV) (h : EdgeM.c x j = .ev u) : u.dat = true := by
 match j with
 | 0 => injection h with h; subst h; rfl
 | 1 =>
  simp only [EdgeM.c] at h
  cases hx : x.args <;> rw [hx] at h
  ·cases h
  ·injection h with h; subst h; rfl
 | n + 2 => injection h with h; subst h; rfl
def TermM.c (x : TermM) : Nat -> Cell
 | 0 => .ev (.i .i64 (x.kind))
 | 1 => .ev (.i .i64 (x.cond))
 | 2 => match x.to with
  | .own l => .own 51 (.st 9) l
  | .fz l => .ev (.fz (.st 1) l)
 | 3 => match x.rets with
  | .own l => .own 3 (.int .i64) l
  | .fz l => .ev (.fz (.int .i64) l)
 | _ => .ev .un
def TermM.s (x : TermM) (j : Nat) (v : EV) : Option TermM := match j with
 | 0 => match set0 (.int .i64) v with
  | some y => some { x with kind := y }
  | none => none
 | 1 => match set0 (.int .i64) v with
  | some y => some { x with cond := y }
  | none => none
 | _ => none
def TermM.oS (x : TermM) (j : Nat) (t : TypeId) (e : Ty) (l : List e.D) : Option TermM := match j with
 | 2 => bif Nat.beq t 51 then (match castF List e (.st 9) l with
  | some y => some { x with to := .own y }
  | none => none) else none
 | 3 => bif Nat.beq t 3 then (match castF List e (.int .i64) l with
  | some y => some { x with rets := .own y }
  | none => none) else none
 | _ => none
def TermM.k (x : TermM) (j : Nat) (t : TypeId) (e : Ty) (l : List e.D) : Option TermM := match TermM.c x j with
 | .own _ _ _ => TermM.oS x j t e l
 | .ev _ => none
def TermM.oT : Nat -> Option (TypeId × Ty)
 | 2 => some (51, (.st 9))
 | 3 => some (3, (.int .i64))
 | _ => none
def TermM.fT : Nat -> Option Ty
 | 2 => some (.st 1)
 | 3 => some (.int .i64)
 | _ => none
def TermM.oG (x : TermM) (j : Nat) (e : Ty) : Option (List e.D) := match j with
 | 2 => (match castF (fun X => Option (List X)) (.st 9) e (Sp.ownL x.to) with
  | some o => o
  | none => none)
 | 3 => (match castF (fun X => Option (List X)) (.int .i64) e (Sp.ownL x.rets) with
  | some o => o
  | none => none)
 | _ => none
def TermM.fG (x : TermM) (j : Nat) (e : Ty) : Option (List e.D) := match j with
 | 2 => (match castF (fun X => Option (List X)) (.st 1) e (Sp.frzL x.to) with
  | some o => o
  | none => none)
 | 3 => (match castF (fun X => Option (List X)) (.int .i64) e (Sp.frzL x.rets) with
  | some o => o
  | none => none)
 | _ => none
theorem TermM.s_ok (x : TermM) (j : Nat) (v : EV) (y : TermM) (h : TermM.s x j v = some y) : (∃ u0, TermM.c x j = .ev u0) /\ (∃ u, TermM.c y j = .ev u /\ ∀ len, Wk (toV len v) (toV len u)) /\ ∀ j', j' ≠ j -> TermM.c y j' = TermM.c x j' := by
 match j with
 | 0 =>
  simp only [TermM.s] at h
  split at h
  ·rename_i a ha
   injection h with h
   subst h
   refine ⟨⟨_, rfl⟩, ⟨_, rfl, set0_ok ha⟩, fun j' hj => ?_⟩
   match j', hj with
   | 0, hj => exact absurd rfl hj
   | 1, hj => exact rfl
   | 2, hj => exact rfl
   | 3, hj => exact rfl
   | n + 4, _ => rfl
  ·cases h
 | 1 =>
  simp only [TermM.s] at h
  split at h
  ·rename_i a ha
   injection h with h
   subst h
   refine ⟨⟨_, rfl⟩, ⟨_, rfl, set0_ok ha⟩, fun j' hj => ?_⟩
   match j', hj with
   | 0, hj => exact rfl
   | 1, hj => exact absurd rfl hj
   | 2, hj => exact rfl
   | 3, hj => exact rfl
   | n + 4, _ => rfl
  ·cases h
 | 2 => simp [TermM.s] at h
 | 3 => simp [TermM.s] at h
 | n + 4 => simp [TermM.s] at h
theorem TermM.oS_ok (x : TermM) (j : Nat) (t : TypeId) (e : Ty) (l : List e.D) (y : TermM) (h : TermM.oS x j t e l = some y) : TermM.c y j = .own t e l /\ ∀ j', j' ≠ j -> TermM.c y j' = TermM.c x j' := by
 match j with
 | 0 => simp [TermM.oS] at h
 | 1 => simp [TermM.oS] at h
 | 2 =>
  simp only [TermM.oS] at h
  cases hb : Nat.beq t 51 with
  | false => rw [hb] at h; cases h
  | true =>
   rw [hb] at h
   obtain rfl := Nat.eq_of_beq_eq_true hb
   simp only [cond_true] at h
   split at h
   ·rename_i a ha
    injection h with h
    subst h
    obtain ⟨rfl, ha⟩ := castL_ok ha
    obtain rfl := eq_of_heq ha
    refine ⟨rfl, fun j' hj => ?_⟩
    match j', hj with
    | 0, hj => exact rfl
    | 1, hj => exact rfl
    | 2, hj => exact absurd rfl hj
    | 3, hj => exact rfl
    | n + 4, _ => rfl
   ·cases h
 | 3 =>
  simp only [TermM.oS] at h
  cases hb : Nat.beq t 3 with
  | false => rw [hb] at h; cases h
  | true =>
   rw [hb] at h
   obtain rfl := Nat.eq_of_beq_eq_true hb
   simp only [cond_true] at h
   split at h
   ·rename_i a ha
    injection h with h
    subst h
    obtain ⟨rfl, ha⟩ := castL_ok ha
    obtain rfl := eq_of_heq ha
    refine ⟨rfl, fun j' hj => ?_⟩
    match j', hj with
    | 0, hj => exact rfl
    | 1, hj => exact rfl
    | 2, hj => exact rfl
    | 3, hj => exact absurd rfl hj
    | n + 4, _ => rfl
   ·cases h
 | n + 4 => simp [TermM.oS] at h
theorem TermM.oG_ok (x : TermM) (j : Nat) (t : TypeId) (e : Ty) (l : List e.D) (h1 : TermM.oT j = some (t, e)) (h2 : TermM.oG x j e = some l) : TermM.c x j = .own t e l := by
 match j with
 | 0 => simp [TermM.oT] at h1
 | 1 => simp [TermM.oT] at h1
 | 2 =>
  injection h1 with h1
  injection h1 with h1 h3
  subst h1; subst h3
  simp only [TermM.oG, castF_same, TermM.c] at h2 ⊢
  cases hx : x.to with
  | own l' => rw [hx] at h2; injection h2 with h2; subst h2; rfl
  | fz l' => rw [hx] at h2; cases h2
 | 3 =>
  injection h1 with h1
  injection h1 with h1 h3
  subst h1; subst h3
  simp only [TermM.oG, castF_same, TermM.c] at h2 ⊢
  cases hx : x.rets with
  | own l' => rw [hx] at h2; injection h2 with h2; subst h2; rfl
  | fz l' => rw [hx] at h2; cases h2
 | n + 4 => simp [TermM.oT] at h1
theorem TermM.fG_ok (x : TermM) (j : Nat) (e : Ty) (l : List e.D) (h1 : TermM.fT j = some e) (h2 : TermM.fG x j e = some l) : TermM.c x j = .ev (.fz e l) := by
 match j with
 | 0 => simp [TermM.fT] at h1
 | 1 => simp [TermM.fT] at h1
 | 2 =>
  injection h1 with h1
  subst h1
  simp only [TermM.fG, castF_same, TermM.c] at h2 ⊢
  cases hx : x.to with
  | fz l' => rw [hx] at h2; injection h2 with h2; subst h2; rfl
  | own l' => rw [hx] at h2; cases h2
 | 3 =>
  injection h1 with h1
  subst h1
  simp only [TermM.fG, castF_same, TermM.c] at h2 ⊢
  cases hx : x.rets with
  | fz l' => rw [hx] at h2; injection h2 with h2; subst h2; rfl
  | own l' => rw [hx] at h2; cases h2
 | n + 4 => simp [TermM.fT] at h1
theorem TermM.same (x : TermM) (j : Nat) (t : TypeId) (e : Ty) (l : List e.D) (y : TermM) (t0 : TypeId) (e0 : Ty) (l0 : List e0.D) (h : TermM.oS x j t e l = some y) (hc : TermM.c x j = .own t0 e0 l0) : ∃ l1, TermM.c x j = .own t e l1 := by
 match j with
 | 0 => simp [TermM.oS] at h
 | 1 => simp [TermM.oS] at h
 | 2 =>
  simp only [TermM.oS] at h
  cases hb : Nat.beq t 51 with
  | false => rw [hb] at h; cases h
  | true =>
   rw [hb] at h
   obtain rfl := Nat.eq_of_beq_eq_true hb
   simp only [cond_true] at h
   split at h
   ·rename_i a ha
    obtain ⟨rfl, _⟩ := castL_ok ha
    simp only [TermM.c] at hc ⊢
    cases hx : x.to with
    | own l1 => exact ⟨l1, rfl⟩
    | fz l1 => rw [hx] at hc; cases hc
   ·cases h
 | 3 =>
  simp only [TermM.oS] at h
  cases hb : Nat.beq t 3 with
  | false => rw [hb] at h; cases h
  | true =>
   rw [hb] at h
   obtain rfl := Nat.eq_of_beq_eq_true hb
   simp only [cond_true] at h
   split at h
   ·rename_i a ha
    obtain ⟨rfl, _⟩ := castL_ok ha
    simp only [TermM.c] at hc ⊢
    cases hx : x.rets with
    | own l1 => exact ⟨l1, rfl⟩
    | fz l1 => rw [hx] at hc; cases hc
   ·cases h
 | n + 4 => simp [TermM.oS] at h
theorem TermM.z_own (j : Nat) (t : TypeId) (e : Ty) (l : List e.D) (h : TermM.c TermM.z j = .own t e l) : l = [] := by
 match j with
 | 0 => cases h
 | 1 => cases h
 | 2 => cases h
 | 3 => cases h
 | n + 4 => cases h
theorem TermM.c_dat (x : TermM) (j : Nat) (u : EV) (h : TermM.c x j = .ev u) : u.dat = true := by
 match j with
 | 0 => injection h with h; subst h; rfl
 | 1 => injection h with h; subst h; rfl
 | 2 =>
  simp only [TermM.c] at h
  cases hx : x.to <;> rw [hx] at h
  ·cases h
  ·injection h with h; subst h; rfl
 | 3 =>
  simp only [TermM.c] at h
  cases hx : x.rets <;> rw [hx] at h
  ·cases h
  ·injection h with h; subst h; rfl
 | n + 4 => injection h with h; subst h; rfl
def BlockM.c (x : BlockM) : Nat -> Cell
 | 0 => match x.params with
  | .own l => .own 3 (.int .i64) l
  | .fz l => .ev (.fz (.int .i64) l)
 | 1 => match x.insts with
  | .own l => .own 46 (.st 8) l
  | .fz l => .ev (.fz (.st 0) l)
 | 2 => .ev (.i .i64 (x.term.kind))
 | 3 => .ev (.i .i64 (x.term.cond))
 | 4 => match x.term.to with
  | .own l => .own 51 (.st 9) l
  | .fz l => .ev (.fz (.st 1) l)
 | 5 => match x.term.rets with
  | .own l => .own 3 (.int .i64) l
  | .fz l => .ev (.fz (.int .i64) l)
 | 6 => .ev (.i .i64 (x.pipeline))
 | 7 => .ev (.i .i64 (x.unroll))
 | 8 => .ev (.i .i64 (x.line))
 | _ => .ev .un
def BlockM.s (x : BlockM) (j : Nat) (v : EV) : Option BlockM := match j with
 | 2 => match set0 (.int .i64) v with
  | some y => some { x with term := { x.term with kind := y } }
  | none => none
 | 3 => match set0 (.int .i64) v with
  | some y => some { x with term := { x.term with cond := y } }
  | none => none
 | 6 => match set0 (.int .i64) v with
  | some y => some { x with pipeline := y }
  | none => none
 | 7 => match set0 (.int .i64) v with
  | some y => some { x with unroll := y }
  | none => none
 | 8 => match set0 (.int .i64) v with
  | some y => some { x with line := y }
  | none => none
 | _ => none
def BlockM.oS (x : BlockM) (j : Nat) (t : TypeId) (e : Ty) (l : List e.D) : Option BlockM := match j with
 | 0 => bif Nat.beq t 3 then (match castF List e (.int .i64) l with
  | some y => some { x with params := .own y }
  | none => none) else none
 | 1 => bif Nat.beq t 46 then (match castF List e (.st 8) l with
  | some y => some { x with insts := .own y }
  | none => none) else none
 | 4 => bif Nat.beq t 51 then (match castF List e (.st 9) l with
  | some y => some { x with term := { x.term with to := .own y } }
  | none => none) else none
 | 5 => bif Nat.beq t 3 then (match castF List e (.int .i64) l with
  | some y => some { x with term := { x.term with rets := .own y } }
  | none => none) else none
 | _ => none
def BlockM.k (x : BlockM) (j : Nat) (t : TypeId) (e : Ty) (l : List e.D) : Option BlockM := match BlockM.c x j with
 | .own _ _ _ => BlockM.oS x j t e l
 | .ev _ => none
def BlockM.oT : Nat -> Option (TypeId × Ty)
 | 0 => some (3, (.int .i64))
 | 1 => some (46, (.st 8))
 | 4 => some (51, (.st 9))
 | 5 => some (3, (.int .i64))
 | _ => none
def BlockM.fT : Nat -> Option Ty
 | 0 => some (.int .i64)
 | 1 => some (.st 0)
 | 4 => some (.st 1)
 | 5 => some (.int .i64)
 | _ => none
def BlockM.oG (x : BlockM) (j : Nat) (e : Ty) : Option (List e.D) := match j with
 | 0 => (match castF (fun X => Option (List X)) (.int .i64) e (Sp.ownL x.params) with
  | some o => o
  | none => none)
 | 1 => (match castF (fun X => Option (List X)) (.st 8) e (Sp.ownL x.insts) with
  | some o => o
  | none => none)
 | 4 => (match castF (fun X => Option (List X)) (.st 9) e (Sp.ownL x.term.to) with
  | some o => o
  | none => none)
 | 5 => (match castF (fun X => Option (List X)) (.int .i64) e (Sp.ownL x.term.rets) with
  | some o => o
  | none => none)
 | _ => none
def BlockM.fG (x : BlockM) (j : Nat) (e : Ty) : Option (List e.D) := match j with
 | 0 => (match castF (fun X => Option (List X)) (.int .i64) e (Sp.frzL x.params) with
  | some o => o
  | none => none)
 | 1 => (match castF (fun X => Option (List X)) (.st 0) e (Sp.frzL x.insts) with
  | some o => o
  | none => none)
 | 4 => (match castF (fun X => Option (List X)) (.st 1) e (Sp.frzL x.term.to) with
  | some o => o
  | none => none)
 | 5 => (match castF (fun X => Option (List X)) (.int .i64) e (Sp.frzL x.term.rets) with
  | some o => o
  | none => none)
 | _ => none
theorem BlockM.s_ok (x : BlockM) (j : Nat) (v : EV) (y : BlockM) (h : BlockM.s x j v = some y) : (∃ u0, BlockM.c x j = .ev u0) /\ (∃ u, BlockM.c y j = .ev u /\ ∀ len, Wk (toV len v) (toV len u)) /\ ∀ j', j' ≠ j -> BlockM.c y j' = BlockM.c x j' := by
 match j with
 | 0 => simp [BlockM.s] at h
 | 1 => simp [BlockM.s] at h
 | 2 =>
  simp only [BlockM.s] at h
  split at h
  ·rename_i a ha
   injection h with h
   subst h
   refine ⟨⟨_, rfl⟩, ⟨_, rfl, set0_ok ha⟩, fun j' hj => ?_⟩
   match j', hj with
   | 0, hj => exact rfl
   | 1, hj => exact rfl
   | 2, hj => exact absurd rfl hj
   | 3, hj => exact rfl
   | 4, hj => exact rfl
   | 5, hj => exact rfl
   | 6, hj => exact rfl
   | 7, hj => exact rfl
   | 8, hj => exact rfl
   | n + 9, _ => rfl
  ·cases h
 | 3 =>
  simp only [BlockM.s] at h
  split at h
  ·rename_i a ha
   injection h with h
   subst h
   refine ⟨⟨_, rfl⟩, ⟨_, rfl, set0_ok ha⟩, fun j' hj => ?_⟩
   match j', hj with
   | 0, hj => exact rfl
   | 1, hj => exact rfl
   | 2, hj => exact rfl
   | 3, hj => exact absurd rfl hj
   | 4, hj => exact rfl
   | 5, hj => exact rfl
   | 6, hj => exact rfl
   | 7, hj => exact rfl
   | 8, hj => exact rfl
   | n + 9, _ => rfl
  ·cases h
 | 4 => simp [BlockM.s] at h
 | 5 => simp [BlockM.s] at h
 | 6 =>
  simp only [BlockM.s] at h
  split at h
  ·rename_i a ha
   injection h with h
   subst h
   refine ⟨⟨_, rfl⟩, ⟨_, rfl, set0_ok ha⟩, fun j' hj => ?_⟩
   match j', hj with
   | 0, hj => exact rfl
   | 1, hj => exact rfl
   | 2, hj => exact rfl
   | 3, hj => exact rfl
   | 4, hj => exact rfl
   | 5, hj => exact rfl
   | 6, hj => exact absurd rfl hj
   | 7, hj => exact rfl
   | 8, hj => exact rfl
   | n + 9, _ => rfl
  ·cases h
 | 7 =>
  simp only [BlockM.s] at h
  split at h
  ·rename_i a ha
   injection h with h
   subst h
   refine ⟨⟨_, rfl⟩, ⟨_, rfl, set0_ok ha⟩, fun j' hj => ?_⟩
   match j', hj with
   | 0, hj => exact rfl
   | 1, hj => exact rfl
   | 2, hj => exact rfl
   | 3, hj => exact rfl
   | 4, hj => exact rfl
   | 5, hj => exact rfl
   | 6, hj => exact rfl
   | 7, hj => exact absurd rfl hj
   | 8, hj => exact rfl
   | n + 9, _ => rfl
  ·cases h
 | 8 =>
  simp only [BlockM.s] at h
  split at h
  ·rename_i a ha
   injection h with h
   subst h
   refine ⟨⟨_, rfl⟩, ⟨_, rfl, set0_ok ha⟩, fun j' hj => ?_⟩
   match j', hj with
   | 0, hj => exact rfl
   | 1, hj => exact rfl
   | 2, hj => exact rfl
   | 3, hj => exact rfl
   | 4, hj => exact rfl
   | 5, hj => exact rfl
   | 6, hj => exact rfl
   | 7, hj => exact rfl
   | 8, hj => exact absurd rfl hj
   | n + 9, _ => rfl
  ·cases h
 | n + 9 => simp [BlockM.s] at h
theorem BlockM.oS_ok (x : BlockM) (j : Nat) (t : TypeId) (e : Ty) (l : List e.D) (y : BlockM) (h : BlockM.oS x j t e l = some y) : BlockM.c y j = .own t e l /\ ∀ j', j' ≠ j -> BlockM.c y j' = BlockM.c x j' := by
 match j with
 | 0 =>
  simp only [BlockM.oS] at h
  cases hb : Nat.beq t 3 with
  | false => rw [hb] at h; cases h
  | true =>
   rw [hb] at h
   obtain rfl := Nat.eq_of_beq_eq_true hb
   simp only [cond_true] at h
   split at h
   ·rename_i a ha
    injection h with h
    subst h
    obtain ⟨rfl, ha⟩ := castL_ok ha
    obtain rfl := eq_of_heq ha
    refine ⟨rfl, fun j' hj => ?_⟩
    match j', hj with
    | 0, hj => exact absurd rfl hj
    | 1, hj => exact rfl
    | 2, hj => exact rfl
    | 3, hj => exact rfl
    | 4, hj => exact rfl
    | 5, hj => exact rfl
    | 6, hj => exact rfl
    | 7, hj => exact rfl
    | 8, hj => exact rfl
    | n + 9, _ => rfl
   ·cases h
 | 1 =>
  simp only [BlockM.oS] at h
  cases hb : Nat.beq t 46 with
  | false => rw [hb] at h; cases h
  | true =>
   rw [hb] at h
   obtain rfl := Nat.eq_of_beq_eq_true hb
   simp only [cond_true] at h
   split at h
   ·rename_i a ha
    injection h with h
    subst h
    obtain ⟨rfl, ha⟩ := castL_ok ha
    obtain rfl := eq_of_heq ha
    refine ⟨rfl, fun j' hj => ?_⟩
    match j', hj with
    | 0, hj => exact rfl
    | 1, hj => exact absurd rfl hj
    | 2, hj => exact rfl
    | 3, hj => exact rfl
    | 4, hj => exact rfl
    | 5, hj => exact rfl
    | 6, hj => exact rfl
    | 7, hj => exact rfl
    | 8, hj => exact rfl
    | n + 9, _ => rfl
   ·cases h
 | 2 => simp [BlockM.oS] at h
 | 3 => simp [BlockM.oS] at h
 | 4 =>
  simp only [BlockM.oS] at h
  cases hb : Nat.beq t 51 with
  | false => rw [hb] at h; cases h
  | true =>
   rw [hb] at h
   obtain rfl := Nat.eq_of_beq_eq_true hb
   simp only [cond_true] at h
   split at h
   ·rename_i a ha
    injection h with h
    subst h
    obtain ⟨rfl, ha⟩ := castL_ok ha
    obtain rfl := eq_of_heq ha
    refine ⟨rfl, fun j' hj => ?_⟩
    match j', hj with
    | 0, hj => exact rfl
    | 1, hj => exact rfl
    | 2, hj => exact rfl
    | 3, hj => exact rfl
    | 4, hj => exact absurd rfl hj
    | 5, hj => exact rfl
    | 6, hj => exact rfl
    | 7, hj => exact rfl
    | 8, hj => exact rfl
    | n + 9, _ => rfl
   ·cases h
 | 5 =>
  simp only [BlockM.oS] at h
  cases hb : Nat.beq t 3 with
  | false => rw [hb] at h; cases h
  | true =>
   rw [hb] at h
   obtain rfl := Nat.eq_of_beq_eq_true hb
   simp only [cond_true] at h
   split at h
   ·rename_i a ha
    injection h with h
    subst h
    obtain ⟨rfl, ha⟩ := castL_ok ha
    obtain rfl := eq_of_heq ha
    refine ⟨rfl, fun j' hj => ?_⟩
    match j', hj with
    | 0, hj => exact rfl
    | 1, hj => exact rfl
    | 2, hj => exact rfl
    | 3, hj => exact rfl
    | 4, hj => exact rfl
    | 5, hj => exact absurd rfl hj
    | 6, hj => exact rfl
    | 7, hj => exact rfl
    | 8, hj => exact rfl
    | n + 9, _ => rfl
   ·cases h
 | 6 => simp [BlockM.oS] at h
 | 7 => simp [BlockM.oS] at h
 | 8 => simp [BlockM.oS] at h
 | n + 9 => simp [BlockM.oS] at h
theorem BlockM.oG_ok (x : BlockM) (j : Nat) (t : TypeId) (e : Ty) (l : List e.D) (h1 : BlockM.oT j = some (t, e)) (h2 : BlockM.oG x j e = some l) : BlockM.c x j = .own t e l := by
 match j with
 | 0 =>
  injection h1 with h1
  injection h1 with h1 h3
  subst h1; subst h3
  simp only [BlockM.oG, castF_same, BlockM.c] at h2 ⊢
  cases hx : x.params with
  | own l' => rw [hx] at h2; injection h2 with h2; subst h2; rfl
  | fz l' => rw [hx] at h2; cases h2
 | 1 =>
  injection h1 with h1
  injection h1 with h1 h3
  subst h1; subst h3
  simp only [BlockM.oG, castF_same, BlockM.c] at h2 ⊢
  cases hx : x.insts with
  | own l' => rw [hx] at h2; injection h2 with h2; subst h2; rfl
  | fz l' => rw [hx] at h2; cases h2
 | 2 => simp [BlockM.oT] at h1
 | 3 => simp [BlockM.oT] at h1
 | 4 =>
  injection h1 with h1
  injection h1 with h1 h3
  subst h1; subst h3
  simp only [BlockM.oG, castF_same, BlockM.c] at h2 ⊢
  cases hx : x.term.to with
  | own l' => rw [hx] at h2; injection h2 with h2; subst h2; rfl
  | fz l' => rw [hx] at h2; cases h2
 | 5 =>
  injection h1 with h1
  injection h1 with h1 h3
  subst h1; subst h3
  simp only [BlockM.oG, castF_same, BlockM.c] at h2 ⊢
  cases hx : x.term.rets with
  | own l' => rw [hx] at h2; injection h2 with h2; subst h2; rfl
  | fz l' => rw [hx] at h2; cases h2
 | 6 => simp [BlockM.oT] at h1
 | 7 => simp [BlockM.oT] at h1
 | 8 => simp [BlockM.oT] at h1
 | n + 9 => simp [BlockM.oT] at h1
theorem BlockM.fG_ok (x : BlockM) (j : Nat) (e : Ty) (l : List e.D) (h1 : BlockM.fT j = some e) (h2 : BlockM.fG x j e = some l) : BlockM.c x j = .ev (.fz e l) := by
 match j with
 | 0 =>
  injection h1 with h1
  subst h1
  simp only [BlockM.fG, castF_same, BlockM.c] at h2 ⊢
  cases hx : x.params with
  | fz l' => rw [hx] at h2; injection h2 with h2; subst h2; rfl
  | own l' => rw [hx] at h2; cases h2
 | 1 =>
  injection h1 with h1
  subst h1
  simp only [BlockM.fG, castF_same, BlockM.c] at h2 ⊢
  cases hx : x.insts with
  | fz l' => rw [hx] at h2; injection h2 with h2; subst h2; rfl
  | own l' => rw [hx] at h2; cases h2
 | 2 => simp [BlockM.fT] at h1
 | 3 => simp [BlockM.fT] at h1
 | 4 =>
  injection h1 with h1
  subst h1
  simp only [BlockM.fG, castF_same, BlockM.c] at h2 ⊢
  cases hx : x.term.to with
  | fz l' => rw [hx] at h2; injection h2 with h2; subst h2; rfl
  | own l' => rw [hx] at h2; cases h2
 | 5 =>
  injection h1 with h1
  subst h1
  simp only [BlockM.fG, castF_same, BlockM.c] at h2 ⊢
  cases hx : x.term.rets with
  | fz l' => rw [hx] at h2; injection h2 with h2; subst h2; rfl
  | own l' => rw [hx] at h2; cases h2
 | 6 => simp [BlockM.fT] at h1
 | 7 => simp [BlockM.fT] at h1
 | 8 => simp [BlockM.fT] at h1
 | n + 9 => simp [BlockM.fT] at h1
theorem BlockM.same (x : BlockM) (j : Nat) (t : TypeId) (e : Ty) (l : List e.D) (y : BlockM) (t0 : TypeId) (e0 : Ty) (l0 : List e0.D) (h : BlockM.oS x j t e l = some y) (hc : BlockM.c x j = .own t0 e0 l0) : ∃ l1, BlockM.c x j = .own t e l1 := by
 match j with
 | 0 =>
  simp only [BlockM.oS] at h
  cases hb : Nat.beq t 3 with
  | false => rw [hb] at h; cases h
  | true =>
   rw [hb] at h
   obtain rfl := Nat.eq_of_beq_eq_true hb
   simp only [cond_true] at h
   split at h
   ·rename_i a ha
    obtain ⟨rfl, _⟩ := castL_ok ha
    simp only [BlockM.c] at hc ⊢
    cases hx : x.params with
    | own l1 => exact ⟨l1, rfl⟩
    | fz l1 => rw [hx] at hc; cases hc
   ·cases h
 | 1 =>
  simp only [BlockM.oS] at h
  cases hb : Nat.beq t 46 with
  | false => rw [hb] at h; cases h
  | true =>
   rw [hb] at h
   obtain rfl := Nat.eq_of_beq_eq_true hb
   simp only [cond_true] at h
   split at h
   ·rename_i a ha
    obtain ⟨rfl, _⟩ := castL_ok ha
    simp only [BlockM.c] at hc ⊢
    cases hx : x.insts with
    | own l1 => exact ⟨l1, rfl⟩
    | fz l1 => rw [hx] at hc; cases hc
   ·cases h
 | 2 => simp [BlockM.oS] at h
 | 3 => simp [BlockM.oS] at h
 | 4 =>
  simp only [BlockM.oS] at h
  cases hb : Nat.beq t 51 with
  | false => rw [hb] at h; cases h
  | true =>
   rw [hb] at h
   obtain rfl := Nat.eq_of_beq_eq_true hb
   simp only [cond_true] at h
   split at h
   ·rename_i a ha
    obtain ⟨rfl, _⟩ := castL_ok ha
    simp only [BlockM.c] at hc ⊢
    cases hx : x.term.to with
    | own l1 => exact ⟨l1, rfl⟩
    | fz l1 => rw [hx] at hc; cases hc
   ·cases h
 | 5 =>
  simp only [BlockM.oS] at h
  cases hb : Nat.beq t 3 with
  | false => rw [hb] at h; cases h
  | true =>
   rw [hb] at h
   obtain rfl := Nat.eq_of_beq_eq_true hb
   simp only [cond_true] at h
   split at h
   ·rename_i a ha
    obtain ⟨rfl, _⟩ := castL_ok ha
    simp only [BlockM.c] at hc ⊢
    cases hx : x.term.rets with
    | own l1 => exact ⟨l1, rfl⟩
    | fz l1 => rw [hx] at hc; cases hc
   ·cases h
 | 6 => simp [BlockM.oS] at h
 | 7 => simp [BlockM.oS] at h
 | 8 => simp [BlockM.oS] at h
 | n + 9 => simp [BlockM.oS] at h
theorem BlockM.z_own (j : Nat) (t : TypeId) (e : Ty) (l : List e.D) (h : BlockM.c BlockM.z j = .own t e l) : l = [] := by
 match j with
 | 0 => cases h
 | 1 => cases h
 | 2 => cases h
 | 3 => cases h
 | 4 => cases h
 | 5 => cases h
 | 6 => cases h
 | 7 => cases h
 | 8 => cases h
 | n + 9 => cases h
theorem BlockM.c_dat (x : BlockM) (j : Nat) (u : EV) (h : BlockM.c x j = .ev u) : u.dat = true := by
 match j with
 | 0 =>
  simp only [BlockM.c] at h
  cases hx : x.params <;> rw [hx] at h
  ·cases h
  ·injection h with h; subst h; rfl
 | 1 =>
  simp only [BlockM.c] at h
  cases hx : x.insts <;> rw [hx] at h
  ·cases h
  ·injection h with h; subst h; rfl
 | 2 => injection h with h; subst h; rfl
 | 3 => injection h with h; subst h; rfl
 | 4 =>
  simp only [BlockM.c] at h
  cases hx : x.term.to <;> rw [hx] at h
  ·cases h
  ·injection h with h; subst h; rfl
 | 5 =>
  simp only [BlockM.c] at h
  cases hx : x.term.rets <;> rw [hx] at h
  ·cases h
  ·injection h with h; subst h; rfl
 | 6 => injection h with h; subst h; rfl
 | 7 => injection h with h; subst h; rfl
 | 8 => injection h with h; subst h; rfl
 | n + 9 => injection h with h; subst h; rfl
def LsI.c (x : LsI) : Nat -> Cell
 | 0 => match x.v with
  | .own l => .own 3 (.int .i64) l
  | .gone => .ev .un
 | _ => .ev .un
def LsI.s (x : LsI) (j : Nat) (v : EV) : Option LsI := match j with
 | _ => none
def LsI.oS (x : LsI) (j : Nat) (t : TypeId) (e : Ty) (l : List e.D) : Option LsI := match j with
 | 0 => bif Nat.beq t 3 then (match castF List e (.int .i64) l with
  | some y => some { x with v := .own y }
  | none => none) else none
 | _ => none
def LsI.k (x : LsI) (j : Nat) (t : TypeId) (e : Ty) (l : List e.D) : Option LsI := match LsI.c x j with
 | .own _ _ _ => LsI.oS x j t e l
 | .ev _ => none
def LsI.oT : Nat -> Option (TypeId × Ty)
 | 0 => some (3, (.int .i64))
 | _ => none
def LsI.fT : Nat -> Option Ty
 | _ => none
def LsI.oG (x : LsI) (j : Nat) (e : Ty) : Option (List e.D) := match j with
 | 0 => (match castF (fun X => Option (List X)) (.int .i64) e (Sp.gnL x.v) with
  | some o => o
  | none => none)
 | _ => none
def LsI.fG (x : LsI) (j : Nat) (e : Ty) : Option (List e.D) := match j with
 | _ => none
theorem LsI.s_ok (x : LsI) (j : Nat) (v : EV) (y : LsI) (h : LsI.s x j v = some y) : (∃ u0, LsI.c x j = .ev u0) /\ (∃ u, LsI.c y j = .ev u /\ ∀ len, Wk (toV len v) (toV len u)) /\ ∀ j', j' ≠ j -> LsI.c y j' = LsI.c x j' := by
 match j with
 | 0 => simp [LsI.s] at h
 | n + 1 => simp [LsI.s] at h
theorem LsI.oS_ok (x : LsI) (j : Nat) (t : TypeId) (e : Ty) (l : List e.D) (y : LsI) (h : LsI.oS x j t e l = some y) : LsI.c y j = .own t e l /\ ∀ j', j' ≠ j -> LsI.c y j' = LsI.c x j' := by
 match j with
 | 0 =>
  simp only [LsI.oS] at h
  cases hb : Nat.beq t 3 with
  | false => rw [hb] at h; cases h
  | true =>
   rw [hb] at h
   obtain rfl := Nat.eq_of_beq_eq_true hb
   simp only [cond_true] at h
   split at h
   ·rename_i a ha
    injection h with h
    subst h
    obtain ⟨rfl, ha⟩ := castL_ok ha
    obtain rfl := eq_of_heq ha
    refine ⟨rfl, fun j' hj => ?_⟩
    match j', hj with
    | 0, hj => exact absurd rfl hj
    | n + 1, _ => rfl
   ·cases h
 | n + 1 => simp [LsI.oS] at h
theorem LsI.oG_ok (x : LsI) (j : Nat) (t : TypeId) (e : Ty) (l : List e.D) (h1 : LsI.oT j = some (t, e)) (h2 : LsI.oG x j e = some l) : LsI.c x j = .own t e l := by
 match j with
 | 0 =>
  injection h1 with h1
  injection h1 with h1 h3
  subst h1; subst h3
  simp only [LsI.oG, castF_same, LsI.c] at h2 ⊢
  cases hx : x.v with
  | own l' => rw [hx] at h2; injection h2 with h2; subst h2; rfl
  | gone => rw [hx] at h2; cases h2
 | n + 1 => simp [LsI.oT] at h1
theorem LsI.fG_ok (x : LsI) (j : Nat) (e : Ty) (l : List e.D) (h1 : LsI.fT j = some e) (h2 : LsI.fG x j e = some l) : LsI.c x j = .ev (.fz e l) := by
 match j with
 | 0 => simp [LsI.fT] at h1
 | n + 1 => simp [LsI.fT] at h1
theorem LsI.same (x : LsI) (j : Nat) (t : TypeId) (e : Ty) (l : List e.D) (y : LsI) (t0 : TypeId) (e0 : Ty) (l0 : List e0.D) (h : LsI.oS x j t e l = some y) (hc : LsI.c x j = .own t0 e0 l0) : ∃ l1, LsI.c x j = .own t e l1 := by
 match j with
 | 0 =>
  simp only [LsI.oS] at h
  cases hb : Nat.beq t 3 with
  | false => rw [hb] at h; cases h
  | true =>
   rw [hb] at h
   obtain rfl := Nat.eq_of_beq_eq_true hb
   simp only [cond_true] at h
   split at h
   ·rename_i a ha
    obtain ⟨rfl, _⟩ := castL_ok ha
    simp only [LsI.c] at hc ⊢
    cases hx : x.v with
    | own l1 => exact ⟨l1, rfl⟩
    | gone => rw [hx] at hc; cases hc
   ·cases h
 | n + 1 => simp [LsI.oS] at h
theorem LsI.z_own (j : Nat) (t : TypeId) (e : Ty) (l : List e.D) (h : LsI.c LsI.z j = .own t e l) : l = [] := by
 match j with
 | 0 => cases h; rfl
 | n + 1 => cases h
theorem LsI.c_dat (x : LsI) (j : Nat) (u : EV) (h : LsI.c x j = .ev u) : u.dat = true := by
 match j with
 | 0 =>
  simp only [LsI.c] at h
  cases hx : x.v <;> rw [hx] at h
  ·cases h
  ·injection h with h; subst h; rfl
 | n + 1 => injection h with h; subst h; rfl
def InstM.gS (x : InstM) (j : Nat) : Option InstM := match j with
 | _ => none
theorem InstM.gS_ok (x : InstM) (j : Nat) (y : InstM) (h : InstM.gS x j = some y) : InstM.c y j = .ev .un /\ ∀ j', j' ≠ j -> InstM.c y j' = InstM.c x j' := by
 match j with
 | 0 => simp [InstM.gS] at h
 | 1 => simp [InstM.gS] at h
 | 2 => simp [InstM.gS] at h
 | 3 => simp [InstM.gS] at h
 | 4 => simp [InstM.gS] at h
 | n + 5 => simp [InstM.gS] at h
def EdgeM.gS (x : EdgeM) (j : Nat) : Option EdgeM := match j with
 | _ => none
theorem EdgeM.gS_ok (x : EdgeM) (j : Nat) (y : EdgeM) (h : EdgeM.gS x j = some y) : EdgeM.c y j = .ev .un /\ ∀ j', j' ≠ j -> EdgeM.c y j' = EdgeM.c x j' := by
 match j with
 | 0 => simp [EdgeM.gS] at h
 | 1 => simp [EdgeM.gS] at h
 | n + 2 => simp [EdgeM.gS] at h
def TermM.gS (x : TermM) (j : Nat) : Option TermM := match j with
 | _ => none
theorem TermM.gS_ok (x : TermM) (j : Nat) (y : TermM) (h : TermM.gS x j = some y) : TermM.c y j = .ev .un /\ ∀ j', j' ≠ j -> TermM.c y j' = TermM.c x j' := by
 match j with
 | 0 => simp [TermM.gS] at h
 | 1 => simp [TermM.gS] at h
 | 2 => simp [TermM.gS] at h
 | 3 => simp [TermM.gS] at h
 | n + 4 => simp [TermM.gS] at h
def BlockM.gS (x : BlockM) (j : Nat) : Option BlockM := match j with
 | _ => none
theorem BlockM.gS_ok (x : BlockM) (j : Nat) (y : BlockM) (h : BlockM.gS x j = some y) : BlockM.c y j = .ev .un /\ ∀ j', j' ≠ j -> BlockM.c y j' = BlockM.c x j' := by
 match j with
 | 0 => simp [BlockM.gS] at h
 | 1 => simp [BlockM.gS] at h
 | 2 => simp [BlockM.gS] at h
 | 3 => simp [BlockM.gS] at h
 | 4 => simp [BlockM.gS] at h
 | 5 => simp [BlockM.gS] at h
 | 6 => simp [BlockM.gS] at h
 | 7 => simp [BlockM.gS] at h
 | 8 => simp [BlockM.gS] at h
 | n + 9 => simp [BlockM.gS] at h
def LsI.gS (x : LsI) (j : Nat) : Option LsI := match j with
 | 0 => some { x with v := .gone }
 | _ => none
theorem LsI.gS_ok (x : LsI) (j : Nat) (y : LsI) (h : LsI.gS x j = some y) : LsI.c y j = .ev .un /\ ∀ j', j' ≠ j -> LsI.c y j' = LsI.c x j' := by
 match j with
 | 0 =>
  injection h with h
  subst h
  refine ⟨rfl, fun j' hj => ?_⟩
  match j', hj with
  | 0, hj => exact absurd rfl hj
  | n + 1, _ => rfl
 | n + 1 => simp [LsI.gS] at h
def InstM.up (x : Inst) : InstM := ⟨x.op, x.dest, .fz x.args, x.num, x.mem⟩
theorem InstM.up_c (x : Inst) : ∀ c, InstM.c (InstM.up x) c = .ev (Inst.c x c)
 | 0 => rfl
 | 1 => rfl
 | 2 => rfl
 | 3 => rfl
 | 4 => rfl
 | n + 5 => rfl
def EdgeM.up (x : Edge) : EdgeM := ⟨x.block, .fz x.args⟩
theorem EdgeM.up_c (x : Edge) : ∀ c, EdgeM.c (EdgeM.up x) c = .ev (Edge.c x c)
 | 0 => rfl
 | 1 => rfl
 | n + 2 => rfl
def TermM.up (x : Term) : TermM := ⟨x.kind, x.cond, .fz x.to, .fz x.rets⟩
theorem TermM.up_c (x : Term) : ∀ c, TermM.c (TermM.up x) c = .ev (Term.c x c)
 | 0 => rfl
 | 1 => rfl
 | 2 => rfl
 | 3 => rfl
 | n + 4 => rfl
def BlockM.up (x : Block) : BlockM := ⟨.fz x.params, .fz x.insts, ⟨x.term.kind, x.term.cond, .fz x.term.to, .fz x.term.rets⟩, x.pipeline, x.unroll, x.line⟩
theorem BlockM.up_c (x : Block) : ∀ c, BlockM.c (BlockM.up x) c = .ev (Block.c x c)
 | 0 => rfl
 | 1 => rfl
 | 2 => rfl
 | 3 => rfl
 | 4 => rfl
 | 5 => rfl
 | 6 => rfl
 | 7 => rfl
 | 8 => rfl
 | n + 9 => rfl
def suCell : (i : Nat) -> suD i -> Nat -> Cell
 | 0, x => fun j => .ev (Inst.c x j)
 | 1, x => fun j => .ev (Edge.c x j)
 | 2, x => fun j => .ev (Term.c x j)
 | 3, x => fun j => .ev (Block.c x j)
 | 4, x => fun j => .ev (Arr.c x j)
 | 5, x => fun j => .ev (Strm.c x j)
 | 6, x => fun j => .ev (Fn.c x j)
 | 7, x => fun j => .ev (Typ.c x j)
 | 8, x => InstM.c x
 | 9, x => EdgeM.c x
 | 10, x => TermM.c x
 | 11, x => BlockM.c x
 | 12, x => LsI.c x
 | _ + 13, _ => fun _ => .ev .un
def suSet : (i : Nat) -> suD i -> Nat -> EV -> Option (suD i)
 | 0, x => Inst.s x
 | 1, x => Edge.s x
 | 2, x => Term.s x
 | 3, x => Block.s x
 | 4, x => Arr.s x
 | 5, x => Strm.s x
 | 6, x => Fn.s x
 | 7, x => Typ.s x
 | 8, x => InstM.s x
 | 9, x => EdgeM.s x
 | 10, x => TermM.s x
 | 11, x => BlockM.s x
 | 12, x => LsI.s x
 | _ + 13, _ => fun _ _ => none
def suMake : (i : Nat) -> List EV -> Option (suD i)
 | 0 => Inst.m
 | 1 => Edge.m
 | 2 => Term.m
 | 3 => Block.m
 | 4 => Arr.m
 | 5 => Strm.m
 | 6 => Fn.m
 | 7 => Typ.m
 | _ + 8 => fun _ => none
def suK : (i : Nat) -> suD i -> Nat -> (t : TypeId) -> (e : Ty) -> List e.D -> Option (suD i)
 | 8, x => InstM.k x
 | 9, x => EdgeM.k x
 | 10, x => TermM.k x
 | 11, x => BlockM.k x
 | 12, x => LsI.k x
 | _, _ => fun _ _ _ _ => none
def suOS : (i : Nat) -> suD i -> Nat -> (t : TypeId) -> (e : Ty) -> List e.D -> Option (suD i)
 | 8, x => InstM.oS x
 | 9, x => EdgeM.oS x
 | 10, x => TermM.oS x
 | 11, x => BlockM.oS x
 | 12, x => LsI.oS x
 | _, _ => fun _ _ _ _ => none
def suGS : (i : Nat) -> suD i -> Nat -> Option (suD i)
 | 8, x => InstM.gS x
 | 9, x => EdgeM.gS x
 | 10, x => TermM.gS x
 | 11, x => BlockM.gS x
 | 12, x => LsI.gS x
 | _, _ => fun _ => none
def suOT : Nat -> Nat -> Option (TypeId × Ty)
 | 8 => InstM.oT
 | 9 => EdgeM.oT
 | 10 => TermM.oT
 | 11 => BlockM.oT
 | 12 => LsI.oT
 | _ => fun _ => none
def suOG : (i : Nat) -> suD i -> Nat -> (e : Ty) -> Option (List e.D)
 | 8, x => InstM.oG x
 | 9, x => EdgeM.oG x
 | 10, x => TermM.oG x
 | 11, x => BlockM.oG x
 | 12, x => LsI.oG x
 | _, _ => fun _ _ => none
def suFT : Nat -> Nat -> Option Ty
 | 8 => InstM.fT
 | 9 => EdgeM.fT
 | 10 => TermM.fT
 | 11 => BlockM.fT
 | 12 => LsI.fT
 | _ => fun _ => none
def suFG : (i : Nat) -> suD i -> Nat -> (e : Ty) -> Option (List e.D)
 | 8, x => InstM.fG x
 | 9, x => EdgeM.fG x
 | 10, x => TermM.fG x
 | 11, x => BlockM.fG x
 | 12, x => LsI.fG x
 | _, _ => fun _ _ => none
def suUp : (i j : Nat) -> Option (suD i -> suD j)
 | 0, 8 => some InstM.up
 | 1, 9 => some EdgeM.up
 | 2, 10 => some TermM.up
 | 3, 11 => some BlockM.up
 | _, _ => none
def suFro : Nat -> Bool := fun i => Nat.blt i 8
instance : Codes where
 fro := suFro
 cell := suCell
 set := suSet
 setK := suK
 make := suMake
 ownT := suOT
 ownG := suOG
 ownS := suOS
 frzT := suFT
 frzG := suFG
 upF := suUp
 goneS := suGS
 cell_ok := fun i x j hf => match i, x, hf with
  | 0, x, _ => ⟨_, rfl, fun hj len => Inst.c_ok x len j hj⟩
  | 1, x, _ => ⟨_, rfl, fun hj len => Edge.c_ok x len j hj⟩
  | 2, x, _ => ⟨_, rfl, fun hj len => Term.c_ok x len j hj⟩
  | 3, x, _ => ⟨_, rfl, fun hj len => Block.c_ok x len j hj⟩
  | 4, x, _ => ⟨_, rfl, fun hj len => Arr.c_ok x len j hj⟩
  | 5, x, _ => ⟨_, rfl, fun hj len => Strm.c_ok x len j hj⟩
  | 6, x, _ => ⟨_, rfl, fun hj len => Fn.c_ok x len j hj⟩
  | 7, x, _ => ⟨_, rfl, fun hj len => Typ.c_ok x len j hj⟩
  | n + 8, _, hf => absurd (Nat.le_of_ble_eq_true hf) (by omega)
 set_ok := fun i x j v y h => match i, x, y, h with
  | 0, x, y, h => ⟨⟨_, rfl⟩, ⟨_, rfl, (Inst.s_ok x j v y h).1⟩, fun j' hj => congrArg Cell.ev ((Inst.s_ok x j v y h).2 j' hj)⟩
  | 1, x, y, h => ⟨⟨_, rfl⟩, ⟨_, rfl, (Edge.s_ok x j v y h).1⟩, fun j' hj => congrArg Cell.ev ((Edge.s_ok x j v y h).2 j' hj)⟩
  | 2, x, y, h => ⟨⟨_, rfl⟩, ⟨_, rfl, (Term.s_ok x j v y h).1⟩, fun j' hj => congrArg Cell.ev ((Term.s_ok x j v y h).2 j' hj)⟩
  | 3, x, y, h => ⟨⟨_, rfl⟩, ⟨_, rfl, (Block.s_ok x j v y h).1⟩, fun j' hj => congrArg Cell.ev ((Block.s_ok x j v y h).2 j' hj)⟩
  | 4, x, y, h => ⟨⟨_, rfl⟩, ⟨_, rfl, (Arr.s_ok x j v y h).1⟩, fun j' hj => congrArg Cell.ev ((Arr.s_ok x j v y h).2 j' hj)⟩
  | 5, x, y, h => ⟨⟨_, rfl⟩, ⟨_, rfl, (Strm.s_ok x j v y h).1⟩, fun j' hj => congrArg Cell.ev ((Strm.s_ok x j v y h).2 j' hj)⟩
  | 6, x, y, h => ⟨⟨_, rfl⟩, ⟨_, rfl, (Fn.s_ok x j v y h).1⟩, fun j' hj => congrArg Cell.ev ((Fn.s_ok x j v y h).2 j' hj)⟩
  | 7, x, y, h => ⟨⟨_, rfl⟩, ⟨_, rfl, (Typ.s_ok x j v y h).1⟩, fun j' hj => congrArg Cell.ev ((Typ.s_ok x j v y h).2 j' hj)⟩
  | 8, x, y, h => InstM.s_ok x j v y h
  | 9, x, y, h => EdgeM.s_ok x j v y h
  | 10, x, y, h => TermM.s_ok x j v y h
  | 11, x, y, h => BlockM.s_ok x j v y h
  | 12, x, y, h => LsI.s_ok x j v y h
  | n + 13, _, _, h => by cases h
 setK_ok := fun i x j t e l y h => match i, x, y, h with
  | 0, _, _, h => by cases h
  | 1, _, _, h => by cases h
  | 2, _, _, h => by cases h
  | 3, _, _, h => by cases h
  | 4, _, _, h => by cases h
  | 5, _, _, h => by cases h
  | 6, _, _, h => by cases h
  | 7, _, _, h => by cases h
  | 8, x, y, h => by
   have h : InstM.k x j t e l = some y := h
   unfold InstM.k at h
   split at h
   ·rename_i t0 e0 l0 hc
    obtain ⟨k1, k2⟩ := InstM.oS_ok x j t e l y h
    refine ⟨?_, k1, k2⟩
    exact InstM.same x j t e l y t0 e0 l0 h hc
   ·cases h
  | 9, x, y, h => by
   have h : EdgeM.k x j t e l = some y := h
   unfold EdgeM.k at h
   split at h
   ·rename_i t0 e0 l0 hc
    obtain ⟨k1, k2⟩ := EdgeM.oS_ok x j t e l y h
    refine ⟨?_, k1, k2⟩
    exact EdgeM.same x j t e l y t0 e0 l0 h hc
   ·cases h
  | 10, x, y, h => by
   have h : TermM.k x j t e l = some y := h
   unfold TermM.k at h
   split at h
   ·rename_i t0 e0 l0 hc
    obtain ⟨k1, k2⟩ := TermM.oS_ok x j t e l y h
    refine ⟨?_, k1, k2⟩
    exact TermM.same x j t e l y t0 e0 l0 h hc
   ·cases h
  | 11, x, y, h => by
   have h : BlockM.k x j t e l = some y := h
   unfold BlockM.k at h
   split at h
   ·rename_i t0 e0 l0 hc
    obtain ⟨k1, k2⟩ := BlockM.oS_ok x j t e l y h
    refine ⟨?_, k1, k2⟩
    exact BlockM.same x j t e l y t0 e0 l0 h hc
   ·cases h
  | 12, x, y, h => by
   have h : LsI.k x j t e l = some y := h
   unfold LsI.k at h
   split at h
   ·rename_i t0 e0 l0 hc
    obtain ⟨k1, k2⟩ := LsI.oS_ok x j t e l y h
    refine ⟨?_, k1, k2⟩
    exact LsI.same x j t e l y t0 e0 l0 h hc
   ·cases h
  | n + 13, _, _, h => by cases h
 cell_dat := fun i x j u h => match i, x, h with
  | 0, x, h => by injection h with h; subst h; exact Inst.c_dat x j
  | 1, x, h => by injection h with h; subst h; exact Edge.c_dat x j
  | 2, x, h => by injection h with h; subst h; exact Term.c_dat x j
  | 3, x, h => by injection h with h; subst h; exact Block.c_dat x j
  | 4, x, h => by injection h with h; subst h; exact Arr.c_dat x j
  | 5, x, h => by injection h with h; subst h; exact Strm.c_dat x j
  | 6, x, h => by injection h with h; subst h; exact Fn.c_dat x j
  | 7, x, h => by injection h with h; subst h; exact Typ.c_dat x j
  | 8, x, h => InstM.c_dat x j u h
  | 9, x, h => EdgeM.c_dat x j u h
  | 10, x, h => TermM.c_dat x j u h
  | 11, x, h => BlockM.c_dat x j u h
  | 12, x, h => LsI.c_dat x j u h
  | n + 13, _, h => by injection h with h; subst h; rfl
 z_own := fun i j t e l h => match i, h with
  | 0, h => by cases h
  | 1, h => by cases h
  | 2, h => by cases h
  | 3, h => by cases h
  | 4, h => by cases h
  | 5, h => by cases h
  | 6, h => by cases h
  | 7, h => by cases h
  | 8, h => InstM.z_own j t e l h
  | 9, h => EdgeM.z_own j t e l h
  | 10, h => TermM.z_own j t e l h
  | 11, h => BlockM.z_own j t e l h
  | 12, h => LsI.z_own j t e l h
  | n + 13, h => by cases h
 make_ok := fun i l y h => match i, y, h with
  | 0, y, h => ⟨(Inst.m_ok l y h).1, fun j hj => ⟨_, rfl, (Inst.m_ok l y h).2 j hj⟩⟩
  | 1, y, h => ⟨(Edge.m_ok l y h).1, fun j hj => ⟨_, rfl, (Edge.m_ok l y h).2 j hj⟩⟩
  | 2, y, h => ⟨(Term.m_ok l y h).1, fun j hj => ⟨_, rfl, (Term.m_ok l y h).2 j hj⟩⟩
  | 3, y, h => ⟨(Block.m_ok l y h).1, fun j hj => ⟨_, rfl, (Block.m_ok l y h).2 j hj⟩⟩
  | 4, y, h => ⟨(Arr.m_ok l y h).1, fun j hj => ⟨_, rfl, (Arr.m_ok l y h).2 j hj⟩⟩
  | 5, y, h => ⟨(Strm.m_ok l y h).1, fun j hj => ⟨_, rfl, (Strm.m_ok l y h).2 j hj⟩⟩
  | 6, y, h => ⟨(Fn.m_ok l y h).1, fun j hj => ⟨_, rfl, (Fn.m_ok l y h).2 j hj⟩⟩
  | 7, y, h => ⟨(Typ.m_ok l y h).1, fun j hj => ⟨_, rfl, (Typ.m_ok l y h).2 j hj⟩⟩
  | n + 8, _, h => by cases h
 ownG_ok := fun i x j t e l h1 h2 => match i, x, h1, h2 with
  | 0, _, h, _ => by cases h
  | 1, _, h, _ => by cases h
  | 2, _, h, _ => by cases h
  | 3, _, h, _ => by cases h
  | 4, _, h, _ => by cases h
  | 5, _, h, _ => by cases h
  | 6, _, h, _ => by cases h
  | 7, _, h, _ => by cases h
  | 8, x, h1, h2 => InstM.oG_ok x j t e l h1 h2
  | 9, x, h1, h2 => EdgeM.oG_ok x j t e l h1 h2
  | 10, x, h1, h2 => TermM.oG_ok x j t e l h1 h2
  | 11, x, h1, h2 => BlockM.oG_ok x j t e l h1 h2
  | 12, x, h1, h2 => LsI.oG_ok x j t e l h1 h2
  | n + 13, _, h, _ => by cases h
 goneS_ok := fun i x j y h => match i, x, y, h with
  | 0, _, _, h => by cases h
  | 1, _, _, h => by cases h
  | 2, _, _, h => by cases h
  | 3, _, _, h => by cases h
  | 4, _, _, h => by cases h
  | 5, _, _, h => by cases h
  | 6, _, _, h => by cases h
  | 7, _, _, h => by cases h
  | 8, x, y, h => InstM.gS_ok x j y h
  | 9, x, y, h => EdgeM.gS_ok x j y h
  | 10, x, y, h => TermM.gS_ok x j y h
  | 11, x, y, h => BlockM.gS_ok x j y h
  | 12, x, y, h => LsI.gS_ok x j y h
  | n + 13, _, _, h => by cases h
 ownS_ok := fun i x j t e l y h => match i, x, y, h with
  | 0, _, _, h => by cases h
  | 1, _, _, h => by cases h
  | 2, _, _, h => by cases h
  | 3, _, _, h => by cases h
  | 4, _, _, h => by cases h
  | 5, _, _, h => by cases h
  | 6, _, _, h => by cases h
  | 7, _, _, h => by cases h
  | 8, x, y, h => InstM.oS_ok x j t e l y h
  | 9, x, y, h => EdgeM.oS_ok x j t e l y h
  | 10, x, y, h => TermM.oS_ok x j t e l y h
  | 11, x, y, h => BlockM.oS_ok x j t e l y h
  | 12, x, y, h => LsI.oS_ok x j t e l y h
  | n + 13, _, _, h => by cases h
 ownS_K := fun i x j t e l0 t' e' l y h1 h2 h3 => match i, x, y, h1, h2, h3 with
  | 0, _, _, h, _, _ => by cases h
  | 1, _, _, h, _, _ => by cases h
  | 2, _, _, h, _, _ => by cases h
  | 3, _, _, h, _, _ => by cases h
  | 4, _, _, h, _, _ => by cases h
  | 5, _, _, h, _, _ => by cases h
  | 6, _, _, h, _, _ => by cases h
  | 7, _, _, h, _, _ => by cases h
  | 8, x, y, h1, h2, h3 => by
   show InstM.k x j t' e' l = some y
   unfold InstM.k
   rw [InstM.oG_ok x j t e l0 h1 h2]
   exact h3
  | 9, x, y, h1, h2, h3 => by
   show EdgeM.k x j t' e' l = some y
   unfold EdgeM.k
   rw [EdgeM.oG_ok x j t e l0 h1 h2]
   exact h3
  | 10, x, y, h1, h2, h3 => by
   show TermM.k x j t' e' l = some y
   unfold TermM.k
   rw [TermM.oG_ok x j t e l0 h1 h2]
   exact h3
  | 11, x, y, h1, h2, h3 => by
   show BlockM.k x j t' e' l = some y
   unfold BlockM.k
   rw [BlockM.oG_ok x j t e l0 h1 h2]
   exact h3
  | 12, x, y, h1, h2, h3 => by
   show LsI.k x j t' e' l = some y
   unfold LsI.k
   rw [LsI.oG_ok x j t e l0 h1 h2]
   exact h3
  | n + 13, _, _, h, _, _ => by cases h
 up_ok := fun i j f h => by
  unfold suUp at h
  split at h
  ·injection h with h; subst h; exact ⟨rfl, rfl, InstM.up_c⟩
  ·injection h with h; subst h; exact ⟨rfl, rfl, EdgeM.up_c⟩
  ·injection h with h; subst h; exact ⟨rfl, rfl, TermM.up_c⟩
  ·injection h with h; subst h; exact ⟨rfl, rfl, BlockM.up_c⟩
  ·cases h
 frzG_ok := fun i x j e l h1 h2 => match i, x, h1, h2 with
  | 0, _, h, _ => by cases h
  | 1, _, h, _ => by cases h
  | 2, _, h, _ => by cases h
  | 3, _, h, _ => by cases h
  | 4, _, h, _ => by cases h
  | 5, _, h, _ => by cases h
  | 6, _, h, _ => by cases h
  | 7, _, h, _ => by cases h
  | 8, x, h1, h2 => InstM.fG_ok x j e l h1 h2
  | 9, x, h1, h2 => EdgeM.fG_ok x j e l h1 h2
  | 10, x, h1, h2 => TermM.fG_ok x j e l h1 h2
  | 11, x, h1, h2 => BlockM.fG_ok x j e l h1 h2
  | 12, x, h1, h2 => LsI.fG_ok x j e l h1 h2
  | n + 13, _, h, _ => by cases h
end Go.Abs
namespace Go.Abs
open Go
def Ow.dat {α β : Type} (g : α -> β) : Ow α β -> List β
 | .own l => l.map g
 | .fz l => l
def InstM.dat (x : InstM) : Inst := ⟨x.op, x.dest, x.args.dat (fun a => a), x.num, x.mem⟩
def EdgeM.dat (x : EdgeM) : Edge := ⟨x.block, x.args.dat (fun a => a)⟩
def TermM.dat (x : TermM) : Term := ⟨x.kind, x.cond, x.to.dat EdgeM.dat, x.rets.dat (fun a => a)⟩
def BlockM.dat (x : BlockM) : Block := ⟨x.params.dat (fun a => a), x.insts.dat InstM.dat, x.term.dat, x.pipeline, x.unroll, x.line⟩
theorem dat_int : DatOk (.int .i64) (.int .i64) (fun a => a) := DatOk.fro rfl
theorem InstM.dat_ok : DatOk (.st 8) (.st 0) InstM.dat := DatOk.of rfl fun x c hc => by
 have hc : c < 5 := hc
 obtain ⟨op, dest, args, num, mem⟩ := x
 match c, hc with
 | 0, _ => exact .inl ⟨_, rfl, fun len => Inst.c_ok (InstM.dat ⟨op, dest, args, num, mem⟩) len 0 (by decide)⟩
 | 1, _ => exact .inl ⟨_, rfl, fun len => Inst.c_ok (InstM.dat ⟨op, dest, args, num, mem⟩) len 1 (by decide)⟩
 | 2, _ => cases args with
  | own l => exact .inr ⟨3, .int .i64, l, .int .i64, fun a => a, rfl, dat_int, rfl⟩
  | fz l => exact .inl ⟨_, rfl, fun len => Inst.c_ok (InstM.dat ⟨op, dest, .fz l, num, mem⟩) len 2 (by decide)⟩
 | 3, _ => exact .inl ⟨_, rfl, fun len => Inst.c_ok (InstM.dat ⟨op, dest, args, num, mem⟩) len 3 (by decide)⟩
 | 4, _ => exact .inl ⟨_, rfl, fun len => Inst.c_ok (InstM.dat ⟨op, dest, args, num, mem⟩) len 4 (by decide)⟩
theorem EdgeM.dat_ok : DatOk (.st 9) (.st 1) EdgeM.dat := DatOk.of rfl fun x c hc => by
 have hc : c < 2 := hc
 obtain ⟨bl, args⟩ := x
 match c, hc with
 | 0, _ => exact .inl ⟨_, rfl, fun len => Edge.c_ok (EdgeM.dat ⟨bl, args⟩) len 0 (by decide)⟩
 | 1, _ => cases args with
  | own l => exact .inr ⟨3, .int .i64, l, .int .i64, fun a => a, rfl, dat_int, rfl⟩
  | fz l => exact .inl ⟨_, rfl, fun len => Edge.c_ok (EdgeM.dat ⟨bl, .fz l⟩) len 1 (by decide)⟩
theorem BlockM.dat_ok : DatOk (.st 11) (.st 3) BlockM.dat := DatOk.of rfl fun x c hc => by
 have hc : c < 9 := hc
 obtain ⟨ps, is, ⟨kind, cond, to, rets⟩, pi, un, li⟩ := x
 match c, hc with
 | 0, _ => cases ps with
  | own l => exact .inr ⟨3, .int .i64, l, .int .i64, fun a => a, rfl, dat_int, rfl⟩
  | fz l => exact .inl ⟨_, rfl, fun len => Block.c_ok (BlockM.dat ⟨.fz l, is, ⟨kind, cond, to, rets⟩, pi, un, li⟩) len 0 (by decide)⟩
 | 1, _ => cases is with
  | own l => exact .inr ⟨46, .st 8, l, .st 0, InstM.dat, rfl, InstM.dat_ok, rfl⟩
  | fz l => exact .inl ⟨_, rfl, fun len => Block.c_ok (BlockM.dat ⟨ps, .fz l, ⟨kind, cond, to, rets⟩, pi, un, li⟩) len 1 (by decide)⟩
 | 2, _ => exact .inl ⟨_, rfl, fun len => Block.c_ok (BlockM.dat ⟨ps, is, ⟨kind, cond, to, rets⟩, pi, un, li⟩) len 2 (by decide)⟩
 | 3, _ => exact .inl ⟨_, rfl, fun len => Block.c_ok (BlockM.dat ⟨ps, is, ⟨kind, cond, to, rets⟩, pi, un, li⟩) len 3 (by decide)⟩
 | 4, _ => cases to with
  | own l => exact .inr ⟨51, .st 9, l, .st 1, EdgeM.dat, rfl, EdgeM.dat_ok, rfl⟩
  | fz l => exact .inl ⟨_, rfl, fun len => Block.c_ok (BlockM.dat ⟨ps, is, ⟨kind, cond, .fz l, rets⟩, pi, un, li⟩) len 4 (by decide)⟩
 | 5, _ => cases rets with
  | own l => exact .inr ⟨3, .int .i64, l, .int .i64, fun a => a, rfl, dat_int, rfl⟩
  | fz l => exact .inl ⟨_, rfl, fun len => Block.c_ok (BlockM.dat ⟨ps, is, ⟨kind, cond, to, .fz l⟩, pi, un, li⟩) len 5 (by decide)⟩
 | 6, _ => exact .inl ⟨_, rfl, fun len => Block.c_ok (BlockM.dat ⟨ps, is, ⟨kind, cond, to, rets⟩, pi, un, li⟩) len 6 (by decide)⟩
 | 7, _ => exact .inl ⟨_, rfl, fun len => Block.c_ok (BlockM.dat ⟨ps, is, ⟨kind, cond, to, rets⟩, pi, un, li⟩) len 7 (by decide)⟩
 | 8, _ => exact .inl ⟨_, rfl, fun len => Block.c_ok (BlockM.dat ⟨ps, is, ⟨kind, cond, to, rets⟩, pi, un, li⟩) len 8 (by decide)⟩
def sdDat : (i : Nat) -> Option (DatT i)
 | 8 => some ⟨0, InstM.dat⟩
 | 9 => some ⟨1, EdgeM.dat⟩
 | 11 => some ⟨3, BlockM.dat⟩
 | _ => none
instance : Dats where
 d := sdDat
 ok := fun i x h => by
  unfold sdDat at h
  split at h
  ·injection h with h; subst h; exact InstM.dat_ok
  ·injection h with h; subst h; exact EdgeM.dat_ok
  ·injection h with h; subst h; exact BlockM.dat_ok
  ·cases h
def sdFF : Nat -> Bool
 | 4 => true
 | 5 => true
 | 7 => true
 | _ => false
instance : FFs where
 st := sdFF
 ok := fun i h => by
  unfold sdFF at h
  split at h
  ·exact ⟨rfl, fun x c hc => by
    have hc : c < 5 := hc
    match c, hc with
    | 0, _ => trivial
    | 1, _ => trivial
    | 2, _ => trivial
    | 3, _ => trivial
    | 4, _ => trivial⟩
  ·exact ⟨rfl, fun x c hc => by
    have hc : c < 3 := hc
    match c, hc with
    | 0, _ => trivial
    | 1, _ => trivial
    | 2, _ => trivial⟩
  ·exact ⟨rfl, fun x c hc => by
    have hc : c < 2 := hc
    match c, hc with
    | 0, _ => trivial
    | 1, _ => trivial⟩
  ·cases h
end Go.Abs
namespace Go.Abs
open Go Go.Proofs
def ZeroOk (t : TypeId) (τ : Ty) : Prop := froT τ = true /\ ∀ z, (Tys.c Try.prog t).zero = some z -> τ.sz = z.cells.size /\ ∀ j, j < τ.sz -> ∃ u, cellC τ τ.z j = .ev u /\ ∀ len, Wk (V.cell (z.cells.getD j undef)) (toV len u)
theorem tyz2 : ZeroOk 2 (.int .i64) := ⟨rfl, fun z h => by
 injection h with h; subst h
 refine ⟨rfl, fun j hj => ?_⟩
 match j, hj with
 | 0, _ => exact ⟨_, rfl, fun len => by first | exact Wk.refl _ | exact Wk.nils _ _⟩
 | n + 1, h => exact absurd h (by show ¬ n + 1 < 1; omega)⟩
theorem tyz3 : ZeroOk 3 (.int .i64) := ⟨rfl, fun z h => by
 injection h with h; subst h
 refine ⟨rfl, fun j hj => ?_⟩
 match j, hj with
 | 0, _ => exact ⟨_, rfl, fun len => by first | exact Wk.refl _ | exact Wk.nils _ _⟩
 | n + 1, h => exact absurd h (by show ¬ n + 1 < 1; omega)⟩
theorem tyz4 : ZeroOk 4 .bool := ⟨rfl, fun z h => by
 injection h with h; subst h
 refine ⟨rfl, fun j hj => ?_⟩
 match j, hj with
 | 0, _ => exact ⟨_, rfl, fun len => by first | exact Wk.refl _ | exact Wk.nils _ _⟩
 | n + 1, h => exact absurd h (by show ¬ n + 1 < 1; omega)⟩
theorem tyz5 : ZeroOk 5 (.int .u8) := ⟨rfl, fun z h => by
 injection h with h; subst h
 refine ⟨rfl, fun j hj => ?_⟩
 match j, hj with
 | 0, _ => exact ⟨_, rfl, fun len => by first | exact Wk.refl _ | exact Wk.nils _ _⟩
 | n + 1, h => exact absurd h (by show ¬ n + 1 < 1; omega)⟩
theorem tyz9 : ZeroOk 9 .str := ⟨rfl, fun z h => by
 injection h with h; subst h
 refine ⟨rfl, fun j hj => ?_⟩
 match j, hj with
 | 0, _ => exact ⟨_, rfl, fun len => by first | exact Wk.refl _ | exact Wk.nils _ _⟩
 | n + 1, h => exact absurd h (by show ¬ n + 1 < 1; omega)⟩
theorem tyz25 : ZeroOk 25 (.sl (.int .i64)) := ⟨rfl, fun z h => by
 injection h with h; subst h
 refine ⟨rfl, fun j hj => ?_⟩
 match j, hj with
 | 0, _ => exact ⟨_, rfl, fun len => by first | exact Wk.refl _ | exact Wk.nils _ _⟩
 | n + 1, h => exact absurd h (by show ¬ n + 1 < 1; omega)⟩
theorem tyz26 : ZeroOk 26 (.sl (.st 4)) := ⟨rfl, fun z h => by
 injection h with h; subst h
 refine ⟨rfl, fun j hj => ?_⟩
 match j, hj with
 | 0, _ => exact ⟨_, rfl, fun len => by first | exact Wk.refl _ | exact Wk.nils _ _⟩
 | n + 1, h => exact absurd h (by show ¬ n + 1 < 1; omega)⟩
theorem tyz27 : ZeroOk 27 (.sl (.st 5)) := ⟨rfl, fun z h => by
 injection h with h; subst h
 refine ⟨rfl, fun j hj => ?_⟩
 match j, hj with
 | 0, _ => exact ⟨_, rfl, fun len => by first | exact Wk.refl _ | exact Wk.nils _ _⟩
 | n + 1, h => exact absurd h (by show ¬ n + 1 < 1; omega)⟩
theorem tyz28 : ZeroOk 28 (.sl (.st 3)) := ⟨rfl, fun z h => by
 injection h with h; subst h
 refine ⟨rfl, fun j hj => ?_⟩
 match j, hj with
 | 0, _ => exact ⟨_, rfl, fun len => by first | exact Wk.refl _ | exact Wk.nils _ _⟩
 | n + 1, h => exact absurd h (by show ¬ n + 1 < 1; omega)⟩
theorem tyz30 : ZeroOk 30 (.st 6) := ⟨rfl, fun z h => by
 injection h with h; subst h
 refine ⟨rfl, fun j hj => ?_⟩
 match j, hj with
 | 0, _ => exact ⟨_, rfl, fun len => by first | exact Wk.refl _ | exact Wk.nils _ _⟩
 | 1, _ => exact ⟨_, rfl, fun len => by first | exact Wk.refl _ | exact Wk.nils _ _⟩
 | 2, _ => exact ⟨_, rfl, fun len => by first | exact Wk.refl _ | exact Wk.nils _ _⟩
 | 3, _ => exact ⟨_, rfl, fun len => by first | exact Wk.refl _ | exact Wk.nils _ _⟩
 | 4, _ => exact ⟨_, rfl, fun len => by first | exact Wk.refl _ | exact Wk.nils _ _⟩
 | 5, _ => exact ⟨_, rfl, fun len => by first | exact Wk.refl _ | exact Wk.nils _ _⟩
 | n + 6, h => exact absurd h (by show ¬ n + 6 < 6; omega)⟩
theorem tyz36 : ZeroOk 36 (.sl (.st 0)) := ⟨rfl, fun z h => by
 injection h with h; subst h
 refine ⟨rfl, fun j hj => ?_⟩
 match j, hj with
 | 0, _ => exact ⟨_, rfl, fun len => by first | exact Wk.refl _ | exact Wk.nils _ _⟩
 | n + 1, h => exact absurd h (by show ¬ n + 1 < 1; omega)⟩
theorem tyz37 : ZeroOk 37 (.sl (.st 1)) := ⟨rfl, fun z h => by
 injection h with h; subst h
 refine ⟨rfl, fun j hj => ?_⟩
 match j, hj with
 | 0, _ => exact ⟨_, rfl, fun len => by first | exact Wk.refl _ | exact Wk.nils _ _⟩
 | n + 1, h => exact absurd h (by show ¬ n + 1 < 1; omega)⟩
theorem tyz39 : ZeroOk 39 (.st 2) := ⟨rfl, fun z h => by
 injection h with h; subst h
 refine ⟨rfl, fun j hj => ?_⟩
 match j, hj with
 | 0, _ => exact ⟨_, rfl, fun len => by first | exact Wk.refl _ | exact Wk.nils _ _⟩
 | 1, _ => exact ⟨_, rfl, fun len => by first | exact Wk.refl _ | exact Wk.nils _ _⟩
 | 2, _ => exact ⟨_, rfl, fun len => by first | exact Wk.refl _ | exact Wk.nils _ _⟩
 | 3, _ => exact ⟨_, rfl, fun len => by first | exact Wk.refl _ | exact Wk.nils _ _⟩
 | n + 4, h => exact absurd h (by show ¬ n + 4 < 4; omega)⟩
theorem tyz41 : ZeroOk 41 (.st 3) := ⟨rfl, fun z h => by
 injection h with h; subst h
 refine ⟨rfl, fun j hj => ?_⟩
 match j, hj with
 | 0, _ => exact ⟨_, rfl, fun len => by first | exact Wk.refl _ | exact Wk.nils _ _⟩
 | 1, _ => exact ⟨_, rfl, fun len => by first | exact Wk.refl _ | exact Wk.nils _ _⟩
 | 2, _ => exact ⟨_, rfl, fun len => by first | exact Wk.refl _ | exact Wk.nils _ _⟩
 | 3, _ => exact ⟨_, rfl, fun len => by first | exact Wk.refl _ | exact Wk.nils _ _⟩
 | 4, _ => exact ⟨_, rfl, fun len => by first | exact Wk.refl _ | exact Wk.nils _ _⟩
 | 5, _ => exact ⟨_, rfl, fun len => by first | exact Wk.refl _ | exact Wk.nils _ _⟩
 | 6, _ => exact ⟨_, rfl, fun len => by first | exact Wk.refl _ | exact Wk.nils _ _⟩
 | 7, _ => exact ⟨_, rfl, fun len => by first | exact Wk.refl _ | exact Wk.nils _ _⟩
 | 8, _ => exact ⟨_, rfl, fun len => by first | exact Wk.refl _ | exact Wk.nils _ _⟩
 | n + 9, h => exact absurd h (by show ¬ n + 9 < 9; omega)⟩
theorem tyz44 : ZeroOk 44 (.int .u64) := ⟨rfl, fun z h => by
 injection h with h; subst h
 refine ⟨rfl, fun j hj => ?_⟩
 match j, hj with
 | 0, _ => exact ⟨_, rfl, fun len => by first | exact Wk.refl _ | exact Wk.nils _ _⟩
 | n + 1, h => exact absurd h (by show ¬ n + 1 < 1; omega)⟩
theorem tyz46 : ZeroOk 46 (.st 0) := ⟨rfl, fun z h => by
 injection h with h; subst h
 refine ⟨rfl, fun j hj => ?_⟩
 match j, hj with
 | 0, _ => exact ⟨_, rfl, fun len => by first | exact Wk.refl _ | exact Wk.nils _ _⟩
 | 1, _ => exact ⟨_, rfl, fun len => by first | exact Wk.refl _ | exact Wk.nils _ _⟩
 | 2, _ => exact ⟨_, rfl, fun len => by first | exact Wk.refl _ | exact Wk.nils _ _⟩
 | 3, _ => exact ⟨_, rfl, fun len => by first | exact Wk.refl _ | exact Wk.nils _ _⟩
 | 4, _ => exact ⟨_, rfl, fun len => by first | exact Wk.refl _ | exact Wk.nils _ _⟩
 | n + 5, h => exact absurd h (by show ¬ n + 5 < 5; omega)⟩
theorem tyz51 : ZeroOk 51 (.st 1) := ⟨rfl, fun z h => by
 injection h with h; subst h
 refine ⟨rfl, fun j hj => ?_⟩
 match j, hj with
 | 0, _ => exact ⟨_, rfl, fun len => by first | exact Wk.refl _ | exact Wk.nils _ _⟩
 | 1, _ => exact ⟨_, rfl, fun len => by first | exact Wk.refl _ | exact Wk.nils _ _⟩
 | n + 2, h => exact absurd h (by show ¬ n + 2 < 2; omega)⟩
theorem tyz53 : ZeroOk 53 (.st 4) := ⟨rfl, fun z h => by
 injection h with h; subst h
 refine ⟨rfl, fun j hj => ?_⟩
 match j, hj with
 | 0, _ => exact ⟨_, rfl, fun len => by first | exact Wk.refl _ | exact Wk.nils _ _⟩
 | 1, _ => exact ⟨_, rfl, fun len => by first | exact Wk.refl _ | exact Wk.nils _ _⟩
 | 2, _ => exact ⟨_, rfl, fun len => by first | exact Wk.refl _ | exact Wk.nils _ _⟩
 | 3, _ => exact ⟨_, rfl, fun len => by first | exact Wk.refl _ | exact Wk.nils _ _⟩
 | 4, _ => exact ⟨_, rfl, fun len => by first | exact Wk.refl _ | exact Wk.nils _ _⟩
 | n + 5, h => exact absurd h (by show ¬ n + 5 < 5; omega)⟩
theorem tyz55 : ZeroOk 55 (.st 5) := ⟨rfl, fun z h => by
 injection h with h; subst h
 refine ⟨rfl, fun j hj => ?_⟩
 match j, hj with
 | 0, _ => exact ⟨_, rfl, fun len => by first | exact Wk.refl _ | exact Wk.nils _ _⟩
 | 1, _ => exact ⟨_, rfl, fun len => by first | exact Wk.refl _ | exact Wk.nils _ _⟩
 | 2, _ => exact ⟨_, rfl, fun len => by first | exact Wk.refl _ | exact Wk.nils _ _⟩
 | n + 3, h => exact absurd h (by show ¬ n + 3 < 3; omega)⟩
theorem tyz57 : ZeroOk 57 (.st 7) := ⟨rfl, fun z h => by
 injection h with h; subst h
 refine ⟨rfl, fun j hj => ?_⟩
 match j, hj with
 | 0, _ => exact ⟨_, rfl, fun len => by first | exact Wk.refl _ | exact Wk.nils _ _⟩
 | 1, _ => exact ⟨_, rfl, fun len => by first | exact Wk.refl _ | exact Wk.nils _ _⟩
 | n + 2, h => exact absurd h (by show ¬ n + 2 < 2; omega)⟩
theorem tyz67 : ZeroOk 67 (.sl (.sl (.int .i64))) := ⟨rfl, fun z h => by
 injection h with h; subst h
 refine ⟨rfl, fun j hj => ?_⟩
 match j, hj with
 | 0, _ => exact ⟨_, rfl, fun len => by first | exact Wk.refl _ | exact Wk.nils _ _⟩
 | n + 1, h => exact absurd h (by show ¬ n + 1 < 1; omega)⟩
theorem tyz69 : ZeroOk 69 (.sl .bool) := ⟨rfl, fun z h => by
 injection h with h; subst h
 refine ⟨rfl, fun j hj => ?_⟩
 match j, hj with
 | 0, _ => exact ⟨_, rfl, fun len => by first | exact Wk.refl _ | exact Wk.nils _ _⟩
 | n + 1, h => exact absurd h (by show ¬ n + 1 < 1; omega)⟩
theorem tyz113 : ZeroOk 113 (.sl .str) := ⟨rfl, fun z h => by
 injection h with h; subst h
 refine ⟨rfl, fun j hj => ?_⟩
 match j, hj with
 | 0, _ => exact ⟨_, rfl, fun len => by first | exact Wk.refl _ | exact Wk.nils _ _⟩
 | n + 1, h => exact absurd h (by show ¬ n + 1 < 1; omega)⟩
theorem tyz133 : ZeroOk 133 (.sl (.int .u8)) := ⟨rfl, fun z h => by
 injection h with h; subst h
 refine ⟨rfl, fun j hj => ?_⟩
 match j, hj with
 | 0, _ => exact ⟨_, rfl, fun len => by first | exact Wk.refl _ | exact Wk.nils _ _⟩
 | n + 1, h => exact absurd h (by show ¬ n + 1 < 1; omega)⟩
theorem tyz142 : ZeroOk 142 (.int .u64) := ⟨rfl, fun z h => by
 injection h with h; subst h
 refine ⟨rfl, fun j hj => ?_⟩
 match j, hj with
 | 0, _ => exact ⟨_, rfl, fun len => by first | exact Wk.refl _ | exact Wk.nils _ _⟩
 | n + 1, h => exact absurd h (by show ¬ n + 1 < 1; omega)⟩
theorem tyz148 : ZeroOk 148 (.int .i64) := ⟨rfl, fun z h => by
 injection h with h; subst h
 refine ⟨rfl, fun j hj => ?_⟩
 match j, hj with
 | 0, _ => exact ⟨_, rfl, fun len => by first | exact Wk.refl _ | exact Wk.nils _ _⟩
 | n + 1, h => exact absurd h (by show ¬ n + 1 < 1; omega)⟩
theorem tyz155 : ZeroOk 155 (.int .u32) := ⟨rfl, fun z h => by
 injection h with h; subst h
 refine ⟨rfl, fun j hj => ?_⟩
 match j, hj with
 | 0, _ => exact ⟨_, rfl, fun len => by first | exact Wk.refl _ | exact Wk.nils _ _⟩
 | n + 1, h => exact absurd h (by show ¬ n + 1 < 1; omega)⟩
theorem tyz157 : ZeroOk 157 (.int .u64) := ⟨rfl, fun z h => by
 injection h with h; subst h
 refine ⟨rfl, fun j hj => ?_⟩
 match j, hj with
 | 0, _ => exact ⟨_, rfl, fun len => by first | exact Wk.refl _ | exact Wk.nils _ _⟩
 | n + 1, h => exact absurd h (by show ¬ n + 1 < 1; omega)⟩
def ZOk (t : TypeId) (o : Option Ty) : Prop := ∀ τ, o = some τ -> ZeroOk t τ
theorem zNode {t : TypeId} {b : Bool} {x y : Option Ty} (h1 : ZOk t x) (h2 : ZOk t y) : ZOk t (bif b then x else y) := by cases b <;> assumption
theorem zLeaf {t n : TypeId} {x : Ty} (h : ZeroOk n x) : ZOk t (bif Nat.beq t n then some x else none) := fun τ e => by
 cases hb : Nat.beq t n with
 | true => rw [hb] at e; obtain rfl := Nat.eq_of_beq_eq_true hb; cases e; exact h
 | false => rw [hb] at e; cases e
def tyes (t : TypeId) : Option Ty := (bif Nat.blt t 44 then (bif Nat.blt t 27 then (bif Nat.blt t 5 then (bif Nat.blt t 3 then (bif Nat.beq t 2 then some (.int .i64) else none) else (bif Nat.blt t 4 then (bif Nat.beq t 3 then some (.int .i64) else none) else (bif Nat.beq t 4 then some .bool else none))) else (bif Nat.blt t 25 then (bif Nat.blt t 9 then (bif Nat.beq t 5 then some (.int .u8) else none) else (bif Nat.beq t 9 then some .str else none)) else (bif Nat.blt t 26 then (bif Nat.beq t 25 then some (.sl (.int .i64)) else none) else (bif Nat.beq t 26 then some (.sl (.st 4)) else none)))) else (bif Nat.blt t 36 then (bif Nat.blt t 28 then (bif Nat.beq t 27 then some (.sl (.st 5)) else none) else (bif Nat.blt t 30 then (bif Nat.beq t 28 then some (.sl (.st 3)) else none) else (bif Nat.beq t 30 then some (.st 6) else none))) else (bif Nat.blt t 39 then (bif Nat.blt t 37 then (bif Nat.beq t 36 then some (.sl (.st 0)) else none) else (bif Nat.beq t 37 then some (.sl (.st 1)) else none)) else (bif Nat.blt t 41 then (bif Nat.beq t 39 then some (.st 2) else none) else (bif Nat.beq t 41 then some (.st 3) else none))))) else (bif Nat.blt t 69 then (bif Nat.blt t 53 then (bif Nat.blt t 46 then (bif Nat.beq t 44 then some (.int .u64) else none) else (bif Nat.blt t 51 then (bif Nat.beq t 46 then some (.st 0) else none) else (bif Nat.beq t 51 then some (.st 1) else none))) else (bif Nat.blt t 57 then (bif Nat.blt t 55 then (bif Nat.beq t 53 then some (.st 4) else none) else (bif Nat.beq t 55 then some (.st 5) else none)) else (bif Nat.blt t 67 then (bif Nat.beq t 57 then some (.st 7) else none) else (bif Nat.beq t 67 then some (.sl (.sl (.int .i64))) else none)))) else (bif Nat.blt t 142 then (bif Nat.blt t 113 then (bif Nat.beq t 69 then some (.sl .bool) else none) else (bif Nat.blt t 133 then (bif Nat.beq t 113 then some (.sl .str) else none) else (bif Nat.beq t 133 then some (.sl (.int .u8)) else none))) else (bif Nat.blt t 155 then (bif Nat.blt t 148 then (bif Nat.beq t 142 then some (.int .u64) else none) else (bif Nat.beq t 148 then some (.int .i64) else none)) else (bif Nat.blt t 157 then (bif Nat.beq t 155 then some (.int .u32) else none) else (bif Nat.beq t 157 then some (.int .u64) else none))))))
theorem tyes_ok (t : TypeId) : ZOk t (tyes t) := (zNode (zNode (zNode (zNode (zLeaf tyz2) (zNode (zLeaf tyz3) (zLeaf tyz4))) (zNode (zNode (zLeaf tyz5) (zLeaf tyz9)) (zNode (zLeaf tyz25) (zLeaf tyz26)))) (zNode (zNode (zLeaf tyz27) (zNode (zLeaf tyz28) (zLeaf tyz30))) (zNode (zNode (zLeaf tyz36) (zLeaf tyz37)) (zNode (zLeaf tyz39) (zLeaf tyz41))))) (zNode (zNode (zNode (zLeaf tyz44) (zNode (zLeaf tyz46) (zLeaf tyz51))) (zNode (zNode (zLeaf tyz53) (zLeaf tyz55)) (zNode (zLeaf tyz57) (zLeaf tyz67)))) (zNode (zNode (zLeaf tyz69) (zNode (zLeaf tyz113) (zLeaf tyz133))) (zNode (zNode (zLeaf tyz142) (zLeaf tyz148)) (zNode (zLeaf tyz155) (zLeaf tyz157))))))
def tyos (t : TypeId) : Option Ty := bif Nat.beq t 25 then some (.st 12) else none
theorem tyos_ok (t : TypeId) (τ : Ty) (z : Value) (h : tyos t = some τ) (hz : (Tys.c Try.prog t).zero = some z) : τ.sz = z.cells.size /\ ∀ j, j < τ.sz -> (∃ u, cellC τ τ.z j = .ev u /\ ∀ len, Wk (V.cell (z.cells.getD j undef)) (toV len u)) \/ ∃ t' e', cellC τ τ.z j = .own t' e' [] /\ V.cell (z.cells.getD j undef) = .nils := by
 unfold tyos at h
 cases hb : Nat.beq t 25 with
 | true =>
  rw [hb] at h
  obtain rfl := Nat.eq_of_beq_eq_true hb
  injection h with h; subst h
  injection hz with hz; subst hz
  refine ⟨rfl, fun j hj => ?_⟩
  match j, hj with
  | 0, _ => exact .inr ⟨3, .int .i64, rfl, rfl⟩
  | n + 1, h => exact absurd h (by show ¬ n + 1 < 1; omega)
 | false =>
 rw [hb] at h
 cases h
instance : TyE Try.prog := ⟨tyes, fun t τ h => (tyes_ok t τ h).1, fun t τ z h hz => (tyes_ok t τ h).2 z hz, tyos, fun t τ z h hz => tyos_ok t τ z h hz⟩
end Go.Abs
namespace Go.Abs
open Go Go.Proofs
def tyx30 : TyXE := { nf := some 6 }
theorem tyx30_ok : TyXE.Ok Try.prog 30 tyx30 := ⟨(fun m h => by cases h; exact ⟨_, Try.underlying30, rfl, by kernel_rfl⟩), (fun l h => by cases h), (fun s e τ h => by cases h), (fun m s h => by cases h), (fun m q h => by cases h)⟩
def tyx39 : TyXE := { nf := some 4 }
theorem tyx39_ok : TyXE.Ok Try.prog 39 tyx39 := ⟨(fun m h => by cases h; exact ⟨_, Try.underlying39, rfl, by kernel_rfl⟩), (fun l h => by cases h), (fun s e τ h => by cases h), (fun m s h => by cases h), (fun m q h => by cases h)⟩
def tyx41 : TyXE := { nf := some 6 }
theorem tyx41_ok : TyXE.Ok Try.prog 41 tyx41 := ⟨(fun m h => by cases h; exact ⟨_, Try.underlying41, rfl, by kernel_rfl⟩), (fun l h => by cases h), (fun s e τ h => by cases h), (fun m s h => by cases h), (fun m q h => by cases h)⟩
def tyx46 : TyXE := { nf := some 5 }
theorem tyx46_ok : TyXE.Ok Try.prog 46 tyx46 := ⟨(fun m h => by cases h; exact ⟨_, Try.underlying46, rfl, by kernel_rfl⟩), (fun l h => by cases h), (fun s e τ h => by cases h), (fun m s h => by cases h), (fun m q h => by cases h)⟩
def tyx51 : TyXE := { nf := some 2 }
theorem tyx51_ok : TyXE.Ok Try.prog 51 tyx51 := ⟨(fun m h => by cases h; exact ⟨_, Try.underlying51, rfl, by kernel_rfl⟩), (fun l h => by cases h), (fun s e τ h => by cases h), (fun m s h => by cases h), (fun m q h => by cases h)⟩
def tyx53 : TyXE := { nf := some 5, eq := some [.string, (.int .i64), (.int .i64), (.int .i64), (.int .i64)] }
theorem tyx53_ok : TyXE.Ok Try.prog 53 tyx53 := ⟨(fun m h => by cases h; exact ⟨_, Try.underlying53, rfl, by kernel_rfl⟩), (fun l h => by cases h; kernel_rfl), (fun s e τ h => by cases h), (fun m s h => by cases h), (fun m q h => by cases h)⟩
def tyx55 : TyXE := { nf := some 3, eq := some [.string, (.int .i64), .bool] }
theorem tyx55_ok : TyXE.Ok Try.prog 55 tyx55 := ⟨(fun m h => by cases h; exact ⟨_, Try.underlying55, rfl, by kernel_rfl⟩), (fun l h => by cases h; kernel_rfl), (fun s e τ h => by cases h), (fun m s h => by cases h), (fun m q h => by cases h)⟩
def tyx57 : TyXE := { nf := some 2, eq := some [(.int .i64), .bool] }
theorem tyx57_ok : TyXE.Ok Try.prog 57 tyx57 := ⟨(fun m h => by cases h; exact ⟨_, Try.underlying57, rfl, by kernel_rfl⟩), (fun l h => by cases h; kernel_rfl), (fun s e τ h => by cases h), (fun m s h => by cases h), (fun m q h => by cases h)⟩
def tyx58 : TyXE := { ar := some (2, 2) }
theorem tyx58_ok : TyXE.Ok Try.prog 58 tyx58 := ⟨(fun m h => by cases h), (fun l h => by cases h), (fun s e τ h => by cases h), (fun m s h => by cases h; exact ⟨_, inferInstance⟩), (fun m q h => by cases h)⟩
def tyx59 : TyXE := { ar := some (2, 1), ba := some (2, (.int .u64)) }
theorem tyx59_ok : TyXE.Ok Try.prog 59 tyx59 := ⟨(fun m h => by cases h), (fun l h => by cases h), (fun s e τ h => by cases h), (fun m s h => by cases h; exact ⟨_, inferInstance⟩), (fun m q h => by cases h; kernel_rfl)⟩
def tyx64 : TyXE := { ar := some (2, 1), ba := some (2, (.int .u8)) }
theorem tyx64_ok : TyXE.Ok Try.prog 64 tyx64 := ⟨(fun m h => by cases h), (fun l h => by cases h), (fun s e τ h => by cases h), (fun m s h => by cases h; exact ⟨_, inferInstance⟩), (fun m q h => by cases h; kernel_rfl)⟩
def tyx91 : TyXE := { mp := some (false, 3, (.int .i64)) }
theorem tyx91_ok : TyXE.Ok Try.prog 91 tyx91 := ⟨(fun m h => by cases h), (fun l h => by cases h), (fun s e τ h => by cases h; exact ⟨⟨_, Try.underlying91, Try.underlying3⟩⟩), (fun m s h => by cases h), (fun m q h => by cases h)⟩
def tyx107 : TyXE := { nf := some 3 }
theorem tyx107_ok : TyXE.Ok Try.prog 107 tyx107 := ⟨(fun m h => by cases h; exact ⟨_, Try.underlying107, rfl, by kernel_rfl⟩), (fun l h => by cases h), (fun s e τ h => by cases h), (fun m s h => by cases h), (fun m q h => by cases h)⟩
def tyx134 : TyXE := { mp := some (true, 4, .bool) }
theorem tyx134_ok : TyXE.Ok Try.prog 134 tyx134 := ⟨(fun m h => by cases h), (fun l h => by cases h), (fun s e τ h => by cases h; exact ⟨⟨_, Try.underlying134, Try.underlying9⟩⟩), (fun m s h => by cases h), (fun m q h => by cases h)⟩
def tyx144 : TyXE := { ar := some (3, 1), ba := some (3, (.int .i64)) }
theorem tyx144_ok : TyXE.Ok Try.prog 144 tyx144 := ⟨(fun m h => by cases h), (fun l h => by cases h), (fun s e τ h => by cases h), (fun m s h => by cases h; exact ⟨_, inferInstance⟩), (fun m q h => by cases h; kernel_rfl)⟩
theorem xNode {t : TypeId} {b : Bool} {x y : TyXE} (h1 : TyXE.Ok Try.prog t x) (h2 : TyXE.Ok Try.prog t y) : TyXE.Ok Try.prog t (bif b then x else y) := by cases b <;> assumption
theorem xLeaf {t n : TypeId} {x : TyXE} (h : TyXE.Ok Try.prog n x) : TyXE.Ok Try.prog t (bif Nat.beq t n then x else {}) := by
 cases hb : Nat.beq t n with
 | true => obtain rfl := Nat.eq_of_beq_eq_true hb; exact h
 | false => exact ⟨fun m h => (by cases h), fun l h => (by cases h), fun s e τ h => (by cases h), fun m s h => (by cases h), fun m q h => (by cases h)⟩
def tyxs (t : TypeId) : TyXE := (bif Nat.blt t 57 then (bif Nat.blt t 46 then (bif Nat.blt t 39 then (bif Nat.beq t 30 then tyx30 else {}) else (bif Nat.blt t 41 then (bif Nat.beq t 39 then tyx39 else {}) else (bif Nat.beq t 41 then tyx41 else {}))) else (bif Nat.blt t 53 then (bif Nat.blt t 51 then (bif Nat.beq t 46 then tyx46 else {}) else (bif Nat.beq t 51 then tyx51 else {})) else (bif Nat.blt t 55 then (bif Nat.beq t 53 then tyx53 else {}) else (bif Nat.beq t 55 then tyx55 else {})))) else (bif Nat.blt t 91 then (bif Nat.blt t 59 then (bif Nat.blt t 58 then (bif Nat.beq t 57 then tyx57 else {}) else (bif Nat.beq t 58 then tyx58 else {})) else (bif Nat.blt t 64 then (bif Nat.beq t 59 then tyx59 else {}) else (bif Nat.beq t 64 then tyx64 else {}))) else (bif Nat.blt t 134 then (bif Nat.blt t 107 then (bif Nat.beq t 91 then tyx91 else {}) else (bif Nat.beq t 107 then tyx107 else {})) else (bif Nat.blt t 144 then (bif Nat.beq t 134 then tyx134 else {}) else (bif Nat.beq t 144 then tyx144 else {})))))
theorem tyxs_ok (t : TypeId) : TyXE.Ok Try.prog t (tyxs t) := (xNode (xNode (xNode (xLeaf tyx30_ok) (xNode (xLeaf tyx39_ok) (xLeaf tyx41_ok))) (xNode (xNode (xLeaf tyx46_ok) (xLeaf tyx51_ok)) (xNode (xLeaf tyx53_ok) (xLeaf tyx55_ok)))) (xNode (xNode (xNode (xLeaf tyx57_ok) (xLeaf tyx58_ok)) (xNode (xLeaf tyx59_ok) (xLeaf tyx64_ok))) (xNode (xNode (xLeaf tyx91_ok) (xLeaf tyx107_ok)) (xNode (xLeaf tyx134_ok) (xLeaf tyx144_ok)))))
instance : TyX Try.prog := ⟨tyxs, tyxs_ok⟩
end Go.Abs
set_option maxHeartbeats 1000000
namespace Go.Abs
open Go Go.Proofs
noncomputable section
def ann42 : Ann := (.seq .o (.seq .o .o))
def go42 (x0 : Int) : (Option (Bool × Unit)) :=
 (bif (decide ((2 : Int) <= x0)) then
  (some ((decide (x0 <= (20 : Int))), ()))
  else
  (some (false, ())))
theorem run42 (x0 : Int) : runF (P := Try.prog) [] Try.f42 ann42 [(0, (.i .i64))] [] .b [] (x0, ()) () = go42 x0 := by kernel_rfl
def ann43 : Ann := (.seq .o (.seq .o .o))
def go43 (x0 : Int) : (Option (Bool × Unit)) :=
 (bif (decide ((2 : Int) <= x0)) then
  (some ((decide (x0 <= (20 : Int))), ()))
  else
  (some (false, ())))
theorem run43 (x0 : Int) : runF (P := Try.prog) [] Try.f43 ann43 [(0, (.i .i64))] [] .b [] (x0, ()) () = go43 x0 := by kernel_rfl
def ann15 : Ann := (.seq .o (.seq .o .o))
def go15 (x0 : Int) : (Option (Bool × Unit)) :=
 (bif (decide ((1 : Int) <= x0)) then
  (some ((decide (x0 <= (24 : Int))), ()))
  else
  (some (false, ())))
theorem run15 (x0 : Int) : runF (P := Try.prog) [] Try.f15 ann15 [(0, (.i .i64))] [] .b [] (x0, ()) () = go15 x0 := by kernel_rfl
def ann92 : Ann := (.seq .o (.seq .o .o))
def go92 (x0 : Int) : (Option (Bool × Unit)) :=
 (bif (decide ((1 : Int) <= x0)) then
  (some ((decide (x0 <= (64 : Int))), ()))
  else
  (some (false, ())))
theorem run92 (x0 : Int) : runF (P := Try.prog) [] Try.f92 ann92 [(0, (.i .i64))] [] .b [] (x0, ()) () = go92 x0 := by kernel_rfl
def ann94 : Ann := (.seq .o (.seq .o .o))
def go94 (x0 : Int) : (Option (Bool × Unit)) :=
 (bif (decide ((15 : Int) <= x0)) then
  (some ((decide (x0 <= (20 : Int))), ()))
  else
  (some (false, ())))
theorem run94 (x0 : Int) : runF (P := Try.prog) [] Try.f94 ann94 [(0, (.i .i64))] [] .b [] (x0, ()) () = go94 x0 := by kernel_rfl
def ann90 : Ann := (.seq .o (.seq .o .o))
def go90 (x0 : Int) : (Option (Bool × Unit)) :=
 (bif (decide ((97 : Int) <= x0)) then
  (bif (decide (x0 <= (122 : Int))) then
   (some (true, ()))
   else
   (bif (decide ((65 : Int) <= x0)) then
    (bif (decide (x0 <= (90 : Int))) then
     (some (true, ()))
     else
     (some ((decide (x0 = (95 : Int))), ())))
    else
    (some ((decide (x0 = (95 : Int))), ()))))
  else
  (bif (decide ((65 : Int) <= x0)) then
   (bif (decide (x0 <= (90 : Int))) then
    (some (true, ()))
    else
    (some ((decide (x0 = (95 : Int))), ())))
   else
   (some ((decide (x0 = (95 : Int))), ()))))
theorem run90 (x0 : Int) : runF (P := Try.prog) [] Try.f90 ann90 [(0, (.i .u8))] [] .b [] (x0, ()) () = go90 x0 := by kernel_rfl
def ann47 : Ann := (.seq .o (.seq .o .o))
def go47 (x0 : Fn) (x1 : Int) : (Option (Bool × Unit)) :=
 (bif (decide ((0 : Int) <= x1)) then
  (some ((decide (x1 < ((x0.widths.length : Nat) : Int))), ()))
  else
  (some (false, ())))
theorem run47 (x0 : Fn) (x1 : Int) : runF (P := Try.prog) [] Try.f47 ann47 [(0, (.st 6)), (1, (.i .i64))] [] .b [] (x0, (x1, ())) () = go47 x0 x1 := by kernel_rfl
def ann78 : Ann := (.seq .o (.seq .o .o))
def go78 (x0 : Int) : (Option (Int × Unit)) :=
 (some ((if ((64 : Int) < (if ((0 : Int) > x0) then (0 : Int) else x0)) then (64 : Int) else (if ((0 : Int) > x0) then (0 : Int) else x0)), ()))
theorem run78 (x0 : Int) : runF (P := Try.prog) [] Try.f78 ann78 [(0, (.i .i64))] [] (.i .i64) [] (x0, ()) () = go78 x0 := by kernel_rfl
def ann17 : Ann := (.seq .o (.seq .o (.join ⟨[(1, (.ptr 0 0)), (3, (.i .i64))], [(.box 30 (.st 6))]⟩ (.seq .o (.block (.loop ⟨[(1, (.ptr 0 0)), (3, (.i .i64)), (4, (.i .i64))], [(.box 30 (.st 6))]⟩ [((.exit 0), ⟨[(1, (.ptr 0 0)), (3, (.i .i64))], [(.box 30 (.st 6))]⟩), (.ret, ⟨[(2, .b)], []⟩)] (.join ⟨[(1, (.ptr 0 0)), (3, (.i .i64)), (4, (.i .i64))], [(.box 30 (.st 6))]⟩ (.seq .o (.cond .o .o)) (.join ⟨[(1, (.ptr 0 0)), (3, (.i .i64)), (4, (.i .i64))], [(.box 30 (.st 6))]⟩ (.block (.seq .w (.seq .o (.cond (.seq .o .o) .o)))) .o))))) (.seq .o .o))))
def go17_l1 : ((Unit × (Int × (Int × Unit))) × (Fn × Unit)) -> Option (((Unit × (Int × (Int × Unit))) × (Fn × Unit)) ⊕ (((Unit × (Int × Unit)) × (Fn × Unit)) ⊕ ((Bool × Unit) × Unit))) := (fun (r0 : ((Unit × (Int × (Int × Unit))) × (Fn × Unit))) => (bif (decide (r0.1.2.2.1 < ((r0.2.1.blocks.length : Nat) : Int))) then
   (grd (okB (((0 : Int) <= r0.1.2.2.1) /\ (r0.1.2.2.1 < ((r0.2.1.blocks.length : Nat) : Int))))
    (grd (okB (((0 : Int) <= r0.1.2.2.1) /\ (r0.1.2.2.1 < ((r0.2.1.blocks.length : Nat) : Int))))
     (bif (decide ((100 : Int) < (((r0.2.1.blocks.getD r0.1.2.2.1.toNat Block.z).params.length : Nat) : Int))) then
      (some (Sum.inr (Sum.inr ((false, ()), ()))))
      else
      (grd (okB (((-(9223372036854775808 : Int)) <= (r0.1.2.2.1 + (1 : Int))) /\ ((r0.1.2.2.1 + (1 : Int)) <= (9223372036854775807 : Int))))
       (some (Sum.inl (((), ((Go.IntKind.wrap Go.IntKind.i64 (r0.1.2.1 + (((r0.2.1.blocks.getD r0.1.2.2.1.toNat Block.z).insts.length : Nat) : Int))), ((r0.1.2.2.1 + (1 : Int)), ()))), (r0.2.1, ()))))))))
   else
   (some (Sum.inr (Sum.inl (((), (r0.1.2.1, ())), (r0.2.1, ())))))))
def go17 (x0 : Fn) : (Option (Bool × Unit)) :=
 (callB (whileO (go17_l1) (((), ((0 : Int), ((0 : Int), ()))), (x0, ())))
  (fun (z0 : (((Unit × (Int × Unit)) × (Fn × Unit)) ⊕ ((Bool × Unit) × Unit))) => (sumO (fun (z1 : ((Unit × (Int × Unit)) × (Fn × Unit))) => (bif (decide (((z1.2.1.blocks.length : Nat) : Int) <= (30 : Int))) then
      (bif (decide (z1.1.2.1 <= (300 : Int))) then
       (some ((decide (((z1.2.1.widths.length : Nat) : Int) <= (600 : Int))), ()))
       else
       (some (false, ())))
      else
      (some (false, ()))))
    (fun (z1 : ((Bool × Unit) × Unit)) => (some (z1.1.1, ()))) z0)))
theorem run17 (x0 : Fn) : runF (P := Try.prog) [] Try.f17 ann17 [(0, (.st 6))] [] .b [] (x0, ()) () = go17 x0 := by kernel_rfl
def ann91 : Ann := (.seq .o (.seq .o (.join ⟨[(0, (.i .u8)), (1, (.i .i64)), (5, (.i .i64))], []⟩ (.seq .o (.cond .o .o)) (.join ⟨[(0, (.i .u8)), (1, (.i .i64)), (5, (.i .i64))], []⟩ (.seq .o (.cond .o .o)) (.join ⟨[(1, (.i .i64)), (5, (.i .i64))], []⟩ (.seq .o (.cond .o .o)) (.join ⟨[(5, (.i .i64))], []⟩ (.seq .o (.cond (.seq .o .o) .o)) (.seq .o .o)))))))
def go91_j3 : ((Int × (Int × Unit)) × Unit) -> Option (Int × Unit) := (fun (z2 : ((Int × (Int × Unit)) × Unit)) => (bif (decide (z2.1.1 <= z2.1.2.1)) then
   (some ((-(1 : Int)), ()))
   else
   (some (z2.1.2.1, ()))))
def go91_j2 : ((Int × (Int × (Int × Unit))) × Unit) -> Option (Int × Unit) := (fun (z1 : ((Int × (Int × (Int × Unit))) × Unit)) => (jpO (go91_j3)
   (fun (j0 : (((Int × (Int × Unit)) × Unit) -> (Option (Int × Unit)))) => (bif (decide ((65 : Int) <= z1.1.1)) then
     (bif (decide (z1.1.1 <= (70 : Int))) then
      (grd (okB (((-(9223372036854775808 : Int)) <= ((Go.IntKind.wrap Go.IntKind.i64 (Go.IntKind.wrap Go.IntKind.u8 (z1.1.1 - (65 : Int)))) + (10 : Int))) /\ (((Go.IntKind.wrap Go.IntKind.i64 (Go.IntKind.wrap Go.IntKind.u8 (z1.1.1 - (65 : Int)))) + (10 : Int)) <= (9223372036854775807 : Int))))
       (j0 ((z1.1.2.1, (((Go.IntKind.wrap Go.IntKind.i64 (Go.IntKind.wrap Go.IntKind.u8 (z1.1.1 - (65 : Int)))) + (10 : Int)), ())), ())))
      else
      (j0 ((z1.1.2.1, (z1.1.2.2.1, ())), ())))
     else
     (j0 ((z1.1.2.1, (z1.1.2.2.1, ())), ()))))))
def go91_j1 : ((Int × (Int × (Int × Unit))) × Unit) -> Option (Int × Unit) := (fun (z0 : ((Int × (Int × (Int × Unit))) × Unit)) => (jpO (go91_j2)
   (fun (j0 : (((Int × (Int × (Int × Unit))) × Unit) -> (Option (Int × Unit)))) => (bif (decide ((97 : Int) <= z0.1.1)) then
     (bif (decide (z0.1.1 <= (102 : Int))) then
      (grd (okB (((-(9223372036854775808 : Int)) <= ((Go.IntKind.wrap Go.IntKind.i64 (Go.IntKind.wrap Go.IntKind.u8 (z0.1.1 - (97 : Int)))) + (10 : Int))) /\ (((Go.IntKind.wrap Go.IntKind.i64 (Go.IntKind.wrap Go.IntKind.u8 (z0.1.1 - (97 : Int)))) + (10 : Int)) <= (9223372036854775807 : Int))))
       (j0 ((z0.1.1, (z0.1.2.1, (((Go.IntKind.wrap Go.IntKind.i64 (Go.IntKind.wrap Go.IntKind.u8 (z0.1.1 - (97 : Int)))) + (10 : Int)), ()))), ())))
      else
      (j0 ((z0.1.1, (z0.1.2.1, (z0.1.2.2.1, ()))), ())))
     else
     (j0 ((z0.1.1, (z0.1.2.1, (z0.1.2.2.1, ()))), ()))))))
def go91 (x0 : Int) (x1 : Int) : (Option (Int × Unit)) :=
 (jpO (go91_j1)
  (fun (j0 : (((Int × (Int × (Int × Unit))) × Unit) -> (Option (Int × Unit)))) => (bif (decide ((48 : Int) <= x0)) then
    (bif (decide (x0 <= (57 : Int))) then
     (j0 ((x0, (x1, ((Go.IntKind.wrap Go.IntKind.i64 (Go.IntKind.wrap Go.IntKind.u8 (x0 - (48 : Int)))), ()))), ()))
     else
     (j0 ((x0, (x1, ((-(1 : Int)), ()))), ())))
    else
    (j0 ((x0, (x1, ((-(1 : Int)), ()))), ())))))
theorem run91 (x0 : Int) (x1 : Int) : runF (P := Try.prog) [] Try.f91 ann91 [(0, (.i .u8)), (1, (.i .i64))] [] (.i .i64) [] (x0, (x1, ())) () = go91 x0 x1 := by kernel_rfl
def ann79 : Ann := (.seq .o (.seq .o (.join ⟨[(3, (.i .u64))], []⟩ (.seq .o (.block (.loop ⟨[(0, (.fz (.int .i64))), (3, (.i .u64)), (4, (.i .i64))], []⟩ [((.exit 0), ⟨[(3, (.i .u64))], []⟩)] (.join ⟨[(0, (.fz (.int .i64))), (3, (.i .u64)), (4, (.i .i64))], []⟩ (.seq .o (.cond .o .o)) (.join ⟨[(0, (.fz (.int .i64))), (3, (.i .u64)), (4, (.i .i64))], []⟩ (.block .o) .o))))) (.seq .o .o))))
def go79_l1 : (((List Int) × (Int × (Int × Unit))) × Unit) -> Option ((((List Int) × (Int × (Int × Unit))) × Unit) ⊕ ((Int × Unit) × Unit)) := (fun (r0 : (((List Int) × (Int × (Int × Unit))) × Unit)) => (bif (decide ((0 : Int) <= r0.1.2.2.1)) then
   (grd (okB (((0 : Int) <= r0.1.2.2.1) /\ (r0.1.2.2.1 < ((r0.1.1.length : Nat) : Int))))
    (grd (okB (((-(9223372036854775808 : Int)) <= (r0.1.2.2.1 - (1 : Int))) /\ ((r0.1.2.2.1 - (1 : Int)) <= (9223372036854775807 : Int))))
     (some (Sum.inl ((r0.1.1, ((Go.IntKind.wrap Go.IntKind.u64 ((Go.IntKind.wrap Go.IntKind.u64 ((2 : Int) * r0.1.2.1)) + (Go.IntKind.wrap Go.IntKind.u64 (r0.1.1.getD r0.1.2.2.1.toNat (0 : Int))))), ((r0.1.2.2.1 - (1 : Int)), ()))), ())))))
   else
   (some (Sum.inr ((r0.1.2.1, ()), ())))))
def go79 (x0 : (List Int)) : (Option (Int × Unit)) :=
 (grd (okB (((-(9223372036854775808 : Int)) <= (((x0.length : Nat) : Int) - (1 : Int))) /\ ((((x0.length : Nat) : Int) - (1 : Int)) <= (9223372036854775807 : Int))))
  (callB (whileO (go79_l1) ((x0, ((0 : Int), ((((x0.length : Nat) : Int) - (1 : Int)), ()))), ()))
   (fun (z0 : ((Int × Unit) × Unit)) => (some (z0.1.1, ())))))
theorem run79 (x0 : (List Int)) : runF (P := Try.prog) [] Try.f79 ann79 [(0, (.fz (.int .i64)))] [] (.i .u64) [] (x0, ()) () = go79 x0 := by kernel_rfl
def Sp.isBinary (op : Int) : Bool := decide (2 <= op) && decide (op <= 20)
theorem ok42 (op : Int) : go42 op = some (Sp.isBinary op, ()) := by
 unfold go42 Sp.isBinary
 by_cases h : 2 <= op <;> simp [h]
def c42 : Ctr Try.prog := mkCtr 42 Try.f42 Try.func42 [] ann42 [(0, (.i .i64))] [] .b [] (fun x _ => some (Sp.isBinary x.1, ())) (fun x _ r h => FE (run42 x.1) (ok42 x.1) h)
theorem ok43 (op : Int) : go43 op = some (Sp.isBinary op, ()) := by
 unfold go43 Sp.isBinary
 by_cases h : 2 <= op <;> simp [h]
def c43 : Ctr Try.prog := mkCtr 43 Try.f43 Try.func43 [] ann43 [(0, (.i .i64))] [] .b [] (fun x _ => some (Sp.isBinary x.1, ())) (fun x _ r h => FE (run43 x.1) (ok43 x.1) h)
def Sp.pureOp (op : Int) : Bool := decide (1 <= op) && decide (op <= 24)
theorem ok15 (op : Int) : go15 op = some (Sp.pureOp op, ()) := by
 unfold go15 Sp.pureOp
 by_cases h : 1 <= op <;> simp [h]
def c15 : Ctr Try.prog := mkCtr 15 Try.f15 Try.func15 [] ann15 [(0, (.i .i64))] [] .b [] (fun x _ => some (Sp.pureOp x.1, ())) (fun x _ r h => FE (run15 x.1) (ok15 x.1) h)
def Sp.right (w : Int) : Bool := decide (1 <= w) && decide (w <= 64)
theorem ok92 (op : Int) : go92 op = some (Sp.right op, ()) := by
 unfold go92 Sp.right
 by_cases h : 1 <= op <;> simp [h]
def c92 : Ctr Try.prog := mkCtr 92 Try.f92 Try.func92 [] ann92 [(0, (.i .i64))] [] .b [] (fun x _ => some (Sp.right x.1, ())) (fun x _ r h => FE (run92 x.1) (ok92 x.1) h)
def Sp.isCompare (op : Int) : Bool := decide (15 <= op) && decide (op <= 20)
theorem ok94 (op : Int) : go94 op = some (Sp.isCompare op, ()) := by
 unfold go94 Sp.isCompare
 by_cases h : 15 <= op <;> simp [h]
def c94 : Ctr Try.prog := mkCtr 94 Try.f94 Try.func94 [] ann94 [(0, (.i .i64))] [] .b [] (fun x _ => some (Sp.isCompare x.1, ())) (fun x _ r h => FE (run94 x.1) (ok94 x.1) h)
def Sp.letter (c : Int) : Bool := (decide (97 <= c) && decide (c <= 122)) || (decide (65 <= c) && decide (c <= 90)) || decide (c = 95)
theorem ok90 (c : Int) : go90 c = some (Sp.letter c, ()) := by
 unfold go90 Sp.letter
 by_cases h1 : 97 <= c <;> by_cases h2 : c <= 122 <;> by_cases h3 : 65 <= c <;> by_cases h4 : c <= 90 <;> simp [h1, h2, h3, h4]
def c90 : Ctr Try.prog := mkCtr 90 Try.f90 Try.func90 [] ann90 [(0, (.i .u8))] [] .b [] (fun x _ => some (Sp.letter x.1, ())) (fun x _ r h => FE (run90 x.1) (ok90 x.1) h)
def Sp.within (f : Fn) (v : Int) : Bool := decide (0 <= v) && decide (v < f.widths.length)
theorem ok47 (f : Fn) (v : Int) : go47 f v = some (Sp.within f v, ()) := by
 unfold go47 Sp.within
 by_cases h : 0 <= v <;> simp [h]
def c47 : Ctr Try.prog := mkCtr 47 Try.f47 Try.func47 [] ann47 [(0, (.st 6)), (1, (.i .i64))] [] .b [] (fun x _ => some (Sp.within x.1 x.2.1, ())) (fun x _ r h => FE (run47 x.1 x.2.1) (ok47 x.1 x.2.1) h)
abbrev Fn.blk (f : Fn) (i : Nat) : Block := f.blocks.getD i Block.z
theorem Fn.ok_blocks {f : Fn} (h : f.ok) : f.blocks.length <= LEN := h.2.2.2.2.2.len
theorem Fn.ok_blk {f : Fn} (h : f.ok) {i : Nat} (hi : i < f.blocks.length) : (f.blk i).ok := getD_ok h.2.2.2.2.2 _ hi
def Sp.instSum (l : List Block) : Nat -> Int
 | 0 => 0
 | i + 1 => IntKind.i64.wrap (Sp.instSum l i + ((l.getD i Block.z).insts.length : Int))
def Sp.few (f : Fn) : Bool := f.blocks.all (fun b => !decide (100 < (b.params.length : Int))) && decide ((f.blocks.length : Int) <= 30) && decide (Sp.instSum f.blocks f.blocks.length <= 300) && decide ((f.widths.length : Int) <= 600)
theorem ok17 (f : Fn) (hf : f.ok) : go17 f = some (Sp.few f, ()) := by
 have hb := Fn.ok_blocks hf
 rw [lenVal] at hb
 unfold go17 go17_l1
 refine callB_of (whileO_all (l := f.blocks) (st := fun i => (((), Sp.instSum f.blocks i, (i : Int), ()), f, ())) rfl Block.z (fun b => !decide (100 < (b.params.length : Int)))
  (A := .inl (((), Sp.instSum f.blocks f.blocks.length, ()), f, ())) (B := .inr ((false, ()), ())) (fun i hi hp => ?_) (fun i hi hp => ?_) (fun _ => ?_)) ?_
 ·have hp : ¬ 100 < (((f.blocks.getD i Block.z).params.length : Nat) : Int) := by simpa using hp
  simp (maxSteps := 1000000) (disch := ((try dsimp only); omega)) only [↓gsA, gsB]
  rfl
 ·have hp : 100 < (((f.blocks.getD i Block.z).params.length : Nat) : Int) := by simpa using hp
  simp (maxSteps := 1000000) (disch := ((try dsimp only); omega)) only [↓gsA, gsB]
 ·simp (maxSteps := 1000000) (disch := ((try dsimp only); omega)) only [↓gsA, gsB]
 ·unfold Sp.few
  by_cases h : (f.blocks.all fun b => !decide (100 < (b.params.length : Int))) = true
  ·rw [if_pos h, h]
   by_cases h1 : (f.blocks.length : Int) <= 30 <;> by_cases h2 : Sp.instSum f.blocks f.blocks.length <= 300 <;> simp [h1, h2]
  ·rw [if_neg h, eq_false_of_ne_true h]; simp
def c17 : Ctr Try.prog := mkCtr 17 Try.f17 Try.func17 [] ann17 [(0, (.st 6))] [] .b [] (fun x _ => grd (okB x.1.ok) (some (Sp.few x.1, ()))) (fun x _ r h => FO (run17 x.1) (ok17 x.1) h)
def Fn.two (f : Fn) : Prop := ∀ i, i < f.blocks.length -> (f.blk i).term.kind = 2 -> (f.blk i).term.to.length = 2
def Sp.width (w : Int) : Int := if 64 < (if w < 0 then 0 else w) then 64 else (if w < 0 then 0 else w)
theorem width_le (w : Int) : 0 <= Sp.width w /\ Sp.width w <= 64 := by unfold Sp.width; split <;> split <;> omega
theorem ok78 (w : Int) : go78 w = some (Sp.width w, ()) := by unfold go78 Sp.width; rfl
def c78 : Ctr Try.prog := mkCtr 78 Try.f78 Try.func78 [] ann78 [(0, (.i .i64))] [] (.i .i64) [] (fun x _ => some (Sp.width x.1, ())) (fun x _ r h => FE (run78 x.1) (ok78 x.1) h)
def Sp.digit0 (c : Int) : Int := if 48 <= c /\ c <= 57 then c - 48 else -1
def Sp.digit1 (c : Int) : Int := if 97 <= c /\ c <= 102 then c - 97 + 10 else Sp.digit0 c
def Sp.digit2 (c : Int) : Int := if 65 <= c /\ c <= 70 then c - 65 + 10 else Sp.digit1 c
def Sp.digit (c base : Int) : Int := if base <= Sp.digit2 c then -1 else Sp.digit2 c
theorem ok91 (c base : Int) : go91 c base = some (Sp.digit c base, ()) := by
 have u : ∀ z : Int, 0 <= z -> z <= 255 -> IntKind.i64.wrap (IntKind.u8.wrap z) = z := fun z h1 h2 => by
  rw [IntWalk.u8_in _ (by omega), wrap_in (by omega) (by omega)]
 unfold go91 go91_j1 go91_j2 go91_j3 Sp.digit Sp.digit2 Sp.digit1 Sp.digit0
 by_cases a1 : 48 <= c <;> by_cases a2 : c <= 57 <;> by_cases a3 : 97 <= c <;> by_cases a4 : c <= 102 <;> by_cases a5 : 65 <= c <;> by_cases a6 : c <= 70 <;> first
  | omega
  | (simp (disch := omega) only [a1, a2, a3, a4, a5, a6, u, jpO_eq, bif_decide, if_true, if_false, and_self, and_true, true_and, and_false, false_and, grd_dec]
     first | rfl | (split <;> rfl))
def c91 : Ctr Try.prog := mkCtr 91 Try.f91 Try.func91 [] ann91 [(0, (.i .u8)), (1, (.i .i64))] [] (.i .i64) [] (fun x _ => some (Sp.digit x.1 x.2.1, ())) (fun x _ r h => FE (run91 x.1 x.2.1) (ok91 x.1 x.2.1) h)
def Sp.wd (l : List Int) : Nat -> Int
 | 0 => 0
 | k + 1 => IntKind.u64.wrap (IntKind.u64.wrap (2 * Sp.wd l k) + IntKind.u64.wrap (l.getD (l.length - 1 - k) 0))
theorem ok79 (l : List Int) (hl : l.length <= LEN) : go79 l = some (Sp.wd l l.length, ()) := by
 rw [lenVal] at hl
 unfold go79 go79_l1
 simp (maxSteps := 1000000) (disch := ((try dsimp only); omega)) only [↓gsA, gsB]
 refine callB_of (whileO_to (st := fun k => ((l, Sp.wd l k, (l.length : Int) - 1 - k, ()), ())) (by simp [Sp.wd]) l.length (X0 := ((Sp.wd l l.length, ()), ())) (fun k hk => ?_) ?_) ?_
 ·have e : l.length - 1 - k = ((l.length : Int) - 1 - k).toNat := by omega
  have e2 : (l.length : Int) - 1 - ((k + 1 : Nat) : Int) = (l.length : Int) - 1 - k - 1 := by omega
  simp (maxSteps := 1000000) (disch := ((try dsimp only); omega)) only [↓gsA, gsB]
  simp only [Sp.wd, e]
  rw [<- e2]
  rfl
 ·simp (maxSteps := 1000000) (disch := ((try dsimp only); omega)) only [↓gsA, gsB]
 ·rfl
def c79 : Ctr Try.prog := mkCtr 79 Try.f79 Try.func79 [] ann79 [(0, (.fz (.int .i64)))] [] (.i .u64) [] (fun x _ => grd (okB (x.1.length <= LEN)) (some (Sp.wd x.1 x.1.length, ()))) (fun x _ r h => FO (run79 x.1) (ok79 x.1) h)
end
end Go.Abs
namespace Go.Abs
open Go Go.Proofs
noncomputable section
def ann13 : Ann := (.seq .o (.join ⟨[], []⟩ (.block (.seq .o (.cond (.seq .o .o) (.join ⟨[(0, (.i .i64)), (6, .b)], []⟩ (.seq .o (.cond .o (.seq .o (.cond .o .o)))) (.cond (.seq .o .o) (.join ⟨[(0, (.i .i64)), (13, .b)], []⟩ (.seq .o (.cond .o .o)) (.cond (.seq .o .o) (.join ⟨[(18, .b)], []⟩ (.seq .o (.cond .o (.seq .o (.cond .o (.seq .o (.cond .o .o)))))) (.cond (.seq .o .o) .o))))))))) (.seq .o .o)))
def go13_j3 : ((Bool × Unit) × Unit) -> Option (Int × Unit) := (fun (z2 : ((Bool × Unit) × Unit)) => (bif z2.1.1 then
   (some ((1 : Int), ()))
   else
   (some ((-(1 : Int)), ()))))
def go13_j2 : ((Int × (Bool × Unit)) × Unit) -> Option (Int × Unit) := (fun (z1 : ((Int × (Bool × Unit)) × Unit)) => (bif z1.1.2.1 then
   (some ((3 : Int), ()))
   else
   (jpO (go13_j3)
    (fun (j0 : (((Bool × Unit) × Unit) -> (Option (Int × Unit)))) => (bif (decide (z1.1.1 = (22 : Int))) then
      (j0 ((true, ()), ()))
      else
      (bif (decide (z1.1.1 = (23 : Int))) then
       (j0 ((true, ()), ()))
       else
       (bif (decide (z1.1.1 = (24 : Int))) then
        (j0 ((true, ()), ()))
        else
        (j0 (((decide (z1.1.1 = (27 : Int))), ()), ())))))))))
def go13_j1 : ((Int × (Bool × Unit)) × Unit) -> Option (Int × Unit) := (fun (z0 : ((Int × (Bool × Unit)) × Unit)) => (bif z0.1.2.1 then
   (some ((2 : Int), ()))
   else
   (jpO (go13_j2)
    (fun (j0 : (((Int × (Bool × Unit)) × Unit) -> (Option (Int × Unit)))) => (bif (decide (z0.1.1 = (21 : Int))) then
      (j0 ((z0.1.1, (true, ())), ()))
      else
      (j0 ((z0.1.1, ((decide (z0.1.1 = (26 : Int))), ())), ())))))))
def go13 (x0 : Int) : (Option (Int × Unit)) :=
 (bif (decide (x0 = (1 : Int))) then
  (some ((0 : Int), ()))
  else
  (jpO (go13_j1)
   (fun (j0 : (((Int × (Bool × Unit)) × Unit) -> (Option (Int × Unit)))) => (bif (Sp.isBinary x0) then
     (j0 ((x0, (true, ())), ()))
     else
     (bif (decide (x0 = (25 : Int))) then
      (j0 ((x0, (true, ())), ()))
      else
      (j0 ((x0, ((decide (x0 = (28 : Int))), ())), ())))))))
theorem run13 (x0 : Int) : runF (P := Try.prog) [c42] Try.f13 ann13 [(0, (.i .i64))] [] (.i .i64) [] (x0, ()) () = go13 x0 := by kernel_rfl
def ann14 : Ann := (.seq .o (.join ⟨[], []⟩ (.block (.seq .o (.cond (.seq .o .o) (.join ⟨[(0, (.i .i64)), (6, .b)], []⟩ (.seq .o (.cond .o (.seq .o (.cond .o .o)))) (.cond (.seq .o .o) (.join ⟨[(0, (.i .i64)), (13, .b)], []⟩ (.seq .o (.cond .o .o)) (.cond (.seq .o .o) (.join ⟨[(18, .b)], []⟩ (.seq .o (.cond .o (.seq .o (.cond .o (.seq .o (.cond .o .o)))))) (.cond (.seq .o .o) .o))))))))) (.seq .o .o)))
def go14_j3 : ((Bool × Unit) × Unit) -> Option (Int × Unit) := (fun (z2 : ((Bool × Unit) × Unit)) => (bif z2.1.1 then
   (some ((1 : Int), ()))
   else
   (some ((-(1 : Int)), ()))))
def go14_j2 : ((Int × (Bool × Unit)) × Unit) -> Option (Int × Unit) := (fun (z1 : ((Int × (Bool × Unit)) × Unit)) => (bif z1.1.2.1 then
   (some ((3 : Int), ()))
   else
   (jpO (go14_j3)
    (fun (j0 : (((Bool × Unit) × Unit) -> (Option (Int × Unit)))) => (bif (decide (z1.1.1 = (22 : Int))) then
      (j0 ((true, ()), ()))
      else
      (bif (decide (z1.1.1 = (23 : Int))) then
       (j0 ((true, ()), ()))
       else
       (bif (decide (z1.1.1 = (24 : Int))) then
        (j0 ((true, ()), ()))
        else
        (j0 (((decide (z1.1.1 = (27 : Int))), ()), ())))))))))
def go14_j1 : ((Int × (Bool × Unit)) × Unit) -> Option (Int × Unit) := (fun (z0 : ((Int × (Bool × Unit)) × Unit)) => (bif z0.1.2.1 then
   (some ((2 : Int), ()))
   else
   (jpO (go14_j2)
    (fun (j0 : (((Int × (Bool × Unit)) × Unit) -> (Option (Int × Unit)))) => (bif (decide (z0.1.1 = (21 : Int))) then
      (j0 ((z0.1.1, (true, ())), ()))
      else
      (j0 ((z0.1.1, ((decide (z0.1.1 = (26 : Int))), ())), ())))))))
def go14 (x0 : Int) : (Option (Int × Unit)) :=
 (bif (decide (x0 = (1 : Int))) then
  (some ((0 : Int), ()))
  else
  (jpO (go14_j1)
   (fun (j0 : (((Int × (Bool × Unit)) × Unit) -> (Option (Int × Unit)))) => (bif (Sp.isBinary x0) then
     (j0 ((x0, (true, ())), ()))
     else
     (bif (decide (x0 = (25 : Int))) then
      (j0 ((x0, (true, ())), ()))
      else
      (j0 ((x0, ((decide (x0 = (28 : Int))), ())), ())))))))
theorem run14 (x0 : Int) : runF (P := Try.prog) [c43] Try.f14 ann14 [(0, (.i .i64))] [] (.i .i64) [] (x0, ()) () = go14 x0 := by kernel_rfl
def ann46 : Ann := (.seq .o (.join ⟨[(0, (.fz (.int .i64))), (1, (.i .i64))], []⟩ (.seq .o (.block (.loop ⟨[(0, (.fz (.int .i64))), (1, (.i .i64)), (5, (.i .i64))], []⟩ [((.exit 0), ⟨[(0, (.fz (.int .i64))), (1, (.i .i64))], []⟩), (.ret, ⟨[(4, .b)], []⟩)] (.join ⟨[(0, (.fz (.int .i64))), (1, (.i .i64)), (5, (.i .i64))], []⟩ (.seq .o (.cond .o .o)) (.join ⟨[(0, (.fz (.int .i64))), (1, (.i .i64)), (5, (.i .i64))], []⟩ (.block (.seq .o (.cond (.seq .o .o) .o))) .o))))) (.seq .o .o)))
def go46_l1 : (((List Int) × (Int × (Int × Unit))) × Unit) -> Option ((((List Int) × (Int × (Int × Unit))) × Unit) ⊕ ((((List Int) × (Int × Unit)) × Unit) ⊕ ((Bool × Unit) × Unit))) := (fun (r0 : (((List Int) × (Int × (Int × Unit))) × Unit)) => (bif (decide (r0.1.2.2.1 < ((r0.1.1.length : Nat) : Int))) then
   (grd (okB (((0 : Int) <= r0.1.2.2.1) /\ (r0.1.2.2.1 < ((r0.1.1.length : Nat) : Int))))
    (bif (!(Sp.right (r0.1.1.getD r0.1.2.2.1.toNat (0 : Int)))) then
     (some (Sum.inr (Sum.inr ((false, ()), ()))))
     else
     (grd (okB (((-(9223372036854775808 : Int)) <= (r0.1.2.2.1 + (1 : Int))) /\ ((r0.1.2.2.1 + (1 : Int)) <= (9223372036854775807 : Int))))
      (some (Sum.inl ((r0.1.1, (r0.1.2.1, ((r0.1.2.2.1 + (1 : Int)), ()))), ()))))))
   else
   (some (Sum.inr (Sum.inl ((r0.1.1, (r0.1.2.1, ())), ()))))))
def go46 (x0 : (List Int)) (x1 : Int) : (Option (Bool × Unit)) :=
 (callB (whileO (go46_l1) ((x0, (x1, ((0 : Int), ()))), ()))
  (fun (z0 : ((((List Int) × (Int × Unit)) × Unit) ⊕ ((Bool × Unit) × Unit))) => (sumO (fun (z1 : (((List Int) × (Int × Unit)) × Unit)) => (some ((decide (((z1.1.1.length : Nat) : Int) <= z1.1.2.1)), ())))
    (fun (z1 : ((Bool × Unit) × Unit)) => (some (z1.1.1, ()))) z0)))
theorem run46 (x0 : (List Int)) (x1 : Int) : runF (P := Try.prog) [c92] Try.f46 ann46 [(0, (.fz (.int .i64))), (1, (.i .i64))] [] .b [] (x0, (x1, ())) () = go46 x0 x1 := by kernel_rfl
def ann48 : Ann := (.seq .o (.join ⟨[], []⟩ (.seq .o (.block (.loop ⟨[(1, (.fz (.int .i64))), (2, (.fz .bool)), (3, (.ptr 0 0)), (7, (.i .i64))], [(.box 30 (.st 6))]⟩ [((.exit 0), ⟨[], []⟩), (.ret, ⟨[(6, .b)], []⟩)] (.join ⟨[(1, (.fz (.int .i64))), (2, (.fz .bool)), (3, (.ptr 0 0)), (7, (.i .i64))], [(.box 30 (.st 6))]⟩ (.seq .o (.cond .o .o)) (.join ⟨[(1, (.fz (.int .i64))), (2, (.fz .bool)), (3, (.ptr 0 0)), (7, (.i .i64))], [(.box 30 (.st 6))]⟩ (.block (.seq .o (.cond (.seq .o .o) .o))) .o))))) (.seq .o .o)))
def go48_l1 : (((List Int) × ((List Bool) × (Unit × (Int × Unit)))) × (Fn × Unit)) -> Option ((((List Int) × ((List Bool) × (Unit × (Int × Unit)))) × (Fn × Unit)) ⊕ ((Unit × Unit) ⊕ ((Bool × Unit) × Unit))) := (fun (r0 : (((List Int) × ((List Bool) × (Unit × (Int × Unit)))) × (Fn × Unit))) => (bif (decide (r0.1.2.2.2.1 < ((r0.1.1.length : Nat) : Int))) then
   (grd (okB (((0 : Int) <= r0.1.2.2.2.1) /\ (r0.1.2.2.2.1 < ((r0.1.1.length : Nat) : Int))))
    (bif (!(Sp.within r0.2.1 (r0.1.1.getD r0.1.2.2.2.1.toNat (0 : Int)))) then
     (some (Sum.inr (Sum.inr ((false, ()), ()))))
     else
     (grd (okB (((0 : Int) <= r0.1.2.2.2.1) /\ (r0.1.2.2.2.1 < ((r0.1.1.length : Nat) : Int))))
      (grd (okB (((0 : Int) <= (r0.1.1.getD r0.1.2.2.2.1.toNat (0 : Int))) /\ ((r0.1.1.getD r0.1.2.2.2.1.toNat (0 : Int)) < ((r0.1.2.1.length : Nat) : Int))))
       (bif (!(r0.1.2.1.getD (r0.1.1.getD r0.1.2.2.2.1.toNat (0 : Int)).toNat false)) then
        (some (Sum.inr (Sum.inr ((false, ()), ()))))
        else
        (grd (okB (((-(9223372036854775808 : Int)) <= (r0.1.2.2.2.1 + (1 : Int))) /\ ((r0.1.2.2.2.1 + (1 : Int)) <= (9223372036854775807 : Int))))
         (some (Sum.inl ((r0.1.1, (r0.1.2.1, ((), ((r0.1.2.2.2.1 + (1 : Int)), ())))), (r0.2.1, ()))))))))))
   else
   (some (Sum.inr (Sum.inl ((), ()))))))
def go48 (x0 : Fn) (x1 : (List Int)) (x2 : (List Bool)) : (Option (Bool × Unit)) :=
 (callB (whileO (go48_l1) ((x1, (x2, ((), ((0 : Int), ())))), (x0, ())))
  (fun (z0 : ((Unit × Unit) ⊕ ((Bool × Unit) × Unit))) => (sumO (fun (z1 : (Unit × Unit)) => (some (true, ())))
    (fun (z1 : ((Bool × Unit) × Unit)) => (some (z1.1.1, ()))) z0)))
theorem run48 (x0 : Fn) (x1 : (List Int)) (x2 : (List Bool)) : runF (P := Try.prog) [c47] Try.f48 ann48 [(0, (.st 6)), (1, (.fz (.int .i64))), (2, (.fz .bool))] [] .b [] (x0, (x1, (x2, ()))) () = go48 x0 x1 x2 := by kernel_rfl
def ann76 : Ann := (.seq .o (.seq .o (.join ⟨[(5, (.full 0))], [(.lst 3 (.int .i64))]⟩ (.seq .o (.block (.loop ⟨[(0, (.i .i64)), (1, (.i .u64)), (5, (.full 0)), (6, (.i .i64))], [(.lst 3 (.int .i64))]⟩ [((.exit 0), ⟨[(5, (.full 0))], [(.lst 3 (.int .i64))]⟩)] (.join ⟨[(0, (.i .i64)), (1, (.i .u64)), (5, (.full 0)), (6, (.i .i64))], [(.lst 3 (.int .i64))]⟩ (.seq .o (.cond .o .o)) (.join ⟨[(0, (.i .i64)), (1, (.i .u64)), (5, (.full 0)), (6, (.i .i64))], [(.lst 3 (.int .i64))]⟩ (.block (.seq .o .o)) .o))))) (.seq .o .o))))
def go76_l1 : ((Int × (Int × (Unit × (Int × Unit)))) × ((List Int) × Unit)) -> Option (((Int × (Int × (Unit × (Int × Unit)))) × ((List Int) × Unit)) ⊕ ((Unit × Unit) × ((List Int) × Unit))) := (fun (r0 : ((Int × (Int × (Unit × (Int × Unit)))) × ((List Int) × Unit))) => (bif (decide (r0.1.2.2.2.1 < (Sp.width r0.1.1))) then
   (grd (okB ((((r0.2.1.length + 1) * (8 : Nat)) <= (140737488355328 : Nat)) /\ ((r0.2.1.length + 1) <= (281474976710656 : Nat))))
    (grd (okB (((-(9223372036854775808 : Int)) <= (r0.1.2.2.2.1 + (1 : Int))) /\ ((r0.1.2.2.2.1 + (1 : Int)) <= (9223372036854775807 : Int))))
     (some (Sum.inl ((r0.1.1, ((Go.IntKind.wrap Go.IntKind.u64 (Int.tdiv r0.1.2.1 (2 : Int))), ((), ((r0.1.2.2.2.1 + (1 : Int)), ())))), ((r0.2.1 ++ ((Go.IntKind.wrap Go.IntKind.i64 (Int.tmod r0.1.2.1 (2 : Int))) :: ([] : List Int))), ()))))))
   else
   (some (Sum.inr (((), ()), (r0.2.1, ()))))))
def go76 (x0 : Int) (x1 : Int) : (Option ((List Int) × Unit)) :=
 (callB (whileO (go76_l1) ((x0, (x1, ((), ((0 : Int), ())))), (([] : List Int), ())))
  (fun (z0 : ((Unit × Unit) × ((List Int) × Unit))) => (some (z0.2.1, ()))))
theorem run76 (x0 : Int) (x1 : Int) : runF (P := Try.prog) [c78] Try.f76 ann76 [(0, (.i .i64)), (1, (.i .u64))] [] (.fz (.int .i64)) [] (x0, (x1, ())) () = go76 x0 x1 := by kernel_rfl
def ann44 : Ann := (.seq .o (.join ⟨[(0, .s)], []⟩ (.seq .o (.block (.loop ⟨[(0, .s), (3, (.i .i64))], []⟩ [((.exit 0), ⟨[(0, .s)], []⟩), (.ret, ⟨[(2, .b)], []⟩)] (.join ⟨[(0, .s), (3, (.i .i64))], []⟩ (.seq .o (.cond .o .o)) (.join ⟨[(0, .s), (3, (.i .i64))], []⟩ (.block (.seq .o (.cond (.seq .o .o) .o))) .o))))) (.seq .o .o)))
def go44_j1 : ((ByteArray × (Int × Unit)) × Unit) -> Option (((ByteArray × (Int × Unit)) × Unit) ⊕ (((ByteArray × Unit) × Unit) ⊕ ((Bool × Unit) × Unit))) := (fun (z0 : ((ByteArray × (Int × Unit)) × Unit)) => (grd (okB (((-(9223372036854775808 : Int)) <= (z0.1.2.1 + (1 : Int))) /\ ((z0.1.2.1 + (1 : Int)) <= (9223372036854775807 : Int))))
   (some (Sum.inl ((z0.1.1, ((z0.1.2.1 + (1 : Int)), ())), ())))))
def go44_l1 : ((ByteArray × (Int × Unit)) × Unit) -> Option (((ByteArray × (Int × Unit)) × Unit) ⊕ (((ByteArray × Unit) × Unit) ⊕ ((Bool × Unit) × Unit))) := (fun (r0 : ((ByteArray × (Int × Unit)) × Unit)) => (bif (decide (r0.1.2.1 < (((ByteArray.size r0.1.1) : Nat) : Int))) then
   (jpO (go44_j1)
    (fun (j0 : (((ByteArray × (Int × Unit)) × Unit) -> (Option (((ByteArray × (Int × Unit)) × Unit) ⊕ (((ByteArray × Unit) × Unit) ⊕ ((Bool × Unit) × Unit)))))) => (grd (okB (((0 : Int) <= r0.1.2.1) /\ (r0.1.2.1 < (((ByteArray.size r0.1.1) : Nat) : Int))))
      (bif (!(Sp.letter (strAt r0.1.1 r0.1.2.1.toNat))) then
       (bif (decide (r0.1.2.1 = (0 : Int))) then
        (some (Sum.inr (Sum.inr ((false, ()), ()))))
        else
        (grd (okB (((0 : Int) <= r0.1.2.1) /\ (r0.1.2.1 < (((ByteArray.size r0.1.1) : Nat) : Int))))
         (bif (decide ((Sp.digit (strAt r0.1.1 r0.1.2.1.toNat) (10 : Int)) < (0 : Int))) then
          (some (Sum.inr (Sum.inr ((false, ()), ()))))
          else
          (j0 ((r0.1.1, (r0.1.2.1, ())), ())))))
       else
       (j0 ((r0.1.1, (r0.1.2.1, ())), ()))))))
   else
   (some (Sum.inr (Sum.inl ((r0.1.1, ()), ()))))))
def go44 (x0 : ByteArray) : (Option (Bool × Unit)) :=
 (callB (whileO (go44_l1) ((x0, ((0 : Int), ())), ()))
  (fun (z0 : (((ByteArray × Unit) × Unit) ⊕ ((Bool × Unit) × Unit))) => (sumO (fun (z1 : ((ByteArray × Unit) × Unit)) => (bif (decide ((1 : Int) <= (((ByteArray.size z1.1.1) : Nat) : Int))) then
      (some ((decide ((((ByteArray.size z1.1.1) : Nat) : Int) <= (64 : Int))), ()))
      else
      (some (false, ()))))
    (fun (z1 : ((Bool × Unit) × Unit)) => (some (z1.1.1, ()))) z0)))
theorem run44 (x0 : ByteArray) : runF (P := Try.prog) [c90, c91] Try.f44 ann44 [(0, .s)] [] .b [] (x0, ()) () = go44 x0 := by kernel_rfl
def Sp.arity (op : Int) : Int :=
 if op = 1 then 0 else if Sp.isBinary op || decide (op = 25) || decide (op = 28) then 2 else if op = 21 \/ op = 26 then 3 else if op = 22 \/ op = 23 \/ op = 24 \/ op = 27 then 1 else -1
theorem ok13 (op : Int) : go13 op = some (Sp.arity op, ()) := by
 unfold go13 go13_j1 go13_j2 go13_j3 Sp.arity
 simp only [jpO_eq, bif_decide]
 cases Sp.isBinary op <;> simp only [cond_true, cond_false] <;> repeat' split
 all_goals simp_all
theorem ok14 (op : Int) : go14 op = some (Sp.arity op, ()) := ok13 op
def c13 : Ctr Try.prog := mkCtr 13 Try.f13 Try.func13 [c42] ann13 [(0, (.i .i64))] [] (.i .i64) [] (fun x _ => some (Sp.arity x.1, ())) (fun x _ r h => FE (run13 x.1) (ok13 x.1) h)
def c14 : Ctr Try.prog := mkCtr 14 Try.f14 Try.func14 [c43] ann14 [(0, (.i .i64))] [] (.i .i64) [] (fun x _ => some (Sp.arity x.1, ())) (fun x _ r h => FE (run14 x.1) (ok14 x.1) h)
def Sp.widths (l : List Int) (most : Int) : Bool := l.all Sp.right && decide ((l.length : Int) <= most)
theorem ok46 (l : List Int) (most : Int) (hl : l.length <= LEN) : go46 l most = some (Sp.widths l most, ()) := by
 rw [lenVal] at hl
 unfold go46 go46_l1
 refine callB_of (whileO_all (l := l) (st := fun i => ((l, most, (i : Int), ()), ())) rfl 0 Sp.right (A := .inl ((l, most, ()), ())) (B := .inr ((false, ()), ())) (fun i hi hp => ?_) (fun i hi hp => ?_) (fun _ => ?_)) ?_
 ·simp (maxSteps := 1000000) (disch := ((try dsimp only); omega)) only [↓gsA, gsB]
  rw [hp]; rfl
 ·simp (maxSteps := 1000000) (disch := ((try dsimp only); omega)) only [↓gsA, gsB]
  rw [hp]; rfl
 ·simp (maxSteps := 1000000) (disch := ((try dsimp only); omega)) only [↓gsA, gsB]
 ·unfold Sp.widths
  cases l.all Sp.right <;> simp
def c46 : Ctr Try.prog := mkCtr 46 Try.f46 Try.func46 [c92] ann46 [(0, (.fz (.int .i64))), (1, (.i .i64))] [] .b [] (fun x _ => grd (okB (x.1.length <= LEN)) (some (Sp.widths x.1 x.2.1, ()))) (fun x _ r h => FO (run46 x.1 x.2.1) (ok46 x.1 x.2.1) h)
theorem within_iff {f : Fn} {v : Int} : Sp.within f v = true ↔ 0 <= v /\ v < f.widths.length := by simp [Sp.within]
def Sp.used (f : Fn) (l : List Int) (known : List Bool) : Bool := l.all fun v => Sp.within f v && known.getD v.toNat false
theorem ok48 (f : Fn) (l : List Int) (known : List Bool) (h : l.length <= LEN /\ known.length = f.widths.length) : go48 f l known = some (Sp.used f l known, ()) := by
 obtain ⟨hl, hk⟩ := h
 rw [lenVal] at hl
 unfold go48 go48_l1
 refine callB_of (whileO_all (l := l) (st := fun i => ((l, known, (), (i : Int), ()), f, ())) rfl 0 (fun v => Sp.within f v && known.getD v.toNat false) (A := .inl ((), ())) (B := .inr ((false, ()), ())) (fun i hi hp => ?_) (fun i hi hp => ?_) (fun _ => ?_)) ?_
 ·simp only [Bool.and_eq_true] at hp
  obtain ⟨h1, h2⟩ := hp
  obtain ⟨h3, h4⟩ := within_iff.1 h1
  simp (maxSteps := 1000000) (disch := ((try dsimp only); omega)) only [↓gsA, gsB]
  rw [h1, h2]; rfl
 ·simp only [Bool.and_eq_false_iff] at hp
  simp (maxSteps := 1000000) (disch := ((try dsimp only); omega)) only [↓gsA, gsB]
  cases h1 : Sp.within f (l.getD i 0) with
  | false => rfl
  | true =>
   obtain ⟨h3, h4⟩ := within_iff.1 h1
   rw [h1] at hp
   simp (maxSteps := 1000000) (disch := ((try dsimp only); omega)) only [↓gsA, gsB]
   rcases hp with hp | hp
   ·cases hp
   ·rw [hp]; rfl
 ·simp (maxSteps := 1000000) (disch := ((try dsimp only); omega)) only [↓gsA, gsB]
 ·unfold Sp.used
  cases (l.all fun v => Sp.within f v && known.getD v.toNat false) <;> simp
def c48 : Ctr Try.prog := mkCtr 48 Try.f48 Try.func48 [c47] ann48 [(0, (.st 6)), (1, (.fz (.int .i64))), (2, (.fz .bool))] [] .b [] (fun x _ => grd (okB (x.2.1.length <= LEN /\ x.2.2.1.length = x.1.widths.length)) (some (Sp.used x.1 x.2.1 x.2.2.1, ()))) (fun x _ r h => FO (run48 x.1 x.2.1 x.2.2.1) (ok48 x.1 x.2.1 x.2.2.1) h)
def Sp.half (x : Int) : Nat -> Int
 | 0 => x
 | k + 1 => IntKind.u64.wrap ((Sp.half x k).tdiv 2)
def Sp.bitsL (x : Int) (n : Nat) : List Int := (List.range n).map fun k => (Sp.half x k).tmod 2
theorem bitsL_succ (x : Int) (n : Nat) : Sp.bitsL x (n + 1) = Sp.bitsL x n ++ [(Sp.half x n).tmod 2] := by simp [Sp.bitsL, List.range_succ]
theorem bitsL_len (x : Int) (n : Nat) : (Sp.bitsL x n).length = n := by simp [Sp.bitsL]
theorem tmod2 (a : Int) : -2 < a.tmod 2 /\ a.tmod 2 < 2 := ⟨Int.lt_tmod_of_pos a (by decide), Int.tmod_lt_of_pos a (by decide)⟩
theorem ok76 (w x : Int) : go76 w x = some (Sp.bitsL x (Sp.width w).toNat, ()) := by
 have hw := width_le w
 unfold go76 go76_l1
 refine callB_of (whileO_to (st := fun i => ((w, Sp.half x i, (), (i : Int), ()), Sp.bitsL x i, ())) rfl (Sp.width w).toNat (X0 := (((), ()), (Sp.bitsL x (Sp.width w).toNat, ()))) (fun i hi => ?_) ?_) ?_
 ·have hl := bitsL_len x i
  have h2 := tmod2 (Sp.half x i)
  simp (maxSteps := 1000000) (disch := ((try dsimp only); omega)) only [↓gsA, gsB]
  rw [wrap_in (by omega) (by omega), bitsL_succ]
  rfl
 ·simp (maxSteps := 1000000) (disch := ((try dsimp only); omega)) only [↓gsA, gsB]
 ·rfl
def c76 : Ctr Try.prog := mkCtr 76 Try.f76 Try.func76 [c78] ann76 [(0, (.i .i64)), (1, (.i .u64))] [] (.fz (.int .i64)) [] (fun x _ => some (Sp.bitsL x.2.1 (Sp.width x.1).toNat, ())) (fun x _ r h => FE (run76 x.1 x.2.1) (ok76 x.1 x.2.1) h)
def Sp.identAt (s : ByteArray) (i : Nat) : Bool := Sp.letter (strAt s i) || (!decide (i = 0) && !decide (Sp.digit (strAt s i) 10 < 0))
def Sp.ident (s : ByteArray) : Bool := (List.range s.size).all (Sp.identAt s) && (decide (1 <= (s.size : Int)) && decide ((s.size : Int) <= 64))
theorem ok44 (s : ByteArray) (hs : s.size <= 9223372036854775807) : go44 s = some (Sp.ident s, ()) := by
 unfold go44 go44_l1 go44_j1
 refine callB_of (whileO_all (l := List.range s.size) (st := fun i => ((s, (i : Int), ()), ())) rfl 0 (Sp.identAt s) (A := .inl ((s, ()), ())) (B := .inr ((false, ()), ())) (fun i hi hp => ?_) (fun i hi hp => ?_) (fun _ => ?_)) ?_
 ·rw [List.length_range] at hi
  have e : (List.range s.size).getD i 0 = i := by simp [List.getD_eq_getElem?_getD, hi]
  rw [e] at hp
  unfold Sp.identAt at hp
  simp (maxSteps := 1000000) (disch := ((try dsimp only); omega)) only [↓gsA, gsB]
  cases h1 : Sp.letter (strAt s i) with
  | true => rfl
  | false =>
   rw [h1] at hp
   simp only [Bool.false_or, Bool.and_eq_true, Bool.not_eq_true', decide_eq_false_iff_not] at hp
   simp (maxSteps := 1000000) (disch := ((try dsimp only); omega)) only [↓gsA, gsB]
 ·rw [List.length_range] at hi
  have e : (List.range s.size).getD i 0 = i := by simp [List.getD_eq_getElem?_getD, hi]
  rw [e] at hp
  unfold Sp.identAt at hp
  simp only [Bool.or_eq_false_iff] at hp
  simp (maxSteps := 1000000) (disch := ((try dsimp only); omega)) only [↓gsA, gsB]
  rw [hp.1]
  simp (maxSteps := 1000000) (disch := ((try dsimp only); omega)) only [↓gsA, gsB]
  by_cases h2 : i = 0
  ·subst h2; rfl
  ·have h3 : Sp.digit (strAt s i) 10 < 0 := by simpa [h2] using hp.2
   simp (maxSteps := 1000000) (disch := ((try dsimp only); omega)) only [↓gsA, gsB]
 ·rw [List.length_range]
  simp (maxSteps := 1000000) (disch := ((try dsimp only); omega)) only [↓gsA, gsB]
 ·unfold Sp.ident
  cases (List.range s.size).all (Sp.identAt s)
  ·simp
  ·simp (maxSteps := 1000000) (disch := ((try dsimp only); omega)) only [↓gsA, gsB]
   by_cases h : (1 : Int) <= s.size <;> simp [h]
def c44 : Ctr Try.prog := mkCtr 44 Try.f44 Try.func44 [c90, c91] ann44 [(0, .s)] [] .b [] (fun x _ => grd (okB (x.1.size <= 9223372036854775807)) (some (Sp.ident x.1, ()))) (fun x _ r h => FO (run44 x.1) (ok44 x.1) h)
end
end Go.Abs
namespace Go.Abs
open Go Go.Proofs
noncomputable section
def ann12 : Ann := (.seq .o (.seq .o .o))
def go12  : (Option (Bool × Unit)) :=
 (bif (decide ((Sp.arity (21 : Int)) = (3 : Int))) then
  (some ((Sp.pureOp (2 : Int)), ()))
  else
  (some (false, ())))
theorem run12  : runF (P := Try.prog) [c13, c15] Try.f12 ann12 [] [] .b [] () () = go12 := by kernel_rfl
def ann49 : Ann := (.seq .o (.seq .o .o))
def go49 (x0 : Int) : (Option (Bool × Unit)) :=
 (bif (decide ((0 : Int) <= (Sp.arity x0))) then
  (bif (!(decide (x0 = (26 : Int)))) then
   (some ((!(decide (x0 = (28 : Int)))), ()))
   else
   (some (false, ())))
  else
  (some (false, ())))
theorem run49 (x0 : Int) : runF (P := Try.prog) [c14] Try.f49 ann49 [(0, (.i .i64))] [] .b [] (x0, ()) () = go49 x0 := by kernel_rfl
def ann93 : Ann := (.seq .o (.seq .o .o))
def go93 (x0 : Int) (x1 : Int) : (Option (Int × Unit)) :=
 (callB (grd (okB ((Sp.bitsL x1 (Sp.width x0).toNat).length <= LEN))
   (some ((Sp.wd (Sp.bitsL x1 (Sp.width x0).toNat) (Sp.bitsL x1 (Sp.width x0).toNat).length), ())))
  (fun (r0 : (Int × Unit)) => (some (r0.1, ()))))
theorem run93 (x0 : Int) (x1 : Int) : runF (P := Try.prog) [c76, c79] Try.f93 ann93 [(0, (.i .i64)), (1, (.i .u64))] [] (.i .u64) [] (x0, (x1, ())) () = go93 x0 x1 := by kernel_rfl
def ann95 : Ann := (.seq .o (.join ⟨[(3, (.ptr 0 0)), (4, (.ptr 1 0))], [(.box 30 (.st 6)), (.box 51 (.st 1))]⟩ (.seq .o (.cond (.seq .o .o) .o)) (.seq .o (.join ⟨[(3, (.ptr 0 0)), (4, (.ptr 1 0)), (7, (.fz (.int .i64)))], [(.box 30 (.st 6)), (.box 51 (.st 1))]⟩ (.seq .o (.cond (.seq .o .o) .o)) (.join ⟨[], []⟩ (.seq .o (.block (.loop ⟨[(3, (.ptr 0 0)), (4, (.ptr 1 0)), (7, (.fz (.int .i64))), (8, (.i .i64))], [(.box 30 (.st 6)), (.box 51 (.st 1))]⟩ [((.exit 0), ⟨[], []⟩), (.ret, ⟨[(6, .b)], []⟩)] (.join ⟨[(3, (.ptr 0 0)), (4, (.ptr 1 0)), (7, (.fz (.int .i64))), (8, (.i .i64))], [(.box 30 (.st 6)), (.box 51 (.st 1))]⟩ (.seq .o (.cond .o .o)) (.join ⟨[(3, (.ptr 0 0)), (4, (.ptr 1 0)), (7, (.fz (.int .i64))), (8, (.i .i64))], [(.box 30 (.st 6)), (.box 51 (.st 1))]⟩ (.block (.seq .o (.cond (.seq .o .o) .o))) .o))))) (.seq .o .o))))))
def go95_l1 : ((Unit × (Unit × ((List Int) × (Int × Unit)))) × (Fn × (Edge × Unit))) -> Option (((Unit × (Unit × ((List Int) × (Int × Unit)))) × (Fn × (Edge × Unit))) ⊕ ((Unit × Unit) ⊕ ((Bool × Unit) × Unit))) := (fun (r1 : ((Unit × (Unit × ((List Int) × (Int × Unit)))) × (Fn × (Edge × Unit)))) => (bif (decide (r1.1.2.2.2.1 < ((r1.1.2.2.1.length : Nat) : Int))) then
   (grd (okB (((0 : Int) <= r1.1.2.2.2.1) /\ (r1.1.2.2.2.1 < ((r1.1.2.2.1.length : Nat) : Int))))
    (bif (!(Sp.within r1.2.1 (r1.1.2.2.1.getD r1.1.2.2.2.1.toNat (0 : Int)))) then
     (some (Sum.inr (Sum.inr ((false, ()), ()))))
     else
     (grd (okB (((0 : Int) <= r1.1.2.2.2.1) /\ (r1.1.2.2.2.1 < ((r1.1.2.2.1.length : Nat) : Int))))
      (grd (okB (((0 : Int) <= (r1.1.2.2.1.getD r1.1.2.2.2.1.toNat (0 : Int))) /\ ((r1.1.2.2.1.getD r1.1.2.2.2.1.toNat (0 : Int)) < ((r1.2.1.widths.length : Nat) : Int))))
       (grd (okB (((0 : Int) <= r1.1.2.2.2.1) /\ (r1.1.2.2.2.1 < ((r1.2.2.1.args.length : Nat) : Int))))
        (grd (okB (((0 : Int) <= (r1.2.2.1.args.getD r1.1.2.2.2.1.toNat (0 : Int))) /\ ((r1.2.2.1.args.getD r1.1.2.2.2.1.toNat (0 : Int)) < ((r1.2.1.widths.length : Nat) : Int))))
         (bif (!(decide ((r1.2.1.widths.getD (r1.1.2.2.1.getD r1.1.2.2.2.1.toNat (0 : Int)).toNat (0 : Int)) = (r1.2.1.widths.getD (r1.2.2.1.args.getD r1.1.2.2.2.1.toNat (0 : Int)).toNat (0 : Int))))) then
          (some (Sum.inr (Sum.inr ((false, ()), ()))))
          else
          (grd (okB (((-(9223372036854775808 : Int)) <= (r1.1.2.2.2.1 + (1 : Int))) /\ ((r1.1.2.2.2.1 + (1 : Int)) <= (9223372036854775807 : Int))))
           (some (Sum.inl (((), ((), (r1.1.2.2.1, ((r1.1.2.2.2.1 + (1 : Int)), ())))), (r1.2.1, (r1.2.2.1, ())))))))))))))
   else
   (some (Sum.inr (Sum.inl ((), ()))))))
def go95 (x0 : Fn) (x1 : Edge) (x2 : (List Bool)) : (Option (Bool × Unit)) :=
 (bif (decide (x1.block < (1 : Int))) then
  (some (false, ()))
  else
  (bif (decide (((x0.blocks.length : Nat) : Int) <= x1.block)) then
   (some (false, ()))
   else
   (callB (grd (okB ((x1.args.length <= LEN) /\ (x2.length = x0.widths.length)))
     (some ((Sp.used x0 x1.args x2), ())))
    (fun (r0 : (Bool × Unit)) => (bif (!r0.1) then
      (some (false, ()))
      else
      (grd (okB (((0 : Int) <= x1.block) /\ (x1.block < ((x0.blocks.length : Nat) : Int))))
       (bif (!(decide ((((x0.blocks.getD x1.block.toNat Block.z).params.length : Nat) : Int) = ((x1.args.length : Nat) : Int)))) then
        (some (false, ()))
        else
        (callB (whileO (go95_l1) (((), ((), ((x0.blocks.getD x1.block.toNat Block.z).params, ((0 : Int), ())))), (x0, (x1, ()))))
         (fun (z0 : ((Unit × Unit) ⊕ ((Bool × Unit) × Unit))) => (sumO (fun (z1 : (Unit × Unit)) => (some (true, ())))
           (fun (z1 : ((Bool × Unit) × Unit)) => (some (z1.1.1, ()))) z0))))))))))
theorem run95 (x0 : Fn) (x1 : Edge) (x2 : (List Bool)) : runF (P := Try.prog) [c47, c48] Try.f95 ann95 [(0, (.st 6)), (1, (.st 1)), (2, (.fz .bool))] [] .b [] (x0, (x1, (x2, ()))) () = go95 x0 x1 x2 := by kernel_rfl
theorem ok12 : go12 = some (true, ()) := by unfold go12; simp [Sp.arity, Sp.pureOp, Sp.isBinary]
def c12 : Ctr Try.prog := mkCtr 12 Try.f12 Try.func12 [c13, c15] ann12 [] [] .b [] (fun x _ => some (true, ())) (fun x _ r h => FE run12 ok12 h)
def Sp.result (op : Int) : Bool := decide (0 <= Sp.arity op) && !decide (op = 26) && !decide (op = 28)
theorem ok49 (op : Int) : go49 op = some (Sp.result op, ()) := by
 unfold go49 Sp.result
 by_cases h : 0 <= Sp.arity op <;> by_cases h2 : op = 26 <;> simp [h, h2]
def c49 : Ctr Try.prog := mkCtr 49 Try.f49 Try.func49 [c14] ann49 [(0, (.i .i64))] [] .b [] (fun x _ => some (Sp.result x.1, ())) (fun x _ r h => FE (run49 x.1) (ok49 x.1) h)
def Sp.fit (w x : Int) : Int := Sp.wd (Sp.bitsL x (Sp.width w).toNat) (Sp.bitsL x (Sp.width w).toNat).length
theorem ok93 (w x : Int) : go93 w x = some (Sp.fit w x, ()) := by
 have hw := width_le w
 have hlen : (Sp.bitsL x (Sp.width w).toNat).length <= LEN := by rw [bitsL_len]; simp only [LEN]; omega
 unfold go93
 rw [grd_ok hlen]; rfl
def c93 : Ctr Try.prog := mkCtr 93 Try.f93 Try.func93 [c76, c79] ann93 [(0, (.i .i64)), (1, (.i .u64))] [] (.i .u64) [] (fun x _ => some (Sp.fit x.1 x.2.1, ())) (fun x _ r h => FE (run93 x.1 x.2.1) (ok93 x.1 x.2.1) h)
def Sp.edgeP (f : Fn) (ps qs : List Int) (i : Nat) : Bool := Sp.within f (ps.getD i 0) && decide (f.widths.getD (ps.getD i 0).toNat 0 = f.widths.getD (qs.getD i 0).toNat 0)
def Sp.edgeOk (f : Fn) (e : Edge) (known : List Bool) : Bool :=
 (!decide (e.block < 1) && !decide ((f.blocks.length : Int) <= e.block) && Sp.used f e.args known) &&
 (decide (((f.blk e.block.toNat).params.length : Int) = e.args.length) && (List.range (f.blk e.block.toNat).params.length).all (Sp.edgeP f (f.blk e.block.toNat).params e.args))
theorem used_get {f : Fn} {l : List Int} {known : List Bool} (h : Sp.used f l known = true) {i : Nat} (hi : i < l.length) : 0 <= l.getD i 0 /\ l.getD i 0 < f.widths.length /\ known.getD (l.getD i 0).toNat false = true := by
 simp only [Sp.used, List.all_eq_true] at h
 have := h (l.getD i 0) (by simp [List.getD_eq_getElem?_getD, hi])
 simp only [Bool.and_eq_true] at this
 exact ⟨(within_iff.1 this.1).1, (within_iff.1 this.1).2, this.2⟩
theorem range_getD {n i : Nat} (h : i < n) : (List.range n).getD i 0 = i := by simp [List.getD_eq_getElem?_getD, h]
theorem ok95 (f : Fn) (e : Edge) (known : List Bool) (h : f.ok /\ e.ok /\ known.length = f.widths.length) : go95 f e known = some (Sp.edgeOk f e known, ()) := by
 obtain ⟨hf, he, hk⟩ := h
 have hea : e.args.length <= LEN := he.2.len
 unfold go95 go95_l1
 rw [grd_ok ⟨hea, hk⟩]
 by_cases h1 : e.block < 1
 ·simp [Sp.edgeOk, h1]
 by_cases h2 : (f.blocks.length : Int) <= e.block
 ·simp [Sp.edgeOk, h1, h2]
 simp (maxSteps := 1000000) (disch := ((try dsimp only); omega)) only [↓gsA, gsB]
 cases h3 : Sp.used f e.args known with
 | false => simp [Sp.edgeOk, h3]
 | true =>
  simp (maxSteps := 1000000) (disch := ((try dsimp only); omega)) only [↓gsA, gsB]
  by_cases h4 : (((f.blocks.getD e.block.toNat Block.z).params.length : Nat) : Int) = e.args.length
  rotate_left
  ·rw [if_neg h4]
   simp only [Sp.edgeOk]
   rw [show decide (((f.blk e.block.toNat).params.length : Int) = e.args.length) = false from decide_eq_false h4]
   simp
  rw [if_pos h4]
  have hp : (f.blocks.getD e.block.toNat Block.z).params.length <= LEN := (Fn.ok_blk hf (by omega)).1.len
  rw [lenVal] at hp
  have hEnd : Sp.edgeOk f e known = (List.range (f.blk e.block.toNat).params.length).all (Sp.edgeP f (f.blk e.block.toNat).params e.args) := by
   simp only [Sp.edgeOk, h3]
   rw [decide_eq_false h1, decide_eq_false h2, decide_eq_true h4]; rfl
  rw [hEnd]
  show _ = some ((List.range (f.blocks.getD e.block.toNat Block.z).params.length).all (Sp.edgeP f (f.blocks.getD e.block.toNat Block.z).params e.args), ())
  generalize (f.blocks.getD e.block.toNat Block.z).params = ps at *
  refine callB_of (whileO_all (l := List.range ps.length) (st := fun i => (((), (), ps, (i : Int), ()), f, e, ())) rfl 0 (Sp.edgeP f ps e.args) (A := .inl ((), ())) (B := .inr ((false, ()), ())) (fun i hi hq => ?_) (fun i hi hq => ?_) (fun _ => ?_)) ?_
  ·rw [List.length_range] at hi
   rw [range_getD hi] at hq
   simp only [Sp.edgeP, Bool.and_eq_true, decide_eq_true_eq] at hq
   obtain ⟨q1, q2⟩ := hq
   obtain ⟨q3, q4⟩ := within_iff.1 q1
   obtain ⟨g3, g4, -⟩ := used_get h3 (i := i) (by omega)
   simp (maxSteps := 1000000) (disch := ((try dsimp only); omega)) only [↓gsA, gsB]
   rw [q1]
   simp (maxSteps := 1000000) (disch := ((try dsimp only); omega)) only [↓gsA, gsB]
  ·rw [List.length_range] at hi
   rw [range_getD hi] at hq
   simp only [Sp.edgeP, Bool.and_eq_false_iff, decide_eq_false_iff_not] at hq
   obtain ⟨g3, g4, -⟩ := used_get h3 (i := i) (by omega)
   simp (maxSteps := 1000000) (disch := ((try dsimp only); omega)) only [↓gsA, gsB]
   cases q1 : Sp.within f (ps.getD i 0) with
   | false => rfl
   | true =>
    obtain ⟨q3, q4⟩ := within_iff.1 q1
    rw [q1] at hq
    have hq := hq.resolve_left (by simp)
    simp (maxSteps := 1000000) (disch := ((try dsimp only); omega)) only [↓gsA, gsB]
  ·rw [List.length_range]; simp (maxSteps := 1000000) (disch := ((try dsimp only); omega)) only [↓gsA, gsB]
  ·cases (List.range ps.length).all (Sp.edgeP f ps e.args) <;> rfl
def c95 : Ctr Try.prog := mkCtr 95 Try.f95 Try.func95 [c47, c48] ann95 [(0, (.st 6)), (1, (.st 1)), (2, (.fz .bool))] [] .b [] (fun x _ => grd (okB (x.1.ok /\ x.2.1.ok /\ x.2.2.1.length = x.1.widths.length)) (some (Sp.edgeOk x.1 x.2.1 x.2.2.1, ()))) (fun x _ r h => FO (run95 x.1 x.2.1 x.2.2.1) (ok95 x.1 x.2.1 x.2.2.1) h)
end
end Go.Abs
