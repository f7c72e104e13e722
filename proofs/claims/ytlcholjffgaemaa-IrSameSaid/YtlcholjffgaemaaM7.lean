/-
Texts of the proof, part 7: Su Sd Te Tx V1 Zf Zg.
No statement of the program is proved here.
-/
import Derived.Test.YtlcholjffgaemaaM6

set_option linter.unusedVariables false
set_option linter.unusedSimpArgs false
set_option linter.unusedSectionVars false
namespace Go.Abs
open Go
structure Typ where
  width : Int
  signed : Bool
deriving DecidableEq
def Typ.z : Typ := ⟨0, false⟩
def Typ.e (x : Typ) : Nat → T
  | 0 => .int .i64 x.width
  | 1 => .bool x.signed
  | _ => .any
def Fn.z : Fn := ⟨ByteArray.empty, [], [], [], [], []⟩
inductive Ow (α β : Type) where
  | own (l : List α)
  | fz (l : List β)
def Sp.ownL {α β : Type} : Ow α β → Option (List α)
  | .own l => some l
  | .fz _ => none
def Sp.frzL {α β : Type} : Ow α β → Option (List β)
  | .own _ => none
  | .fz l => some l
structure InstM where
  op : Int
  dest : Int
  args : (Ow Int Int)
  num : Int
  mem : Int
def InstM.z : InstM := ⟨0, 0, (.fz []), 0, 0⟩
structure EdgeM where
  block : Int
  args : (Ow Int Int)
def EdgeM.z : EdgeM := ⟨0, (.fz [])⟩
structure TermM where
  kind : Int
  cond : Int
  to : (Ow EdgeM Edge)
  rets : (Ow Int Int)
def TermM.z : TermM := ⟨0, 0, (.fz []), (.fz [])⟩
structure BlockM where
  params : (Ow Int Int)
  insts : (Ow InstM Inst)
  term : TermM
  pipeline : Int
  unroll : Int
  line : Int
def BlockM.z : BlockM := ⟨(.fz []), (.fz []), TermM.z, 0, 0, 0⟩
@[reducible] def suD : Nat → Type
  | 0 => Inst
  | 1 => Edge
  | 2 => Term
  | 3 => Block
  | 4 => Arr
  | 5 => Strm
  | 6 => Fn
  | 7 => Typ
  | 8 => InstM
  | 9 => EdgeM
  | 10 => TermM
  | 11 => BlockM
  | _ => Unit
def suZ : (i : Nat) → suD i
  | 0 => Inst.z
  | 1 => Edge.z
  | 2 => Term.z
  | 3 => Block.z
  | 4 => Arr.z
  | 5 => Strm.z
  | 6 => Fn.z
  | 7 => Typ.z
  | 8 => InstM.z
  | 9 => EdgeM.z
  | 10 => TermM.z
  | 11 => BlockM.z
  | _ + 12 => ()
def suSz : Nat → Nat
  | 0 => 5
  | 1 => 2
  | 2 => 4
  | 3 => 9
  | 4 => 5
  | 5 => 3
  | 6 => 6
  | 7 => 2
  | 8 => 5
  | 9 => 2
  | 10 => 4
  | 11 => 9
  | _ => 0
def suEnc : (i : Nat) → suD i → Nat → T
  | 0, x => Inst.e x
  | 1, x => Edge.e x
  | 2, x => Term.e x
  | 3, x => Block.e x
  | 4, x => Arr.e x
  | 5, x => Strm.e x
  | 6, x => Fn.e x
  | 7, x => Typ.e x
  | _ + 8, _ => fun _ => .any
instance : SU := ⟨suD, suZ, suSz, suEnc⟩
theorem castN_same : ∀ (D : Nat → Type) (i : Nat) (x : D i), castN D i i x = some x
  | D, 0, x => rfl
  | D, i + 1, x => castN_same (fun n => D (n + 1)) i x
theorem castF_same : ∀ (F : Type → Type) (τ : Ty) (x : F τ.D), castF F τ τ x = some x
  | F, .bool, x => rfl
  | F, .int k, x => by cases k <;> rfl
  | F, .str, x => rfl
  | F, .st i, x => castN_same (fun i => F (SU.D i)) i x
  | F, .sl e, x => castF_same (fun X => F (List X)) e x
  | F, .ol t e, x => by simp only [castF, Nat.beq_refl, cond_true]; exact castF_same (fun X => F (List X)) e x
def set0 : (τ : Ty) → EV → Option τ.D
  | .bool, .b y => some y
  | .int k, .i k' n => bif kindEq k k' then some n else none
  | .str, .s y => some y
  | .sl e, .fz e' l => castF List e' e l
  | .sl e, .nils => some []
  | _, _ => none
def cell0 : (τ : Ty) → τ.D → EV
  | .bool, x => .b x
  | .int k, x => .i k x
  | .str, x => .s x
  | .sl e, l => .fz e l
  | .st i, x => .un
  | .ol _ _, x => .un
theorem set0_ok {τ : Ty} {v : EV} {y : τ.D} (h : set0 τ v = some y) : ∀ len, Wk (toV len v) (toV len (cell0 τ y)) := fun len => by
  cases τ with
  | bool => cases v <;> simp only [set0] at h <;> first | (cases h; done) | (injection h with h; subst h; exact Wk.refl _)
  | int k =>
    cases v <;> simp only [set0] at h <;> try (cases h; done)
    rename_i k' n
    cases hk : kindEq k k' with
    | false => rw [hk] at h; cases h
    | true =>
      have := kindEq_eq hk
      subst this
      rw [hk] at h
      simp only [cond_true] at h
      injection h with h; subst h; exact Wk.refl _
  | str => cases v <;> simp only [set0] at h <;> first | (cases h; done) | (injection h with h; subst h; exact Wk.refl _)
  | st i => simp only [cell0, toV]; exact Wk.un _
  | ol _ _ => simp only [cell0, toV]; exact Wk.un _
  | sl e =>
    cases v <;> simp only [set0] at h <;> try (cases h; done)
    · obtain ⟨rfl, h⟩ := castL_ok h
      obtain rfl := eq_of_heq h
      exact Wk.refl _
    · injection h with h; subst h
      simp only [cell0, toV, encL]
      exact Wk.nils _ _
def Inst.c (x : Inst) : Nat → EV
  | 0 => .i .i64 (x.op)
  | 1 => .i .i64 (x.dest)
  | 2 => .fz (.int .i64) (x.args)
  | 3 => .i .u64 (x.num)
  | 4 => .i .i64 (x.mem)
  | _ => .un
def Inst.s (x : Inst) (j : Nat) (v : EV) : Option Inst := match j with
  | 0 => match set0 (.int .i64) v with
    | some y => some { x with op := y }
    | none => none
  | 1 => match set0 (.int .i64) v with
    | some y => some { x with dest := y }
    | none => none
  | 2 => match set0 (.sl (.int .i64)) v with
    | some y => some { x with args := y }
    | none => none
  | 3 => match set0 (.int .u64) v with
    | some y => some { x with num := y }
    | none => none
  | 4 => match set0 (.int .i64) v with
    | some y => some { x with mem := y }
    | none => none
  | _ => none
def Inst.m : List EV → Option Inst
  | [a0, a1, a2, a3, a4] => match set0 (.int .i64) a0, set0 (.int .i64) a1, set0 (.sl (.int .i64)) a2, set0 (.int .u64) a3, set0 (.int .i64) a4 with
    | some y0, some y1, some y2, some y3, some y4 => some ⟨y0, y1, y2, y3, y4⟩
    | _, _, _, _, _ => none
  | _ => none
theorem Inst.c_ok (x : Inst) (len : Len) : ∀ j, j < 5 → toV len (Inst.c x j) = .t (Inst.e x j)
  | 0, _ => by simp only [Inst.c, toV]; rfl
  | 1, _ => by simp only [Inst.c, toV]; rfl
  | 2, _ => by simp only [Inst.c, toV]; rfl
  | 3, _ => by simp only [Inst.c, toV]; rfl
  | 4, _ => by simp only [Inst.c, toV]; rfl
  | n + 5, h => absurd h (by omega)
theorem Inst.c_dat (x : Inst) : ∀ j, (Inst.c x j).dat = true
  | 0 => rfl
  | 1 => rfl
  | 2 => rfl
  | 3 => rfl
  | 4 => rfl
  | n + 5 => rfl
theorem Inst.s_ok (x : Inst) (j : Nat) (v : EV) (y : Inst) (h : Inst.s x j v = some y) : (∀ len, Wk (toV len v) (toV len (Inst.c y j))) ∧ ∀ j', j' ≠ j → Inst.c y j' = Inst.c x j' := by
  match j with
  | 0 =>
    simp only [Inst.s] at h
    split at h
    · rename_i a ha
      injection h with h
      subst h
      refine ⟨set0_ok ha, fun j' hj => ?_⟩
      match j', hj with
      | 0, hj => exact absurd rfl hj
      | 1, hj => exact rfl
      | 2, hj => exact rfl
      | 3, hj => exact rfl
      | 4, hj => exact rfl
      | n + 5, _ => rfl
    · cases h
  | 1 =>
    simp only [Inst.s] at h
    split at h
    · rename_i a ha
      injection h with h
      subst h
      refine ⟨set0_ok ha, fun j' hj => ?_⟩
      match j', hj with
      | 0, hj => exact rfl
      | 1, hj => exact absurd rfl hj
      | 2, hj => exact rfl
      | 3, hj => exact rfl
      | 4, hj => exact rfl
      | n + 5, _ => rfl
    · cases h
  | 2 =>
    simp only [Inst.s] at h
    split at h
    · rename_i a ha
      injection h with h
      subst h
      refine ⟨set0_ok ha, fun j' hj => ?_⟩
      match j', hj with
      | 0, hj => exact rfl
      | 1, hj => exact rfl
      | 2, hj => exact absurd rfl hj
      | 3, hj => exact rfl
      | 4, hj => exact rfl
      | n + 5, _ => rfl
    · cases h
  | 3 =>
    simp only [Inst.s] at h
    split at h
    · rename_i a ha
      injection h with h
      subst h
      refine ⟨set0_ok ha, fun j' hj => ?_⟩
      match j', hj with
      | 0, hj => exact rfl
      | 1, hj => exact rfl
      | 2, hj => exact rfl
      | 3, hj => exact absurd rfl hj
      | 4, hj => exact rfl
      | n + 5, _ => rfl
    · cases h
  | 4 =>
    simp only [Inst.s] at h
    split at h
    · rename_i a ha
      injection h with h
      subst h
      refine ⟨set0_ok ha, fun j' hj => ?_⟩
      match j', hj with
      | 0, hj => exact rfl
      | 1, hj => exact rfl
      | 2, hj => exact rfl
      | 3, hj => exact rfl
      | 4, hj => exact absurd rfl hj
      | n + 5, _ => rfl
    · cases h
  | n + 5 => simp [Inst.s] at h
theorem Inst.m_ok (l : List EV) (y : Inst) (h : Inst.m l = some y) : l.length = 5 ∧ ∀ j, j < 5 → ∀ len, Wk (toVs len l j) (toV len (Inst.c y j)) := by
  unfold Inst.m at h
  split at h
  · split at h
    · rename_i h0 h1 h2 h3 h4
      injection h with h
      subst h
      refine ⟨rfl, fun j hj len => ?_⟩
      match j, hj with
      | 0, _ => simp only [toVs]; exact set0_ok h0 len
      | 1, _ => simp only [toVs]; exact set0_ok h1 len
      | 2, _ => simp only [toVs]; exact set0_ok h2 len
      | 3, _ => simp only [toVs]; exact set0_ok h3 len
      | 4, _ => simp only [toVs]; exact set0_ok h4 len
      | n + 5, h => exact absurd h (by omega)
    · cases h
  · cases h
def Edge.c (x : Edge) : Nat → EV
  | 0 => .i .i64 (x.block)
  | 1 => .fz (.int .i64) (x.args)
  | _ => .un
def Edge.s (x : Edge) (j : Nat) (v : EV) : Option Edge := match j with
  | 0 => match set0 (.int .i64) v with
    | some y => some { x with block := y }
    | none => none
  | 1 => match set0 (.sl (.int .i64)) v with
    | some y => some { x with args := y }
    | none => none
  | _ => none
def Edge.m : List EV → Option Edge
  | [a0, a1] => match set0 (.int .i64) a0, set0 (.sl (.int .i64)) a1 with
    | some y0, some y1 => some ⟨y0, y1⟩
    | _, _ => none
  | _ => none
theorem Edge.c_ok (x : Edge) (len : Len) : ∀ j, j < 2 → toV len (Edge.c x j) = .t (Edge.e x j)
  | 0, _ => by simp only [Edge.c, toV]; rfl
  | 1, _ => by simp only [Edge.c, toV]; rfl
  | n + 2, h => absurd h (by omega)
theorem Edge.c_dat (x : Edge) : ∀ j, (Edge.c x j).dat = true
  | 0 => rfl
  | 1 => rfl
  | n + 2 => rfl
theorem Edge.s_ok (x : Edge) (j : Nat) (v : EV) (y : Edge) (h : Edge.s x j v = some y) : (∀ len, Wk (toV len v) (toV len (Edge.c y j))) ∧ ∀ j', j' ≠ j → Edge.c y j' = Edge.c x j' := by
  match j with
  | 0 =>
    simp only [Edge.s] at h
    split at h
    · rename_i a ha
      injection h with h
      subst h
      refine ⟨set0_ok ha, fun j' hj => ?_⟩
      match j', hj with
      | 0, hj => exact absurd rfl hj
      | 1, hj => exact rfl
      | n + 2, _ => rfl
    · cases h
  | 1 =>
    simp only [Edge.s] at h
    split at h
    · rename_i a ha
      injection h with h
      subst h
      refine ⟨set0_ok ha, fun j' hj => ?_⟩
      match j', hj with
      | 0, hj => exact rfl
      | 1, hj => exact absurd rfl hj
      | n + 2, _ => rfl
    · cases h
  | n + 2 => simp [Edge.s] at h
theorem Edge.m_ok (l : List EV) (y : Edge) (h : Edge.m l = some y) : l.length = 2 ∧ ∀ j, j < 2 → ∀ len, Wk (toVs len l j) (toV len (Edge.c y j)) := by
  unfold Edge.m at h
  split at h
  · split at h
    · rename_i h0 h1
      injection h with h
      subst h
      refine ⟨rfl, fun j hj len => ?_⟩
      match j, hj with
      | 0, _ => simp only [toVs]; exact set0_ok h0 len
      | 1, _ => simp only [toVs]; exact set0_ok h1 len
      | n + 2, h => exact absurd h (by omega)
    · cases h
  · cases h
def Term.c (x : Term) : Nat → EV
  | 0 => .i .i64 (x.kind)
  | 1 => .i .i64 (x.cond)
  | 2 => .fz (.st 1) (x.to)
  | 3 => .fz (.int .i64) (x.rets)
  | _ => .un
def Term.s (x : Term) (j : Nat) (v : EV) : Option Term := match j with
  | 0 => match set0 (.int .i64) v with
    | some y => some { x with kind := y }
    | none => none
  | 1 => match set0 (.int .i64) v with
    | some y => some { x with cond := y }
    | none => none
  | 2 => match set0 (.sl (.st 1)) v with
    | some y => some { x with to := y }
    | none => none
  | 3 => match set0 (.sl (.int .i64)) v with
    | some y => some { x with rets := y }
    | none => none
  | _ => none
def Term.m : List EV → Option Term
  | [a0, a1, a2, a3] => match set0 (.int .i64) a0, set0 (.int .i64) a1, set0 (.sl (.st 1)) a2, set0 (.sl (.int .i64)) a3 with
    | some y0, some y1, some y2, some y3 => some ⟨y0, y1, y2, y3⟩
    | _, _, _, _ => none
  | _ => none
theorem Term.c_ok (x : Term) (len : Len) : ∀ j, j < 4 → toV len (Term.c x j) = .t (Term.e x j)
  | 0, _ => by simp only [Term.c, toV]; rfl
  | 1, _ => by simp only [Term.c, toV]; rfl
  | 2, _ => by simp only [Term.c, toV]; rfl
  | 3, _ => by simp only [Term.c, toV]; rfl
  | n + 4, h => absurd h (by omega)
theorem Term.c_dat (x : Term) : ∀ j, (Term.c x j).dat = true
  | 0 => rfl
  | 1 => rfl
  | 2 => rfl
  | 3 => rfl
  | n + 4 => rfl
theorem Term.s_ok (x : Term) (j : Nat) (v : EV) (y : Term) (h : Term.s x j v = some y) : (∀ len, Wk (toV len v) (toV len (Term.c y j))) ∧ ∀ j', j' ≠ j → Term.c y j' = Term.c x j' := by
  match j with
  | 0 =>
    simp only [Term.s] at h
    split at h
    · rename_i a ha
      injection h with h
      subst h
      refine ⟨set0_ok ha, fun j' hj => ?_⟩
      match j', hj with
      | 0, hj => exact absurd rfl hj
      | 1, hj => exact rfl
      | 2, hj => exact rfl
      | 3, hj => exact rfl
      | n + 4, _ => rfl
    · cases h
  | 1 =>
    simp only [Term.s] at h
    split at h
    · rename_i a ha
      injection h with h
      subst h
      refine ⟨set0_ok ha, fun j' hj => ?_⟩
      match j', hj with
      | 0, hj => exact rfl
      | 1, hj => exact absurd rfl hj
      | 2, hj => exact rfl
      | 3, hj => exact rfl
      | n + 4, _ => rfl
    · cases h
  | 2 =>
    simp only [Term.s] at h
    split at h
    · rename_i a ha
      injection h with h
      subst h
      refine ⟨set0_ok ha, fun j' hj => ?_⟩
      match j', hj with
      | 0, hj => exact rfl
      | 1, hj => exact rfl
      | 2, hj => exact absurd rfl hj
      | 3, hj => exact rfl
      | n + 4, _ => rfl
    · cases h
  | 3 =>
    simp only [Term.s] at h
    split at h
    · rename_i a ha
      injection h with h
      subst h
      refine ⟨set0_ok ha, fun j' hj => ?_⟩
      match j', hj with
      | 0, hj => exact rfl
      | 1, hj => exact rfl
      | 2, hj => exact rfl
      | 3, hj => exact absurd rfl hj
      | n + 4, _ => rfl
    · cases h
  | n + 4 => simp [Term.s] at h
theorem Term.m_ok (l : List EV) (y : Term) (h : Term.m l = some y) : l.length = 4 ∧ ∀ j, j < 4 → ∀ len, Wk (toVs len l j) (toV len (Term.c y j)) := by
  unfold Term.m at h
  split at h
  · split at h
    · rename_i h0 h1 h2 h3
      injection h with h
      subst h
      refine ⟨rfl, fun j hj len => ?_⟩
      match j, hj with
      | 0, _ => simp only [toVs]; exact set0_ok h0 len
      | 1, _ => simp only [toVs]; exact set0_ok h1 len
      | 2, _ => simp only [toVs]; exact set0_ok h2 len
      | 3, _ => simp only [toVs]; exact set0_ok h3 len
      | n + 4, h => exact absurd h (by omega)
    · cases h
  · cases h
def Block.c (x : Block) : Nat → EV
  | 0 => .fz (.int .i64) (x.params)
  | 1 => .fz (.st 0) (x.insts)
  | 2 => .i .i64 (x.term.kind)
  | 3 => .i .i64 (x.term.cond)
  | 4 => .fz (.st 1) (x.term.to)
  | 5 => .fz (.int .i64) (x.term.rets)
  | 6 => .i .i64 (x.pipeline)
  | 7 => .i .i64 (x.unroll)
  | 8 => .i .i64 (x.line)
  | _ => .un
def Block.s (x : Block) (j : Nat) (v : EV) : Option Block := match j with
  | 0 => match set0 (.sl (.int .i64)) v with
    | some y => some { x with params := y }
    | none => none
  | 1 => match set0 (.sl (.st 0)) v with
    | some y => some { x with insts := y }
    | none => none
  | 2 => match set0 (.int .i64) v with
    | some y => some { x with term := { x.term with kind := y } }
    | none => none
  | 3 => match set0 (.int .i64) v with
    | some y => some { x with term := { x.term with cond := y } }
    | none => none
  | 4 => match set0 (.sl (.st 1)) v with
    | some y => some { x with term := { x.term with to := y } }
    | none => none
  | 5 => match set0 (.sl (.int .i64)) v with
    | some y => some { x with term := { x.term with rets := y } }
    | none => none
  | 6 => match set0 (.int .i64) v with
    | some y => some { x with pipeline := y }
    | none => none
  | 7 => match set0 (.int .i64) v with
    | some y => some { x with unroll := y }
    | none => none
  | 8 => match set0 (.int .i64) v with
    | some y => some { x with line := y }
    | none => none
  | _ => none
def Block.m : List EV → Option Block
  | [a0, a1, a2, a3, a4, a5, a6, a7, a8] => match set0 (.sl (.int .i64)) a0, set0 (.sl (.st 0)) a1, set0 (.int .i64) a2, set0 (.int .i64) a3, set0 (.sl (.st 1)) a4, set0 (.sl (.int .i64)) a5, set0 (.int .i64) a6, set0 (.int .i64) a7, set0 (.int .i64) a8 with
    | some y0, some y1, some y2, some y3, some y4, some y5, some y6, some y7, some y8 => some ⟨y0, y1, ⟨y2, y3, y4, y5⟩, y6, y7, y8⟩
    | _, _, _, _, _, _, _, _, _ => none
  | _ => none
theorem Block.c_ok (x : Block) (len : Len) : ∀ j, j < 9 → toV len (Block.c x j) = .t (Block.e x j)
  | 0, _ => by simp only [Block.c, toV]; rfl
  | 1, _ => by simp only [Block.c, toV]; rfl
  | 2, _ => by simp only [Block.c, toV]; rfl
  | 3, _ => by simp only [Block.c, toV]; rfl
  | 4, _ => by simp only [Block.c, toV]; rfl
  | 5, _ => by simp only [Block.c, toV]; rfl
  | 6, _ => by simp only [Block.c, toV]; rfl
  | 7, _ => by simp only [Block.c, toV]; rfl
  | 8, _ => by simp only [Block.c, toV]; rfl
  | n + 9, h => absurd h (by omega)
theorem Block.c_dat (x : Block) : ∀ j, (Block.c x j).dat = true
  | 0 => rfl
  | 1 => rfl
  | 2 => rfl
  | 3 => rfl
  | 4 => rfl
  | 5 => rfl
  | 6 => rfl
  | 7 => rfl
  | 8 => rfl
  | n + 9 => rfl
theorem Block.s_ok (x : Block) (j : Nat) (v : EV) (y : Block) (h : Block.s x j v = some y) : (∀ len, Wk (toV len v) (toV len (Block.c y j))) ∧ ∀ j', j' ≠ j → Block.c y j' = Block.c x j' := by
  match j with
  | 0 =>
    simp only [Block.s] at h
    split at h
    · rename_i a ha
      injection h with h
      subst h
      refine ⟨set0_ok ha, fun j' hj => ?_⟩
      match j', hj with
      | 0, hj => exact absurd rfl hj
      | 1, hj => exact rfl
      | 2, hj => exact rfl
      | 3, hj => exact rfl
      | 4, hj => exact rfl
      | 5, hj => exact rfl
      | 6, hj => exact rfl
      | 7, hj => exact rfl
      | 8, hj => exact rfl
      | n + 9, _ => rfl
    · cases h
  | 1 =>
    simp only [Block.s] at h
    split at h
    · rename_i a ha
      injection h with h
      subst h
      refine ⟨set0_ok ha, fun j' hj => ?_⟩
      match j', hj with
      | 0, hj => exact rfl
      | 1, hj => exact absurd rfl hj
      | 2, hj => exact rfl
      | 3, hj => exact rfl
      | 4, hj => exact rfl
      | 5, hj => exact rfl
      | 6, hj => exact rfl
      | 7, hj => exact rfl
      | 8, hj => exact rfl
      | n + 9, _ => rfl
    · cases h
  | 2 =>
    simp only [Block.s] at h
    split at h
    · rename_i a ha
      injection h with h
      subst h
      refine ⟨set0_ok ha, fun j' hj => ?_⟩
      match j', hj with
      | 0, hj => exact rfl
      | 1, hj => exact rfl
      | 2, hj => exact absurd rfl hj
      | 3, hj => exact rfl
      | 4, hj => exact rfl
      | 5, hj => exact rfl
      | 6, hj => exact rfl
      | 7, hj => exact rfl
      | 8, hj => exact rfl
      | n + 9, _ => rfl
    · cases h
  | 3 =>
    simp only [Block.s] at h
    split at h
    · rename_i a ha
      injection h with h
      subst h
      refine ⟨set0_ok ha, fun j' hj => ?_⟩
      match j', hj with
      | 0, hj => exact rfl
      | 1, hj => exact rfl
      | 2, hj => exact rfl
      | 3, hj => exact absurd rfl hj
      | 4, hj => exact rfl
      | 5, hj => exact rfl
      | 6, hj => exact rfl
      | 7, hj => exact rfl
      | 8, hj => exact rfl
      | n + 9, _ => rfl
    · cases h
  | 4 =>
    simp only [Block.s] at h
    split at h
    · rename_i a ha
      injection h with h
      subst h
      refine ⟨set0_ok ha, fun j' hj => ?_⟩
      match j', hj with
      | 0, hj => exact rfl
      | 1, hj => exact rfl
      | 2, hj => exact rfl
      | 3, hj => exact rfl
      | 4, hj => exact absurd rfl hj
      | 5, hj => exact rfl
      | 6, hj => exact rfl
      | 7, hj => exact rfl
      | 8, hj => exact rfl
      | n + 9, _ => rfl
    · cases h
  | 5 =>
    simp only [Block.s] at h
    split at h
    · rename_i a ha
      injection h with h
      subst h
      refine ⟨set0_ok ha, fun j' hj => ?_⟩
      match j', hj with
      | 0, hj => exact rfl
      | 1, hj => exact rfl
      | 2, hj => exact rfl
      | 3, hj => exact rfl
      | 4, hj => exact rfl
      | 5, hj => exact absurd rfl hj
      | 6, hj => exact rfl
      | 7, hj => exact rfl
      | 8, hj => exact rfl
      | n + 9, _ => rfl
    · cases h
  | 6 =>
    simp only [Block.s] at h
    split at h
    · rename_i a ha
      injection h with h
      subst h
      refine ⟨set0_ok ha, fun j' hj => ?_⟩
      match j', hj with
      | 0, hj => exact rfl
      | 1, hj => exact rfl
      | 2, hj => exact rfl
      | 3, hj => exact rfl
      | 4, hj => exact rfl
      | 5, hj => exact rfl
      | 6, hj => exact absurd rfl hj
      | 7, hj => exact rfl
      | 8, hj => exact rfl
      | n + 9, _ => rfl
    · cases h
  | 7 =>
    simp only [Block.s] at h
    split at h
    · rename_i a ha
      injection h with h
      subst h
      refine ⟨set0_ok ha, fun j' hj => ?_⟩
      match j', hj with
      | 0, hj => exact rfl
      | 1, hj => exact rfl
      | 2, hj => exact rfl
      | 3, hj => exact rfl
      | 4, hj => exact rfl
      | 5, hj => exact rfl
      | 6, hj => exact rfl
      | 7, hj => exact absurd rfl hj
      | 8, hj => exact rfl
      | n + 9, _ => rfl
    · cases h
  | 8 =>
    simp only [Block.s] at h
    split at h
    · rename_i a ha
      injection h with h
      subst h
      refine ⟨set0_ok ha, fun j' hj => ?_⟩
      match j', hj with
      | 0, hj => exact rfl
      | 1, hj => exact rfl
      | 2, hj => exact rfl
      | 3, hj => exact rfl
      | 4, hj => exact rfl
      | 5, hj => exact rfl
      | 6, hj => exact rfl
      | 7, hj => exact rfl
      | 8, hj => exact absurd rfl hj
      | n + 9, _ => rfl
    · cases h
  | n + 9 => simp [Block.s] at h
theorem Block.m_ok (l : List EV) (y : Block) (h : Block.m l = some y) : l.length = 9 ∧ ∀ j, j < 9 → ∀ len, Wk (toVs len l j) (toV len (Block.c y j)) := by
  unfold Block.m at h
  split at h
  · split at h
    · rename_i h0 h1 h2 h3 h4 h5 h6 h7 h8
      injection h with h
      subst h
      refine ⟨rfl, fun j hj len => ?_⟩
      match j, hj with
      | 0, _ => simp only [toVs]; exact set0_ok h0 len
      | 1, _ => simp only [toVs]; exact set0_ok h1 len
      | 2, _ => simp only [toVs]; exact set0_ok h2 len
      | 3, _ => simp only [toVs]; exact set0_ok h3 len
      | 4, _ => simp only [toVs]; exact set0_ok h4 len
      | 5, _ => simp only [toVs]; exact set0_ok h5 len
      | 6, _ => simp only [toVs]; exact set0_ok h6 len
      | 7, _ => simp only [toVs]; exact set0_ok h7 len
      | 8, _ => simp only [toVs]; exact set0_ok h8 len
      | n + 9, h => exact absurd h (by omega)
    · cases h
  · cases h
def Arr.c (x : Arr) : Nat → EV
  | 0 => .s (x.name)
  | 1 => .i .i64 (x.width)
  | 2 => .i .i64 (x.len)
  | 3 => .i .i64 (x.kind)
  | 4 => .i .i64 (x.factor)
  | _ => .un
def Arr.s (x : Arr) (j : Nat) (v : EV) : Option Arr := match j with
  | 0 => match set0 (.str) v with
    | some y => some { x with name := y }
    | none => none
  | 1 => match set0 (.int .i64) v with
    | some y => some { x with width := y }
    | none => none
  | 2 => match set0 (.int .i64) v with
    | some y => some { x with len := y }
    | none => none
  | 3 => match set0 (.int .i64) v with
    | some y => some { x with kind := y }
    | none => none
  | 4 => match set0 (.int .i64) v with
    | some y => some { x with factor := y }
    | none => none
  | _ => none
def Arr.m : List EV → Option Arr
  | [a0, a1, a2, a3, a4] => match set0 (.str) a0, set0 (.int .i64) a1, set0 (.int .i64) a2, set0 (.int .i64) a3, set0 (.int .i64) a4 with
    | some y0, some y1, some y2, some y3, some y4 => some ⟨y0, y1, y2, y3, y4⟩
    | _, _, _, _, _ => none
  | _ => none
theorem Arr.c_ok (x : Arr) (len : Len) : ∀ j, j < 5 → toV len (Arr.c x j) = .t (Arr.e x j)
  | 0, _ => by simp only [Arr.c, toV]; rfl
  | 1, _ => by simp only [Arr.c, toV]; rfl
  | 2, _ => by simp only [Arr.c, toV]; rfl
  | 3, _ => by simp only [Arr.c, toV]; rfl
  | 4, _ => by simp only [Arr.c, toV]; rfl
  | n + 5, h => absurd h (by omega)
theorem Arr.c_dat (x : Arr) : ∀ j, (Arr.c x j).dat = true
  | 0 => rfl
  | 1 => rfl
  | 2 => rfl
  | 3 => rfl
  | 4 => rfl
  | n + 5 => rfl
theorem Arr.s_ok (x : Arr) (j : Nat) (v : EV) (y : Arr) (h : Arr.s x j v = some y) : (∀ len, Wk (toV len v) (toV len (Arr.c y j))) ∧ ∀ j', j' ≠ j → Arr.c y j' = Arr.c x j' := by
  match j with
  | 0 =>
    simp only [Arr.s] at h
    split at h
    · rename_i a ha
      injection h with h
      subst h
      refine ⟨set0_ok ha, fun j' hj => ?_⟩
      match j', hj with
      | 0, hj => exact absurd rfl hj
      | 1, hj => exact rfl
      | 2, hj => exact rfl
      | 3, hj => exact rfl
      | 4, hj => exact rfl
      | n + 5, _ => rfl
    · cases h
  | 1 =>
    simp only [Arr.s] at h
    split at h
    · rename_i a ha
      injection h with h
      subst h
      refine ⟨set0_ok ha, fun j' hj => ?_⟩
      match j', hj with
      | 0, hj => exact rfl
      | 1, hj => exact absurd rfl hj
      | 2, hj => exact rfl
      | 3, hj => exact rfl
      | 4, hj => exact rfl
      | n + 5, _ => rfl
    · cases h
  | 2 =>
    simp only [Arr.s] at h
    split at h
    · rename_i a ha
      injection h with h
      subst h
      refine ⟨set0_ok ha, fun j' hj => ?_⟩
      match j', hj with
      | 0, hj => exact rfl
      | 1, hj => exact rfl
      | 2, hj => exact absurd rfl hj
      | 3, hj => exact rfl
      | 4, hj => exact rfl
      | n + 5, _ => rfl
    · cases h
  | 3 =>
    simp only [Arr.s] at h
    split at h
    · rename_i a ha
      injection h with h
      subst h
      refine ⟨set0_ok ha, fun j' hj => ?_⟩
      match j', hj with
      | 0, hj => exact rfl
      | 1, hj => exact rfl
      | 2, hj => exact rfl
      | 3, hj => exact absurd rfl hj
      | 4, hj => exact rfl
      | n + 5, _ => rfl
    · cases h
  | 4 =>
    simp only [Arr.s] at h
    split at h
    · rename_i a ha
      injection h with h
      subst h
      refine ⟨set0_ok ha, fun j' hj => ?_⟩
      match j', hj with
      | 0, hj => exact rfl
      | 1, hj => exact rfl
      | 2, hj => exact rfl
      | 3, hj => exact rfl
      | 4, hj => exact absurd rfl hj
      | n + 5, _ => rfl
    · cases h
  | n + 5 => simp [Arr.s] at h
theorem Arr.m_ok (l : List EV) (y : Arr) (h : Arr.m l = some y) : l.length = 5 ∧ ∀ j, j < 5 → ∀ len, Wk (toVs len l j) (toV len (Arr.c y j)) := by
  unfold Arr.m at h
  split at h
  · split at h
    · rename_i h0 h1 h2 h3 h4
      injection h with h
      subst h
      refine ⟨rfl, fun j hj len => ?_⟩
      match j, hj with
      | 0, _ => simp only [toVs]; exact set0_ok h0 len
      | 1, _ => simp only [toVs]; exact set0_ok h1 len
      | 2, _ => simp only [toVs]; exact set0_ok h2 len
      | 3, _ => simp only [toVs]; exact set0_ok h3 len
      | 4, _ => simp only [toVs]; exact set0_ok h4 len
      | n + 5, h => exact absurd h (by omega)
    · cases h
  · cases h
def Strm.c (x : Strm) : Nat → EV
  | 0 => .s (x.name)
  | 1 => .i .i64 (x.width)
  | 2 => .b (x.out)
  | _ => .un
def Strm.s (x : Strm) (j : Nat) (v : EV) : Option Strm := match j with
  | 0 => match set0 (.str) v with
    | some y => some { x with name := y }
    | none => none
  | 1 => match set0 (.int .i64) v with
    | some y => some { x with width := y }
    | none => none
  | 2 => match set0 (.bool) v with
    | some y => some { x with out := y }
    | none => none
  | _ => none
def Strm.m : List EV → Option Strm
  | [a0, a1, a2] => match set0 (.str) a0, set0 (.int .i64) a1, set0 (.bool) a2 with
    | some y0, some y1, some y2 => some ⟨y0, y1, y2⟩
    | _, _, _ => none
  | _ => none
theorem Strm.c_ok (x : Strm) (len : Len) : ∀ j, j < 3 → toV len (Strm.c x j) = .t (Strm.e x j)
  | 0, _ => by simp only [Strm.c, toV]; rfl
  | 1, _ => by simp only [Strm.c, toV]; rfl
  | 2, _ => by simp only [Strm.c, toV]; rfl
  | n + 3, h => absurd h (by omega)
theorem Strm.c_dat (x : Strm) : ∀ j, (Strm.c x j).dat = true
  | 0 => rfl
  | 1 => rfl
  | 2 => rfl
  | n + 3 => rfl
theorem Strm.s_ok (x : Strm) (j : Nat) (v : EV) (y : Strm) (h : Strm.s x j v = some y) : (∀ len, Wk (toV len v) (toV len (Strm.c y j))) ∧ ∀ j', j' ≠ j → Strm.c y j' = Strm.c x j' := by
  match j with
  | 0 =>
    simp only [Strm.s] at h
    split at h
    · rename_i a ha
      injection h with h
      subst h
      refine ⟨set0_ok ha, fun j' hj => ?_⟩
      match j', hj with
      | 0, hj => exact absurd rfl hj
      | 1, hj => exact rfl
      | 2, hj => exact rfl
      | n + 3, _ => rfl
    · cases h
  | 1 =>
    simp only [Strm.s] at h
    split at h
    · rename_i a ha
      injection h with h
      subst h
      refine ⟨set0_ok ha, fun j' hj => ?_⟩
      match j', hj with
      | 0, hj => exact rfl
      | 1, hj => exact absurd rfl hj
      | 2, hj => exact rfl
      | n + 3, _ => rfl
    · cases h
  | 2 =>
    simp only [Strm.s] at h
    split at h
    · rename_i a ha
      injection h with h
      subst h
      refine ⟨set0_ok ha, fun j' hj => ?_⟩
      match j', hj with
      | 0, hj => exact rfl
      | 1, hj => exact rfl
      | 2, hj => exact absurd rfl hj
      | n + 3, _ => rfl
    · cases h
  | n + 3 => simp [Strm.s] at h
theorem Strm.m_ok (l : List EV) (y : Strm) (h : Strm.m l = some y) : l.length = 3 ∧ ∀ j, j < 3 → ∀ len, Wk (toVs len l j) (toV len (Strm.c y j)) := by
  unfold Strm.m at h
  split at h
  · split at h
    · rename_i h0 h1 h2
      injection h with h
      subst h
      refine ⟨rfl, fun j hj len => ?_⟩
      match j, hj with
      | 0, _ => simp only [toVs]; exact set0_ok h0 len
      | 1, _ => simp only [toVs]; exact set0_ok h1 len
      | 2, _ => simp only [toVs]; exact set0_ok h2 len
      | n + 3, h => exact absurd h (by omega)
    · cases h
  · cases h
def Fn.c (x : Fn) : Nat → EV
  | 0 => .s (x.name)
  | 1 => .fz (.int .i64) (x.widths)
  | 2 => .fz (.st 4) (x.arrays)
  | 3 => .fz (.st 5) (x.streams)
  | 4 => .fz (.int .i64) (x.rets)
  | 5 => .fz (.st 3) (x.blocks)
  | _ => .un
def Fn.s (x : Fn) (j : Nat) (v : EV) : Option Fn := match j with
  | 0 => match set0 (.str) v with
    | some y => some { x with name := y }
    | none => none
  | 1 => match set0 (.sl (.int .i64)) v with
    | some y => some { x with widths := y }
    | none => none
  | 2 => match set0 (.sl (.st 4)) v with
    | some y => some { x with arrays := y }
    | none => none
  | 3 => match set0 (.sl (.st 5)) v with
    | some y => some { x with streams := y }
    | none => none
  | 4 => match set0 (.sl (.int .i64)) v with
    | some y => some { x with rets := y }
    | none => none
  | 5 => match set0 (.sl (.st 3)) v with
    | some y => some { x with blocks := y }
    | none => none
  | _ => none
def Fn.m : List EV → Option Fn
  | [a0, a1, a2, a3, a4, a5] => match set0 (.str) a0, set0 (.sl (.int .i64)) a1, set0 (.sl (.st 4)) a2, set0 (.sl (.st 5)) a3, set0 (.sl (.int .i64)) a4, set0 (.sl (.st 3)) a5 with
    | some y0, some y1, some y2, some y3, some y4, some y5 => some ⟨y0, y1, y2, y3, y4, y5⟩
    | _, _, _, _, _, _ => none
  | _ => none
theorem Fn.c_ok (x : Fn) (len : Len) : ∀ j, j < 6 → toV len (Fn.c x j) = .t (Fn.e x j)
  | 0, _ => by simp only [Fn.c, toV]; rfl
  | 1, _ => by simp only [Fn.c, toV]; rfl
  | 2, _ => by simp only [Fn.c, toV]; rfl
  | 3, _ => by simp only [Fn.c, toV]; rfl
  | 4, _ => by simp only [Fn.c, toV]; rfl
  | 5, _ => by simp only [Fn.c, toV]; rfl
  | n + 6, h => absurd h (by omega)
theorem Fn.c_dat (x : Fn) : ∀ j, (Fn.c x j).dat = true
  | 0 => rfl
  | 1 => rfl
  | 2 => rfl
  | 3 => rfl
  | 4 => rfl
  | 5 => rfl
  | n + 6 => rfl
theorem Fn.s_ok (x : Fn) (j : Nat) (v : EV) (y : Fn) (h : Fn.s x j v = some y) : (∀ len, Wk (toV len v) (toV len (Fn.c y j))) ∧ ∀ j', j' ≠ j → Fn.c y j' = Fn.c x j' := by
  match j with
  | 0 =>
    simp only [Fn.s] at h
    split at h
    · rename_i a ha
      injection h with h
      subst h
      refine ⟨set0_ok ha, fun j' hj => ?_⟩
      match j', hj with
      | 0, hj => exact absurd rfl hj
      | 1, hj => exact rfl
      | 2, hj => exact rfl
      | 3, hj => exact rfl
      | 4, hj => exact rfl
      | 5, hj => exact rfl
      | n + 6, _ => rfl
    · cases h
  | 1 =>
    simp only [Fn.s] at h
    split at h
    · rename_i a ha
      injection h with h
      subst h
      refine ⟨set0_ok ha, fun j' hj => ?_⟩
      match j', hj with
      | 0, hj => exact rfl
      | 1, hj => exact absurd rfl hj
      | 2, hj => exact rfl
      | 3, hj => exact rfl
      | 4, hj => exact rfl
      | 5, hj => exact rfl
      | n + 6, _ => rfl
    · cases h
  | 2 =>
    simp only [Fn.s] at h
    split at h
    · rename_i a ha
      injection h with h
      subst h
      refine ⟨set0_ok ha, fun j' hj => ?_⟩
      match j', hj with
      | 0, hj => exact rfl
      | 1, hj => exact rfl
      | 2, hj => exact absurd rfl hj
      | 3, hj => exact rfl
      | 4, hj => exact rfl
      | 5, hj => exact rfl
      | n + 6, _ => rfl
    · cases h
  | 3 =>
    simp only [Fn.s] at h
    split at h
    · rename_i a ha
      injection h with h
      subst h
      refine ⟨set0_ok ha, fun j' hj => ?_⟩
      match j', hj with
      | 0, hj => exact rfl
      | 1, hj => exact rfl
      | 2, hj => exact rfl
      | 3, hj => exact absurd rfl hj
      | 4, hj => exact rfl
      | 5, hj => exact rfl
      | n + 6, _ => rfl
    · cases h
  | 4 =>
    simp only [Fn.s] at h
    split at h
    · rename_i a ha
      injection h with h
      subst h
      refine ⟨set0_ok ha, fun j' hj => ?_⟩
      match j', hj with
      | 0, hj => exact rfl
      | 1, hj => exact rfl
      | 2, hj => exact rfl
      | 3, hj => exact rfl
      | 4, hj => exact absurd rfl hj
      | 5, hj => exact rfl
      | n + 6, _ => rfl
    · cases h
  | 5 =>
    simp only [Fn.s] at h
    split at h
    · rename_i a ha
      injection h with h
      subst h
      refine ⟨set0_ok ha, fun j' hj => ?_⟩
      match j', hj with
      | 0, hj => exact rfl
      | 1, hj => exact rfl
      | 2, hj => exact rfl
      | 3, hj => exact rfl
      | 4, hj => exact rfl
      | 5, hj => exact absurd rfl hj
      | n + 6, _ => rfl
    · cases h
  | n + 6 => simp [Fn.s] at h
theorem Fn.m_ok (l : List EV) (y : Fn) (h : Fn.m l = some y) : l.length = 6 ∧ ∀ j, j < 6 → ∀ len, Wk (toVs len l j) (toV len (Fn.c y j)) := by
  unfold Fn.m at h
  split at h
  · split at h
    · rename_i h0 h1 h2 h3 h4 h5
      injection h with h
      subst h
      refine ⟨rfl, fun j hj len => ?_⟩
      match j, hj with
      | 0, _ => simp only [toVs]; exact set0_ok h0 len
      | 1, _ => simp only [toVs]; exact set0_ok h1 len
      | 2, _ => simp only [toVs]; exact set0_ok h2 len
      | 3, _ => simp only [toVs]; exact set0_ok h3 len
      | 4, _ => simp only [toVs]; exact set0_ok h4 len
      | 5, _ => simp only [toVs]; exact set0_ok h5 len
      | n + 6, h => exact absurd h (by omega)
    · cases h
  · cases h
def Typ.c (x : Typ) : Nat → EV
  | 0 => .i .i64 (x.width)
  | 1 => .b (x.signed)
  | _ => .un
def Typ.s (x : Typ) (j : Nat) (v : EV) : Option Typ := match j with
  | 0 => match set0 (.int .i64) v with
    | some y => some { x with width := y }
    | none => none
  | 1 => match set0 (.bool) v with
    | some y => some { x with signed := y }
    | none => none
  | _ => none
def Typ.m : List EV → Option Typ
  | [a0, a1] => match set0 (.int .i64) a0, set0 (.bool) a1 with
    | some y0, some y1 => some ⟨y0, y1⟩
    | _, _ => none
  | _ => none
theorem Typ.c_ok (x : Typ) (len : Len) : ∀ j, j < 2 → toV len (Typ.c x j) = .t (Typ.e x j)
  | 0, _ => by simp only [Typ.c, toV]; rfl
  | 1, _ => by simp only [Typ.c, toV]; rfl
  | n + 2, h => absurd h (by omega)
theorem Typ.c_dat (x : Typ) : ∀ j, (Typ.c x j).dat = true
  | 0 => rfl
  | 1 => rfl
  | n + 2 => rfl
theorem Typ.s_ok (x : Typ) (j : Nat) (v : EV) (y : Typ) (h : Typ.s x j v = some y) : (∀ len, Wk (toV len v) (toV len (Typ.c y j))) ∧ ∀ j', j' ≠ j → Typ.c y j' = Typ.c x j' := by
  match j with
  | 0 =>
    simp only [Typ.s] at h
    split at h
    · rename_i a ha
      injection h with h
      subst h
      refine ⟨set0_ok ha, fun j' hj => ?_⟩
      match j', hj with
      | 0, hj => exact absurd rfl hj
      | 1, hj => exact rfl
      | n + 2, _ => rfl
    · cases h
  | 1 =>
    simp only [Typ.s] at h
    split at h
    · rename_i a ha
      injection h with h
      subst h
      refine ⟨set0_ok ha, fun j' hj => ?_⟩
      match j', hj with
      | 0, hj => exact rfl
      | 1, hj => exact absurd rfl hj
      | n + 2, _ => rfl
    · cases h
  | n + 2 => simp [Typ.s] at h
theorem Typ.m_ok (l : List EV) (y : Typ) (h : Typ.m l = some y) : l.length = 2 ∧ ∀ j, j < 2 → ∀ len, Wk (toVs len l j) (toV len (Typ.c y j)) := by
  unfold Typ.m at h
  split at h
  · split at h
    · rename_i h0 h1
      injection h with h
      subst h
      refine ⟨rfl, fun j hj len => ?_⟩
      match j, hj with
      | 0, _ => simp only [toVs]; exact set0_ok h0 len
      | 1, _ => simp only [toVs]; exact set0_ok h1 len
      | n + 2, h => exact absurd h (by omega)
    · cases h
  · cases h
def InstM.c (x : InstM) : Nat → Cell
  | 0 => .ev (.i .i64 (x.op))
  | 1 => .ev (.i .i64 (x.dest))
  | 2 => match x.args with
    | .own l => .own 3 (.int .i64) l
    | .fz l => .ev (.fz (.int .i64) l)
  | 3 => .ev (.i .u64 (x.num))
  | 4 => .ev (.i .i64 (x.mem))
  | _ => .ev .un
def InstM.s (x : InstM) (j : Nat) (v : EV) : Option InstM := match j with
  | 0 => match set0 (.int .i64) v with
    | some y => some { x with op := y }
    | none => none
  | 1 => match set0 (.int .i64) v with
    | some y => some { x with dest := y }
    | none => none
  | 3 => match set0 (.int .u64) v with
    | some y => some { x with num := y }
    | none => none
  | 4 => match set0 (.int .i64) v with
    | some y => some { x with mem := y }
    | none => none
  | _ => none
def InstM.oS (x : InstM) (j : Nat) (t : TypeId) (e : Ty) (l : List e.D) : Option InstM := match j with
  | 2 => bif Nat.beq t 3 then (match castF List e (.int .i64) l with
    | some y => some { x with args := .own y }
    | none => none) else none
  | _ => none
def InstM.k (x : InstM) (j : Nat) (t : TypeId) (e : Ty) (l : List e.D) : Option InstM := match InstM.c x j with
  | .own _ _ _ => InstM.oS x j t e l
  | .ev _ => none
def InstM.oT : Nat → Option (TypeId × Ty)
  | 2 => some (3, (.int .i64))
  | _ => none
def InstM.fT : Nat → Option Ty
  | 2 => some (.int .i64)
  | _ => none
def InstM.oG (x : InstM) (j : Nat) (e : Ty) : Option (List e.D) := match j with
  | 2 => (match castF (fun X => Option (List X)) (.int .i64) e (Sp.ownL x.args) with
    | some o => o
    | none => none)
  | _ => none
def InstM.fG (x : InstM) (j : Nat) (e : Ty) : Option (List e.D) := match j with
  | 2 => (match castF (fun X => Option (List X)) (.int .i64) e (Sp.frzL x.args) with
    | some o => o
    | none => none)
  | _ => none
theorem InstM.s_ok (x : InstM) (j : Nat) (v : EV) (y : InstM) (h : InstM.s x j v = some y) : (∃ u0, InstM.c x j = .ev u0) ∧ (∃ u, InstM.c y j = .ev u ∧ ∀ len, Wk (toV len v) (toV len u)) ∧ ∀ j', j' ≠ j → InstM.c y j' = InstM.c x j' := by
  match j with
  | 0 =>
    simp only [InstM.s] at h
    split at h
    · rename_i a ha
      injection h with h
      subst h
      refine ⟨⟨_, rfl⟩, ⟨_, rfl, set0_ok ha⟩, fun j' hj => ?_⟩
      match j', hj with
      | 0, hj => exact absurd rfl hj
      | 1, hj => exact rfl
      | 2, hj => exact rfl
      | 3, hj => exact rfl
      | 4, hj => exact rfl
      | n + 5, _ => rfl
    · cases h
  | 1 =>
    simp only [InstM.s] at h
    split at h
    · rename_i a ha
      injection h with h
      subst h
      refine ⟨⟨_, rfl⟩, ⟨_, rfl, set0_ok ha⟩, fun j' hj => ?_⟩
      match j', hj with
      | 0, hj => exact rfl
      | 1, hj => exact absurd rfl hj
      | 2, hj => exact rfl
      | 3, hj => exact rfl
      | 4, hj => exact rfl
      | n + 5, _ => rfl
    · cases h
  | 2 => simp [InstM.s] at h
  | 3 =>
    simp only [InstM.s] at h
    split at h
    · rename_i a ha
      injection h with h
      subst h
      refine ⟨⟨_, rfl⟩, ⟨_, rfl, set0_ok ha⟩, fun j' hj => ?_⟩
      match j', hj with
      | 0, hj => exact rfl
      | 1, hj => exact rfl
      | 2, hj => exact rfl
      | 3, hj => exact absurd rfl hj
      | 4, hj => exact rfl
      | n + 5, _ => rfl
    · cases h
  | 4 =>
    simp only [InstM.s] at h
    split at h
    · rename_i a ha
      injection h with h
      subst h
      refine ⟨⟨_, rfl⟩, ⟨_, rfl, set0_ok ha⟩, fun j' hj => ?_⟩
      match j', hj with
      | 0, hj => exact rfl
      | 1, hj => exact rfl
      | 2, hj => exact rfl
      | 3, hj => exact rfl
      | 4, hj => exact absurd rfl hj
      | n + 5, _ => rfl
    · cases h
  | n + 5 => simp [InstM.s] at h
theorem InstM.oS_ok (x : InstM) (j : Nat) (t : TypeId) (e : Ty) (l : List e.D) (y : InstM) (h : InstM.oS x j t e l = some y) : InstM.c y j = .own t e l ∧ ∀ j', j' ≠ j → InstM.c y j' = InstM.c x j' := by
  match j with
  | 0 => simp [InstM.oS] at h
  | 1 => simp [InstM.oS] at h
  | 2 =>
    simp only [InstM.oS] at h
    cases hb : Nat.beq t 3 with
    | false => rw [hb] at h; cases h
    | true =>
      rw [hb] at h
      obtain rfl := Nat.eq_of_beq_eq_true hb
      simp only [cond_true] at h
      split at h
      · rename_i a ha
        injection h with h
        subst h
        obtain ⟨rfl, ha⟩ := castL_ok ha
        obtain rfl := eq_of_heq ha
        refine ⟨rfl, fun j' hj => ?_⟩
        match j', hj with
        | 0, hj => exact rfl
        | 1, hj => exact rfl
        | 2, hj => exact absurd rfl hj
        | 3, hj => exact rfl
        | 4, hj => exact rfl
        | n + 5, _ => rfl
      · cases h
  | 3 => simp [InstM.oS] at h
  | 4 => simp [InstM.oS] at h
  | n + 5 => simp [InstM.oS] at h
theorem InstM.oG_ok (x : InstM) (j : Nat) (t : TypeId) (e : Ty) (l : List e.D) (h1 : InstM.oT j = some (t, e)) (h2 : InstM.oG x j e = some l) : InstM.c x j = .own t e l := by
  match j with
  | 0 => simp [InstM.oT] at h1
  | 1 => simp [InstM.oT] at h1
  | 2 =>
    injection h1 with h1
    injection h1 with h1 h3
    subst h1; subst h3
    simp only [InstM.oG, castF_same, InstM.c] at h2 ⊢
    cases hx : x.args with
    | own l' => rw [hx] at h2; injection h2 with h2; subst h2; rfl
    | fz l' => rw [hx] at h2; cases h2
  | 3 => simp [InstM.oT] at h1
  | 4 => simp [InstM.oT] at h1
  | n + 5 => simp [InstM.oT] at h1
theorem InstM.fG_ok (x : InstM) (j : Nat) (e : Ty) (l : List e.D) (h1 : InstM.fT j = some e) (h2 : InstM.fG x j e = some l) : InstM.c x j = .ev (.fz e l) := by
  match j with
  | 0 => simp [InstM.fT] at h1
  | 1 => simp [InstM.fT] at h1
  | 2 =>
    injection h1 with h1
    subst h1
    simp only [InstM.fG, castF_same, InstM.c] at h2 ⊢
    cases hx : x.args with
    | fz l' => rw [hx] at h2; injection h2 with h2; subst h2; rfl
    | own l' => rw [hx] at h2; cases h2
  | 3 => simp [InstM.fT] at h1
  | 4 => simp [InstM.fT] at h1
  | n + 5 => simp [InstM.fT] at h1
theorem InstM.same (x : InstM) (j : Nat) (t : TypeId) (e : Ty) (l : List e.D) (y : InstM) (t0 : TypeId) (e0 : Ty) (l0 : List e0.D) (h : InstM.oS x j t e l = some y) (hc : InstM.c x j = .own t0 e0 l0) : ∃ l1, InstM.c x j = .own t e l1 := by
  match j with
  | 0 => simp [InstM.oS] at h
  | 1 => simp [InstM.oS] at h
  | 2 =>
    simp only [InstM.oS] at h
    cases hb : Nat.beq t 3 with
    | false => rw [hb] at h; cases h
    | true =>
      rw [hb] at h
      obtain rfl := Nat.eq_of_beq_eq_true hb
      simp only [cond_true] at h
      split at h
      · rename_i a ha
        obtain ⟨rfl, _⟩ := castL_ok ha
        simp only [InstM.c] at hc ⊢
        cases hx : x.args with
        | own l1 => exact ⟨l1, rfl⟩
        | fz l1 => rw [hx] at hc; cases hc
      · cases h
  | 3 => simp [InstM.oS] at h
  | 4 => simp [InstM.oS] at h
  | n + 5 => simp [InstM.oS] at h
theorem InstM.z_own (j : Nat) (t : TypeId) (e : Ty) (l : List e.D) (h : InstM.c InstM.z j = .own t e l) : l = [] := by
  match j with
  | 0 => cases h
  | 1 => cases h
  | 2 => cases h
  | 3 => cases h
  | 4 => cases h
  | n + 5 => cases h
theorem InstM.c_dat (x : InstM) (j : Nat) (u : EV) (h : InstM.c x j = .ev u) : u.dat = true := by
  match j with
  | 0 => injection h with h; subst h; rfl
  | 1 => injection h with h; subst h; rfl
  | 2 =>
    simp only [InstM.c] at h
    cases hx : x.args <;> rw [hx] at h
    · cases h
    · injection h with h; subst h; rfl
  | 3 => injection h with h; subst h; rfl
  | 4 => injection h with h; subst h; rfl
  | n + 5 => injection h with h; subst h; rfl
def EdgeM.c (x : EdgeM) : Nat → Cell
  | 0 => .ev (.i .i64 (x.block))
  | 1 => match x.args with
    | .own l => .own 3 (.int .i64) l
    | .fz l => .ev (.fz (.int .i64) l)
  | _ => .ev .un
def EdgeM.s (x : EdgeM) (j : Nat) (v : EV) : Option EdgeM := match j with
  | 0 => match set0 (.int .i64) v with
    | some y => some { x with block := y }
    | none => none
  | _ => none
def EdgeM.oS (x : EdgeM) (j : Nat) (t : TypeId) (e : Ty) (l : List e.D) : Option EdgeM := match j with
  | 1 => bif Nat.beq t 3 then (match castF List e (.int .i64) l with
    | some y => some { x with args := .own y }
    | none => none) else none
  | _ => none
def EdgeM.k (x : EdgeM) (j : Nat) (t : TypeId) (e : Ty) (l : List e.D) : Option EdgeM := match EdgeM.c x j with
  | .own _ _ _ => EdgeM.oS x j t e l
  | .ev _ => none
def EdgeM.oT : Nat → Option (TypeId × Ty)
  | 1 => some (3, (.int .i64))
  | _ => none
def EdgeM.fT : Nat → Option Ty
  | 1 => some (.int .i64)
  | _ => none
def EdgeM.oG (x : EdgeM) (j : Nat) (e : Ty) : Option (List e.D) := match j with
  | 1 => (match castF (fun X => Option (List X)) (.int .i64) e (Sp.ownL x.args) with
    | some o => o
    | none => none)
  | _ => none
def EdgeM.fG (x : EdgeM) (j : Nat) (e : Ty) : Option (List e.D) := match j with
  | 1 => (match castF (fun X => Option (List X)) (.int .i64) e (Sp.frzL x.args) with
    | some o => o
    | none => none)
  | _ => none
theorem EdgeM.s_ok (x : EdgeM) (j : Nat) (v : EV) (y : EdgeM) (h : EdgeM.s x j v = some y) : (∃ u0, EdgeM.c x j = .ev u0) ∧ (∃ u, EdgeM.c y j = .ev u ∧ ∀ len, Wk (toV len v) (toV len u)) ∧ ∀ j', j' ≠ j → EdgeM.c y j' = EdgeM.c x j' := by
  match j with
  | 0 =>
    simp only [EdgeM.s] at h
    split at h
    · rename_i a ha
      injection h with h
      subst h
      refine ⟨⟨_, rfl⟩, ⟨_, rfl, set0_ok ha⟩, fun j' hj => ?_⟩
      match j', hj with
      | 0, hj => exact absurd rfl hj
      | 1, hj => exact rfl
      | n + 2, _ => rfl
    · cases h
  | 1 => simp [EdgeM.s] at h
  | n + 2 => simp [EdgeM.s] at h
theorem EdgeM.oS_ok (x : EdgeM) (j : Nat) (t : TypeId) (e : Ty) (l : List e.D) (y : EdgeM) (h : EdgeM.oS x j t e l = some y) : EdgeM.c y j = .own t e l ∧ ∀ j', j' ≠ j → EdgeM.c y j' = EdgeM.c x j' := by
  match j with
  | 0 => simp [EdgeM.oS] at h
  | 1 =>
    simp only [EdgeM.oS] at h
    cases hb : Nat.beq t 3 with
    | false => rw [hb] at h; cases h
    | true =>
      rw [hb] at h
      obtain rfl := Nat.eq_of_beq_eq_true hb
      simp only [cond_true] at h
      split at h
      · rename_i a ha
        injection h with h
        subst h
        obtain ⟨rfl, ha⟩ := castL_ok ha
        obtain rfl := eq_of_heq ha
        refine ⟨rfl, fun j' hj => ?_⟩
        match j', hj with
        | 0, hj => exact rfl
        | 1, hj => exact absurd rfl hj
        | n + 2, _ => rfl
      · cases h
  | n + 2 => simp [EdgeM.oS] at h
theorem EdgeM.oG_ok (x : EdgeM) (j : Nat) (t : TypeId) (e : Ty) (l : List e.D) (h1 : EdgeM.oT j = some (t, e)) (h2 : EdgeM.oG x j e = some l) : EdgeM.c x j = .own t e l := by
  match j with
  | 0 => simp [EdgeM.oT] at h1
  | 1 =>
    injection h1 with h1
    injection h1 with h1 h3
    subst h1; subst h3
    simp only [EdgeM.oG, castF_same, EdgeM.c] at h2 ⊢
    cases hx : x.args with
    | own l' => rw [hx] at h2; injection h2 with h2; subst h2; rfl
    | fz l' => rw [hx] at h2; cases h2
  | n + 2 => simp [EdgeM.oT] at h1
theorem EdgeM.fG_ok (x : EdgeM) (j : Nat) (e : Ty) (l : List e.D) (h1 : EdgeM.fT j = some e) (h2 : EdgeM.fG x j e = some l) : EdgeM.c x j = .ev (.fz e l) := by
  match j with
  | 0 => simp [EdgeM.fT] at h1
  | 1 =>
    injection h1 with h1
    subst h1
    simp only [EdgeM.fG, castF_same, EdgeM.c] at h2 ⊢
    cases hx : x.args with
    | fz l' => rw [hx] at h2; injection h2 with h2; subst h2; rfl
    | own l' => rw [hx] at h2; cases h2
  | n + 2 => simp [EdgeM.fT] at h1
theorem EdgeM.same (x : EdgeM) (j : Nat) (t : TypeId) (e : Ty) (l : List e.D) (y : EdgeM) (t0 : TypeId) (e0 : Ty) (l0 : List e0.D) (h : EdgeM.oS x j t e l = some y) (hc : EdgeM.c x j = .own t0 e0 l0) : ∃ l1, EdgeM.c x j = .own t e l1 := by
  match j with
  | 0 => simp [EdgeM.oS] at h
  | 1 =>
    simp only [EdgeM.oS] at h
    cases hb : Nat.beq t 3 with
    | false => rw [hb] at h; cases h
    | true =>
      rw [hb] at h
      obtain rfl := Nat.eq_of_beq_eq_true hb
      simp only [cond_true] at h
      split at h
      · rename_i a ha
        obtain ⟨rfl, _⟩ := castL_ok ha
        simp only [EdgeM.c] at hc ⊢
        cases hx : x.args with
        | own l1 => exact ⟨l1, rfl⟩
        | fz l1 => rw [hx] at hc; cases hc
      · cases h
  | n + 2 => simp [EdgeM.oS] at h
theorem EdgeM.z_own (j : Nat) (t : TypeId) (e : Ty) (l : List e.D) (h : EdgeM.c EdgeM.z j = .own t e l) : l = [] := by
  match j with
  | 0 => cases h
  | 1 => cases h
  | n + 2 => cases h
theorem EdgeM.c_dat (x : EdgeM) (j : Nat) (u : EV) (h : EdgeM.c x j = .ev u) : u.dat = true := by
  match j with
  | 0 => injection h with h; subst h; rfl
  | 1 =>
    simp only [EdgeM.c] at h
    cases hx : x.args <;> rw [hx] at h
    · cases h
    · injection h with h; subst h; rfl
  | n + 2 => injection h with h; subst h; rfl
def TermM.c (x : TermM) : Nat → Cell
  | 0 => .ev (.i .i64 (x.kind))
  | 1 => .ev (.i .i64 (x.cond))
  | 2 => match x.to with
    | .own l => .own 51 (.st 9) l
    | .fz l => .ev (.fz (.st 1) l)
  | 3 => match x.rets with
    | .own l => .own 3 (.int .i64) l
    | .fz l => .ev (.fz (.int .i64) l)
  | _ => .ev .un
def TermM.s (x : TermM) (j : Nat) (v : EV) : Option TermM := match j with
  | 0 => match set0 (.int .i64) v with
    | some y => some { x with kind := y }
    | none => none
  | 1 => match set0 (.int .i64) v with
    | some y => some { x with cond := y }
    | none => none
  | _ => none
def TermM.oS (x : TermM) (j : Nat) (t : TypeId) (e : Ty) (l : List e.D) : Option TermM := match j with
  | 2 => bif Nat.beq t 51 then (match castF List e (.st 9) l with
    | some y => some { x with to := .own y }
    | none => none) else none
  | 3 => bif Nat.beq t 3 then (match castF List e (.int .i64) l with
    | some y => some { x with rets := .own y }
    | none => none) else none
  | _ => none
def TermM.k (x : TermM) (j : Nat) (t : TypeId) (e : Ty) (l : List e.D) : Option TermM := match TermM.c x j with
  | .own _ _ _ => TermM.oS x j t e l
  | .ev _ => none
def TermM.oT : Nat → Option (TypeId × Ty)
  | 2 => some (51, (.st 9))
  | 3 => some (3, (.int .i64))
  | _ => none
def TermM.fT : Nat → Option Ty
  | 2 => some (.st 1)
  | 3 => some (.int .i64)
  | _ => none
def TermM.oG (x : TermM) (j : Nat) (e : Ty) : Option (List e.D) := match j with
  | 2 => (match castF (fun X => Option (List X)) (.st 9) e (Sp.ownL x.to) with
    | some o => o
    | none => none)
  | 3 => (match castF (fun X => Option (List X)) (.int .i64) e (Sp.ownL x.rets) with
    | some o => o
    | none => none)
  | _ => none
def TermM.fG (x : TermM) (j : Nat) (e : Ty) : Option (List e.D) := match j with
  | 2 => (match castF (fun X => Option (List X)) (.st 1) e (Sp.frzL x.to) with
    | some o => o
    | none => none)
  | 3 => (match castF (fun X => Option (List X)) (.int .i64) e (Sp.frzL x.rets) with
    | some o => o
    | none => none)
  | _ => none
theorem TermM.s_ok (x : TermM) (j : Nat) (v : EV) (y : TermM) (h : TermM.s x j v = some y) : (∃ u0, TermM.c x j = .ev u0) ∧ (∃ u, TermM.c y j = .ev u ∧ ∀ len, Wk (toV len v) (toV len u)) ∧ ∀ j', j' ≠ j → TermM.c y j' = TermM.c x j' := by
  match j with
  | 0 =>
    simp only [TermM.s] at h
    split at h
    · rename_i a ha
      injection h with h
      subst h
      refine ⟨⟨_, rfl⟩, ⟨_, rfl, set0_ok ha⟩, fun j' hj => ?_⟩
      match j', hj with
      | 0, hj => exact absurd rfl hj
      | 1, hj => exact rfl
      | 2, hj => exact rfl
      | 3, hj => exact rfl
      | n + 4, _ => rfl
    · cases h
  | 1 =>
    simp only [TermM.s] at h
    split at h
    · rename_i a ha
      injection h with h
      subst h
      refine ⟨⟨_, rfl⟩, ⟨_, rfl, set0_ok ha⟩, fun j' hj => ?_⟩
      match j', hj with
      | 0, hj => exact rfl
      | 1, hj => exact absurd rfl hj
      | 2, hj => exact rfl
      | 3, hj => exact rfl
      | n + 4, _ => rfl
    · cases h
  | 2 => simp [TermM.s] at h
  | 3 => simp [TermM.s] at h
  | n + 4 => simp [TermM.s] at h
theorem TermM.oS_ok (x : TermM) (j : Nat) (t : TypeId) (e : Ty) (l : List e.D) (y : TermM) (h : TermM.oS x j t e l = some y) : TermM.c y j = .own t e l ∧ ∀ j', j' ≠ j → TermM.c y j' = TermM.c x j' := by
  match j with
  | 0 => simp [TermM.oS] at h
  | 1 => simp [TermM.oS] at h
  | 2 =>
    simp only [TermM.oS] at h
    cases hb : Nat.beq t 51 with
    | false => rw [hb] at h; cases h
    | true =>
      rw [hb] at h
      obtain rfl := Nat.eq_of_beq_eq_true hb
      simp only [cond_true] at h
      split at h
      · rename_i a ha
        injection h with h
        subst h
        obtain ⟨rfl, ha⟩ := castL_ok ha
        obtain rfl := eq_of_heq ha
        refine ⟨rfl, fun j' hj => ?_⟩
        match j', hj with
        | 0, hj => exact rfl
        | 1, hj => exact rfl
        | 2, hj => exact absurd rfl hj
        | 3, hj => exact rfl
        | n + 4, _ => rfl
      · cases h
  | 3 =>
    simp only [TermM.oS] at h
    cases hb : Nat.beq t 3 with
    | false => rw [hb] at h; cases h
    | true =>
      rw [hb] at h
      obtain rfl := Nat.eq_of_beq_eq_true hb
      simp only [cond_true] at h
      split at h
      · rename_i a ha
        injection h with h
        subst h
        obtain ⟨rfl, ha⟩ := castL_ok ha
        obtain rfl := eq_of_heq ha
        refine ⟨rfl, fun j' hj => ?_⟩
        match j', hj with
        | 0, hj => exact rfl
        | 1, hj => exact rfl
        | 2, hj => exact rfl
        | 3, hj => exact absurd rfl hj
        | n + 4, _ => rfl
      · cases h
  | n + 4 => simp [TermM.oS] at h
theorem TermM.oG_ok (x : TermM) (j : Nat) (t : TypeId) (e : Ty) (l : List e.D) (h1 : TermM.oT j = some (t, e)) (h2 : TermM.oG x j e = some l) : TermM.c x j = .own t e l := by
  match j with
  | 0 => simp [TermM.oT] at h1
  | 1 => simp [TermM.oT] at h1
  | 2 =>
    injection h1 with h1
    injection h1 with h1 h3
    subst h1; subst h3
    simp only [TermM.oG, castF_same, TermM.c] at h2 ⊢
    cases hx : x.to with
    | own l' => rw [hx] at h2; injection h2 with h2; subst h2; rfl
    | fz l' => rw [hx] at h2; cases h2
  | 3 =>
    injection h1 with h1
    injection h1 with h1 h3
    subst h1; subst h3
    simp only [TermM.oG, castF_same, TermM.c] at h2 ⊢
    cases hx : x.rets with
    | own l' => rw [hx] at h2; injection h2 with h2; subst h2; rfl
    | fz l' => rw [hx] at h2; cases h2
  | n + 4 => simp [TermM.oT] at h1
theorem TermM.fG_ok (x : TermM) (j : Nat) (e : Ty) (l : List e.D) (h1 : TermM.fT j = some e) (h2 : TermM.fG x j e = some l) : TermM.c x j = .ev (.fz e l) := by
  match j with
  | 0 => simp [TermM.fT] at h1
  | 1 => simp [TermM.fT] at h1
  | 2 =>
    injection h1 with h1
    subst h1
    simp only [TermM.fG, castF_same, TermM.c] at h2 ⊢
    cases hx : x.to with
    | fz l' => rw [hx] at h2; injection h2 with h2; subst h2; rfl
    | own l' => rw [hx] at h2; cases h2
  | 3 =>
    injection h1 with h1
    subst h1
    simp only [TermM.fG, castF_same, TermM.c] at h2 ⊢
    cases hx : x.rets with
    | fz l' => rw [hx] at h2; injection h2 with h2; subst h2; rfl
    | own l' => rw [hx] at h2; cases h2
  | n + 4 => simp [TermM.fT] at h1
theorem TermM.same (x : TermM) (j : Nat) (t : TypeId) (e : Ty) (l : List e.D) (y : TermM) (t0 : TypeId) (e0 : Ty) (l0 : List e0.D) (h : TermM.oS x j t e l = some y) (hc : TermM.c x j = .own t0 e0 l0) : ∃ l1, TermM.c x j = .own t e l1 := by
  match j with
  | 0 => simp [TermM.oS] at h
  | 1 => simp [TermM.oS] at h
  | 2 =>
    simp only [TermM.oS] at h
    cases hb : Nat.beq t 51 with
    | false => rw [hb] at h; cases h
    | true =>
      rw [hb] at h
      obtain rfl := Nat.eq_of_beq_eq_true hb
      simp only [cond_true] at h
      split at h
      · rename_i a ha
        obtain ⟨rfl, _⟩ := castL_ok ha
        simp only [TermM.c] at hc ⊢
        cases hx : x.to with
        | own l1 => exact ⟨l1, rfl⟩
        | fz l1 => rw [hx] at hc; cases hc
      · cases h
  | 3 =>
    simp only [TermM.oS] at h
    cases hb : Nat.beq t 3 with
    | false => rw [hb] at h; cases h
    | true =>
      rw [hb] at h
      obtain rfl := Nat.eq_of_beq_eq_true hb
      simp only [cond_true] at h
      split at h
      · rename_i a ha
        obtain ⟨rfl, _⟩ := castL_ok ha
        simp only [TermM.c] at hc ⊢
        cases hx : x.rets with
        | own l1 => exact ⟨l1, rfl⟩
        | fz l1 => rw [hx] at hc; cases hc
      · cases h
  | n + 4 => simp [TermM.oS] at h
theorem TermM.z_own (j : Nat) (t : TypeId) (e : Ty) (l : List e.D) (h : TermM.c TermM.z j = .own t e l) : l = [] := by
  match j with
  | 0 => cases h
  | 1 => cases h
  | 2 => cases h
  | 3 => cases h
  | n + 4 => cases h
theorem TermM.c_dat (x : TermM) (j : Nat) (u : EV) (h : TermM.c x j = .ev u) : u.dat = true := by
  match j with
  | 0 => injection h with h; subst h; rfl
  | 1 => injection h with h; subst h; rfl
  | 2 =>
    simp only [TermM.c] at h
    cases hx : x.to <;> rw [hx] at h
    · cases h
    · injection h with h; subst h; rfl
  | 3 =>
    simp only [TermM.c] at h
    cases hx : x.rets <;> rw [hx] at h
    · cases h
    · injection h with h; subst h; rfl
  | n + 4 => injection h with h; subst h; rfl
def BlockM.c (x : BlockM) : Nat → Cell
  | 0 => match x.params with
    | .own l => .own 3 (.int .i64) l
    | .fz l => .ev (.fz (.int .i64) l)
  | 1 => match x.insts with
    | .own l => .own 46 (.st 8) l
    | .fz l => .ev (.fz (.st 0) l)
  | 2 => .ev (.i .i64 (x.term.kind))
  | 3 => .ev (.i .i64 (x.term.cond))
  | 4 => match x.term.to with
    | .own l => .own 51 (.st 9) l
    | .fz l => .ev (.fz (.st 1) l)
  | 5 => match x.term.rets with
    | .own l => .own 3 (.int .i64) l
    | .fz l => .ev (.fz (.int .i64) l)
  | 6 => .ev (.i .i64 (x.pipeline))
  | 7 => .ev (.i .i64 (x.unroll))
  | 8 => .ev (.i .i64 (x.line))
  | _ => .ev .un
def BlockM.s (x : BlockM) (j : Nat) (v : EV) : Option BlockM := match j with
  | 2 => match set0 (.int .i64) v with
    | some y => some { x with term := { x.term with kind := y } }
    | none => none
  | 3 => match set0 (.int .i64) v with
    | some y => some { x with term := { x.term with cond := y } }
    | none => none
  | 6 => match set0 (.int .i64) v with
    | some y => some { x with pipeline := y }
    | none => none
  | 7 => match set0 (.int .i64) v with
    | some y => some { x with unroll := y }
    | none => none
  | 8 => match set0 (.int .i64) v with
    | some y => some { x with line := y }
    | none => none
  | _ => none
def BlockM.oS (x : BlockM) (j : Nat) (t : TypeId) (e : Ty) (l : List e.D) : Option BlockM := match j with
  | 0 => bif Nat.beq t 3 then (match castF List e (.int .i64) l with
    | some y => some { x with params := .own y }
    | none => none) else none
  | 1 => bif Nat.beq t 46 then (match castF List e (.st 8) l with
    | some y => some { x with insts := .own y }
    | none => none) else none
  | 4 => bif Nat.beq t 51 then (match castF List e (.st 9) l with
    | some y => some { x with term := { x.term with to := .own y } }
    | none => none) else none
  | 5 => bif Nat.beq t 3 then (match castF List e (.int .i64) l with
    | some y => some { x with term := { x.term with rets := .own y } }
    | none => none) else none
  | _ => none
def BlockM.k (x : BlockM) (j : Nat) (t : TypeId) (e : Ty) (l : List e.D) : Option BlockM := match BlockM.c x j with
  | .own _ _ _ => BlockM.oS x j t e l
  | .ev _ => none
def BlockM.oT : Nat → Option (TypeId × Ty)
  | 0 => some (3, (.int .i64))
  | 1 => some (46, (.st 8))
  | 4 => some (51, (.st 9))
  | 5 => some (3, (.int .i64))
  | _ => none
def BlockM.fT : Nat → Option Ty
  | 0 => some (.int .i64)
  | 1 => some (.st 0)
  | 4 => some (.st 1)
  | 5 => some (.int .i64)
  | _ => none
def BlockM.oG (x : BlockM) (j : Nat) (e : Ty) : Option (List e.D) := match j with
  | 0 => (match castF (fun X => Option (List X)) (.int .i64) e (Sp.ownL x.params) with
    | some o => o
    | none => none)
  | 1 => (match castF (fun X => Option (List X)) (.st 8) e (Sp.ownL x.insts) with
    | some o => o
    | none => none)
  | 4 => (match castF (fun X => Option (List X)) (.st 9) e (Sp.ownL x.term.to) with
    | some o => o
    | none => none)
  | 5 => (match castF (fun X => Option (List X)) (.int .i64) e (Sp.ownL x.term.rets) with
    | some o => o
    | none => none)
  | _ => none
def BlockM.fG (x : BlockM) (j : Nat) (e : Ty) : Option (List e.D) := match j with
  | 0 => (match castF (fun X => Option (List X)) (.int .i64) e (Sp.frzL x.params) with
    | some o => o
    | none => none)
  | 1 => (match castF (fun X => Option (List X)) (.st 0) e (Sp.frzL x.insts) with
    | some o => o
    | none => none)
  | 4 => (match castF (fun X => Option (List X)) (.st 1) e (Sp.frzL x.term.to) with
    | some o => o
    | none => none)
  | 5 => (match castF (fun X => Option (List X)) (.int .i64) e (Sp.frzL x.term.rets) with
    | some o => o
    | none => none)
  | _ => none
theorem BlockM.s_ok (x : BlockM) (j : Nat) (v : EV) (y : BlockM) (h : BlockM.s x j v = some y) : (∃ u0, BlockM.c x j = .ev u0) ∧ (∃ u, BlockM.c y j = .ev u ∧ ∀ len, Wk (toV len v) (toV len u)) ∧ ∀ j', j' ≠ j → BlockM.c y j' = BlockM.c x j' := by
  match j with
  | 0 => simp [BlockM.s] at h
  | 1 => simp [BlockM.s] at h
  | 2 =>
    simp only [BlockM.s] at h
    split at h
    · rename_i a ha
      injection h with h
      subst h
      refine ⟨⟨_, rfl⟩, ⟨_, rfl, set0_ok ha⟩, fun j' hj => ?_⟩
      match j', hj with
      | 0, hj => exact rfl
      | 1, hj => exact rfl
      | 2, hj => exact absurd rfl hj
      | 3, hj => exact rfl
      | 4, hj => exact rfl
      | 5, hj => exact rfl
      | 6, hj => exact rfl
      | 7, hj => exact rfl
      | 8, hj => exact rfl
      | n + 9, _ => rfl
    · cases h
  | 3 =>
    simp only [BlockM.s] at h
    split at h
    · rename_i a ha
      injection h with h
      subst h
      refine ⟨⟨_, rfl⟩, ⟨_, rfl, set0_ok ha⟩, fun j' hj => ?_⟩
      match j', hj with
      | 0, hj => exact rfl
      | 1, hj => exact rfl
      | 2, hj => exact rfl
      | 3, hj => exact absurd rfl hj
      | 4, hj => exact rfl
      | 5, hj => exact rfl
      | 6, hj => exact rfl
      | 7, hj => exact rfl
      | 8, hj => exact rfl
      | n + 9, _ => rfl
    · cases h
  | 4 => simp [BlockM.s] at h
  | 5 => simp [BlockM.s] at h
  | 6 =>
    simp only [BlockM.s] at h
    split at h
    · rename_i a ha
      injection h with h
      subst h
      refine ⟨⟨_, rfl⟩, ⟨_, rfl, set0_ok ha⟩, fun j' hj => ?_⟩
      match j', hj with
      | 0, hj => exact rfl
      | 1, hj => exact rfl
      | 2, hj => exact rfl
      | 3, hj => exact rfl
      | 4, hj => exact rfl
      | 5, hj => exact rfl
      | 6, hj => exact absurd rfl hj
      | 7, hj => exact rfl
      | 8, hj => exact rfl
      | n + 9, _ => rfl
    · cases h
  | 7 =>
    simp only [BlockM.s] at h
    split at h
    · rename_i a ha
      injection h with h
      subst h
      refine ⟨⟨_, rfl⟩, ⟨_, rfl, set0_ok ha⟩, fun j' hj => ?_⟩
      match j', hj with
      | 0, hj => exact rfl
      | 1, hj => exact rfl
      | 2, hj => exact rfl
      | 3, hj => exact rfl
      | 4, hj => exact rfl
      | 5, hj => exact rfl
      | 6, hj => exact rfl
      | 7, hj => exact absurd rfl hj
      | 8, hj => exact rfl
      | n + 9, _ => rfl
    · cases h
  | 8 =>
    simp only [BlockM.s] at h
    split at h
    · rename_i a ha
      injection h with h
      subst h
      refine ⟨⟨_, rfl⟩, ⟨_, rfl, set0_ok ha⟩, fun j' hj => ?_⟩
      match j', hj with
      | 0, hj => exact rfl
      | 1, hj => exact rfl
      | 2, hj => exact rfl
      | 3, hj => exact rfl
      | 4, hj => exact rfl
      | 5, hj => exact rfl
      | 6, hj => exact rfl
      | 7, hj => exact rfl
      | 8, hj => exact absurd rfl hj
      | n + 9, _ => rfl
    · cases h
  | n + 9 => simp [BlockM.s] at h
theorem BlockM.oS_ok (x : BlockM) (j : Nat) (t : TypeId) (e : Ty) (l : List e.D) (y : BlockM) (h : BlockM.oS x j t e l = some y) : BlockM.c y j = .own t e l ∧ ∀ j', j' ≠ j → BlockM.c y j' = BlockM.c x j' := by
  match j with
  | 0 =>
    simp only [BlockM.oS] at h
    cases hb : Nat.beq t 3 with
    | false => rw [hb] at h; cases h
    | true =>
      rw [hb] at h
      obtain rfl := Nat.eq_of_beq_eq_true hb
      simp only [cond_true] at h
      split at h
      · rename_i a ha
        injection h with h
        subst h
        obtain ⟨rfl, ha⟩ := castL_ok ha
        obtain rfl := eq_of_heq ha
        refine ⟨rfl, fun j' hj => ?_⟩
        match j', hj with
        | 0, hj => exact absurd rfl hj
        | 1, hj => exact rfl
        | 2, hj => exact rfl
        | 3, hj => exact rfl
        | 4, hj => exact rfl
        | 5, hj => exact rfl
        | 6, hj => exact rfl
        | 7, hj => exact rfl
        | 8, hj => exact rfl
        | n + 9, _ => rfl
      · cases h
  | 1 =>
    simp only [BlockM.oS] at h
    cases hb : Nat.beq t 46 with
    | false => rw [hb] at h; cases h
    | true =>
      rw [hb] at h
      obtain rfl := Nat.eq_of_beq_eq_true hb
      simp only [cond_true] at h
      split at h
      · rename_i a ha
        injection h with h
        subst h
        obtain ⟨rfl, ha⟩ := castL_ok ha
        obtain rfl := eq_of_heq ha
        refine ⟨rfl, fun j' hj => ?_⟩
        match j', hj with
        | 0, hj => exact rfl
        | 1, hj => exact absurd rfl hj
        | 2, hj => exact rfl
        | 3, hj => exact rfl
        | 4, hj => exact rfl
        | 5, hj => exact rfl
        | 6, hj => exact rfl
        | 7, hj => exact rfl
        | 8, hj => exact rfl
        | n + 9, _ => rfl
      · cases h
  | 2 => simp [BlockM.oS] at h
  | 3 => simp [BlockM.oS] at h
  | 4 =>
    simp only [BlockM.oS] at h
    cases hb : Nat.beq t 51 with
    | false => rw [hb] at h; cases h
    | true =>
      rw [hb] at h
      obtain rfl := Nat.eq_of_beq_eq_true hb
      simp only [cond_true] at h
      split at h
      · rename_i a ha
        injection h with h
        subst h
        obtain ⟨rfl, ha⟩ := castL_ok ha
        obtain rfl := eq_of_heq ha
        refine ⟨rfl, fun j' hj => ?_⟩
        match j', hj with
        | 0, hj => exact rfl
        | 1, hj => exact rfl
        | 2, hj => exact rfl
        | 3, hj => exact rfl
        | 4, hj => exact absurd rfl hj
        | 5, hj => exact rfl
        | 6, hj => exact rfl
        | 7, hj => exact rfl
        | 8, hj => exact rfl
        | n + 9, _ => rfl
      · cases h
  | 5 =>
    simp only [BlockM.oS] at h
    cases hb : Nat.beq t 3 with
    | false => rw [hb] at h; cases h
    | true =>
      rw [hb] at h
      obtain rfl := Nat.eq_of_beq_eq_true hb
      simp only [cond_true] at h
      split at h
      · rename_i a ha
        injection h with h
        subst h
        obtain ⟨rfl, ha⟩ := castL_ok ha
        obtain rfl := eq_of_heq ha
        refine ⟨rfl, fun j' hj => ?_⟩
        match j', hj with
        | 0, hj => exact rfl
        | 1, hj => exact rfl
        | 2, hj => exact rfl
        | 3, hj => exact rfl
        | 4, hj => exact rfl
        | 5, hj => exact absurd rfl hj
        | 6, hj => exact rfl
        | 7, hj => exact rfl
        | 8, hj => exact rfl
        | n + 9, _ => rfl
      · cases h
  | 6 => simp [BlockM.oS] at h
  | 7 => simp [BlockM.oS] at h
  | 8 => simp [BlockM.oS] at h
  | n + 9 => simp [BlockM.oS] at h
theorem BlockM.oG_ok (x : BlockM) (j : Nat) (t : TypeId) (e : Ty) (l : List e.D) (h1 : BlockM.oT j = some (t, e)) (h2 : BlockM.oG x j e = some l) : BlockM.c x j = .own t e l := by
  match j with
  | 0 =>
    injection h1 with h1
    injection h1 with h1 h3
    subst h1; subst h3
    simp only [BlockM.oG, castF_same, BlockM.c] at h2 ⊢
    cases hx : x.params with
    | own l' => rw [hx] at h2; injection h2 with h2; subst h2; rfl
    | fz l' => rw [hx] at h2; cases h2
  | 1 =>
    injection h1 with h1
    injection h1 with h1 h3
    subst h1; subst h3
    simp only [BlockM.oG, castF_same, BlockM.c] at h2 ⊢
    cases hx : x.insts with
    | own l' => rw [hx] at h2; injection h2 with h2; subst h2; rfl
    | fz l' => rw [hx] at h2; cases h2
  | 2 => simp [BlockM.oT] at h1
  | 3 => simp [BlockM.oT] at h1
  | 4 =>
    injection h1 with h1
    injection h1 with h1 h3
    subst h1; subst h3
    simp only [BlockM.oG, castF_same, BlockM.c] at h2 ⊢
    cases hx : x.term.to with
    | own l' => rw [hx] at h2; injection h2 with h2; subst h2; rfl
    | fz l' => rw [hx] at h2; cases h2
  | 5 =>
    injection h1 with h1
    injection h1 with h1 h3
    subst h1; subst h3
    simp only [BlockM.oG, castF_same, BlockM.c] at h2 ⊢
    cases hx : x.term.rets with
    | own l' => rw [hx] at h2; injection h2 with h2; subst h2; rfl
    | fz l' => rw [hx] at h2; cases h2
  | 6 => simp [BlockM.oT] at h1
  | 7 => simp [BlockM.oT] at h1
  | 8 => simp [BlockM.oT] at h1
  | n + 9 => simp [BlockM.oT] at h1
theorem BlockM.fG_ok (x : BlockM) (j : Nat) (e : Ty) (l : List e.D) (h1 : BlockM.fT j = some e) (h2 : BlockM.fG x j e = some l) : BlockM.c x j = .ev (.fz e l) := by
  match j with
  | 0 =>
    injection h1 with h1
    subst h1
    simp only [BlockM.fG, castF_same, BlockM.c] at h2 ⊢
    cases hx : x.params with
    | fz l' => rw [hx] at h2; injection h2 with h2; subst h2; rfl
    | own l' => rw [hx] at h2; cases h2
  | 1 =>
    injection h1 with h1
    subst h1
    simp only [BlockM.fG, castF_same, BlockM.c] at h2 ⊢
    cases hx : x.insts with
    | fz l' => rw [hx] at h2; injection h2 with h2; subst h2; rfl
    | own l' => rw [hx] at h2; cases h2
  | 2 => simp [BlockM.fT] at h1
  | 3 => simp [BlockM.fT] at h1
  | 4 =>
    injection h1 with h1
    subst h1
    simp only [BlockM.fG, castF_same, BlockM.c] at h2 ⊢
    cases hx : x.term.to with
    | fz l' => rw [hx] at h2; injection h2 with h2; subst h2; rfl
    | own l' => rw [hx] at h2; cases h2
  | 5 =>
    injection h1 with h1
    subst h1
    simp only [BlockM.fG, castF_same, BlockM.c] at h2 ⊢
    cases hx : x.term.rets with
    | fz l' => rw [hx] at h2; injection h2 with h2; subst h2; rfl
    | own l' => rw [hx] at h2; cases h2
  | 6 => simp [BlockM.fT] at h1
  | 7 => simp [BlockM.fT] at h1
  | 8 => simp [BlockM.fT] at h1
  | n + 9 => simp [BlockM.fT] at h1
theorem BlockM.same (x : BlockM) (j : Nat) (t : TypeId) (e : Ty) (l : List e.D) (y : BlockM) (t0 : TypeId) (e0 : Ty) (l0 : List e0.D) (h : BlockM.oS x j t e l = some y) (hc : BlockM.c x j = .own t0 e0 l0) : ∃ l1, BlockM.c x j = .own t e l1 := by
  match j with
  | 0 =>
    simp only [BlockM.oS] at h
    cases hb : Nat.beq t 3 with
    | false => rw [hb] at h; cases h
    | true =>
      rw [hb] at h
      obtain rfl := Nat.eq_of_beq_eq_true hb
      simp only [cond_true] at h
      split at h
      · rename_i a ha
        obtain ⟨rfl, _⟩ := castL_ok ha
        simp only [BlockM.c] at hc ⊢
        cases hx : x.params with
        | own l1 => exact ⟨l1, rfl⟩
        | fz l1 => rw [hx] at hc; cases hc
      · cases h
  | 1 =>
    simp only [BlockM.oS] at h
    cases hb : Nat.beq t 46 with
    | false => rw [hb] at h; cases h
    | true =>
      rw [hb] at h
      obtain rfl := Nat.eq_of_beq_eq_true hb
      simp only [cond_true] at h
      split at h
      · rename_i a ha
        obtain ⟨rfl, _⟩ := castL_ok ha
        simp only [BlockM.c] at hc ⊢
        cases hx : x.insts with
        | own l1 => exact ⟨l1, rfl⟩
        | fz l1 => rw [hx] at hc; cases hc
      · cases h
  | 2 => simp [BlockM.oS] at h
  | 3 => simp [BlockM.oS] at h
  | 4 =>
    simp only [BlockM.oS] at h
    cases hb : Nat.beq t 51 with
    | false => rw [hb] at h; cases h
    | true =>
      rw [hb] at h
      obtain rfl := Nat.eq_of_beq_eq_true hb
      simp only [cond_true] at h
      split at h
      · rename_i a ha
        obtain ⟨rfl, _⟩ := castL_ok ha
        simp only [BlockM.c] at hc ⊢
        cases hx : x.term.to with
        | own l1 => exact ⟨l1, rfl⟩
        | fz l1 => rw [hx] at hc; cases hc
      · cases h
  | 5 =>
    simp only [BlockM.oS] at h
    cases hb : Nat.beq t 3 with
    | false => rw [hb] at h; cases h
    | true =>
      rw [hb] at h
      obtain rfl := Nat.eq_of_beq_eq_true hb
      simp only [cond_true] at h
      split at h
      · rename_i a ha
        obtain ⟨rfl, _⟩ := castL_ok ha
        simp only [BlockM.c] at hc ⊢
        cases hx : x.term.rets with
        | own l1 => exact ⟨l1, rfl⟩
        | fz l1 => rw [hx] at hc; cases hc
      · cases h
  | 6 => simp [BlockM.oS] at h
  | 7 => simp [BlockM.oS] at h
  | 8 => simp [BlockM.oS] at h
  | n + 9 => simp [BlockM.oS] at h
theorem BlockM.z_own (j : Nat) (t : TypeId) (e : Ty) (l : List e.D) (h : BlockM.c BlockM.z j = .own t e l) : l = [] := by
  match j with
  | 0 => cases h
  | 1 => cases h
  | 2 => cases h
  | 3 => cases h
  | 4 => cases h
  | 5 => cases h
  | 6 => cases h
  | 7 => cases h
  | 8 => cases h
  | n + 9 => cases h
theorem BlockM.c_dat (x : BlockM) (j : Nat) (u : EV) (h : BlockM.c x j = .ev u) : u.dat = true := by
  match j with
  | 0 =>
    simp only [BlockM.c] at h
    cases hx : x.params <;> rw [hx] at h
    · cases h
    · injection h with h; subst h; rfl
  | 1 =>
    simp only [BlockM.c] at h
    cases hx : x.insts <;> rw [hx] at h
    · cases h
    · injection h with h; subst h; rfl
  | 2 => injection h with h; subst h; rfl
  | 3 => injection h with h; subst h; rfl
  | 4 =>
    simp only [BlockM.c] at h
    cases hx : x.term.to <;> rw [hx] at h
    · cases h
    · injection h with h; subst h; rfl
  | 5 =>
    simp only [BlockM.c] at h
    cases hx : x.term.rets <;> rw [hx] at h
    · cases h
    · injection h with h; subst h; rfl
  | 6 => injection h with h; subst h; rfl
  | 7 => injection h with h; subst h; rfl
  | 8 => injection h with h; subst h; rfl
  | n + 9 => injection h with h; subst h; rfl
def InstM.up (x : Inst) : InstM := ⟨x.op, x.dest, .fz x.args, x.num, x.mem⟩
theorem InstM.up_c (x : Inst) : ∀ c, InstM.c (InstM.up x) c = .ev (Inst.c x c)
  | 0 => rfl
  | 1 => rfl
  | 2 => rfl
  | 3 => rfl
  | 4 => rfl
  | n + 5 => rfl
def EdgeM.up (x : Edge) : EdgeM := ⟨x.block, .fz x.args⟩
theorem EdgeM.up_c (x : Edge) : ∀ c, EdgeM.c (EdgeM.up x) c = .ev (Edge.c x c)
  | 0 => rfl
  | 1 => rfl
  | n + 2 => rfl
def TermM.up (x : Term) : TermM := ⟨x.kind, x.cond, .fz x.to, .fz x.rets⟩
theorem TermM.up_c (x : Term) : ∀ c, TermM.c (TermM.up x) c = .ev (Term.c x c)
  | 0 => rfl
  | 1 => rfl
  | 2 => rfl
  | 3 => rfl
  | n + 4 => rfl
def BlockM.up (x : Block) : BlockM := ⟨.fz x.params, .fz x.insts, ⟨x.term.kind, x.term.cond, .fz x.term.to, .fz x.term.rets⟩, x.pipeline, x.unroll, x.line⟩
theorem BlockM.up_c (x : Block) : ∀ c, BlockM.c (BlockM.up x) c = .ev (Block.c x c)
  | 0 => rfl
  | 1 => rfl
  | 2 => rfl
  | 3 => rfl
  | 4 => rfl
  | 5 => rfl
  | 6 => rfl
  | 7 => rfl
  | 8 => rfl
  | n + 9 => rfl
def suCell : (i : Nat) → suD i → Nat → Cell
  | 0, x => fun j => .ev (Inst.c x j)
  | 1, x => fun j => .ev (Edge.c x j)
  | 2, x => fun j => .ev (Term.c x j)
  | 3, x => fun j => .ev (Block.c x j)
  | 4, x => fun j => .ev (Arr.c x j)
  | 5, x => fun j => .ev (Strm.c x j)
  | 6, x => fun j => .ev (Fn.c x j)
  | 7, x => fun j => .ev (Typ.c x j)
  | 8, x => InstM.c x
  | 9, x => EdgeM.c x
  | 10, x => TermM.c x
  | 11, x => BlockM.c x
  | _ + 12, _ => fun _ => .ev .un
def suSet : (i : Nat) → suD i → Nat → EV → Option (suD i)
  | 0, x => Inst.s x
  | 1, x => Edge.s x
  | 2, x => Term.s x
  | 3, x => Block.s x
  | 4, x => Arr.s x
  | 5, x => Strm.s x
  | 6, x => Fn.s x
  | 7, x => Typ.s x
  | 8, x => InstM.s x
  | 9, x => EdgeM.s x
  | 10, x => TermM.s x
  | 11, x => BlockM.s x
  | _ + 12, _ => fun _ _ => none
def suMake : (i : Nat) → List EV → Option (suD i)
  | 0 => Inst.m
  | 1 => Edge.m
  | 2 => Term.m
  | 3 => Block.m
  | 4 => Arr.m
  | 5 => Strm.m
  | 6 => Fn.m
  | 7 => Typ.m
  | _ + 8 => fun _ => none
def suK : (i : Nat) → suD i → Nat → (t : TypeId) → (e : Ty) → List e.D → Option (suD i)
  | 8, x => InstM.k x
  | 9, x => EdgeM.k x
  | 10, x => TermM.k x
  | 11, x => BlockM.k x
  | _, _ => fun _ _ _ _ => none
def suOS : (i : Nat) → suD i → Nat → (t : TypeId) → (e : Ty) → List e.D → Option (suD i)
  | 8, x => InstM.oS x
  | 9, x => EdgeM.oS x
  | 10, x => TermM.oS x
  | 11, x => BlockM.oS x
  | _, _ => fun _ _ _ _ => none
def suOT : Nat → Nat → Option (TypeId × Ty)
  | 8 => InstM.oT
  | 9 => EdgeM.oT
  | 10 => TermM.oT
  | 11 => BlockM.oT
  | _ => fun _ => none
def suOG : (i : Nat) → suD i → Nat → (e : Ty) → Option (List e.D)
  | 8, x => InstM.oG x
  | 9, x => EdgeM.oG x
  | 10, x => TermM.oG x
  | 11, x => BlockM.oG x
  | _, _ => fun _ _ => none
def suFT : Nat → Nat → Option Ty
  | 8 => InstM.fT
  | 9 => EdgeM.fT
  | 10 => TermM.fT
  | 11 => BlockM.fT
  | _ => fun _ => none
def suFG : (i : Nat) → suD i → Nat → (e : Ty) → Option (List e.D)
  | 8, x => InstM.fG x
  | 9, x => EdgeM.fG x
  | 10, x => TermM.fG x
  | 11, x => BlockM.fG x
  | _, _ => fun _ _ => none
def suUp : (i j : Nat) → Option (suD i → suD j)
  | 0, 8 => some InstM.up
  | 1, 9 => some EdgeM.up
  | 2, 10 => some TermM.up
  | 3, 11 => some BlockM.up
  | _, _ => none
def suFro : Nat → Bool := fun i => Nat.blt i 8
instance : Codes where
  fro := suFro
  cell := suCell
  set := suSet
  setK := suK
  make := suMake
  ownT := suOT
  ownG := suOG
  ownS := suOS
  frzT := suFT
  frzG := suFG
  upF := suUp
  cell_ok := fun i x j hf => match i, x, hf with
    | 0, x, _ => ⟨_, rfl, fun hj len => Inst.c_ok x len j hj⟩
    | 1, x, _ => ⟨_, rfl, fun hj len => Edge.c_ok x len j hj⟩
    | 2, x, _ => ⟨_, rfl, fun hj len => Term.c_ok x len j hj⟩
    | 3, x, _ => ⟨_, rfl, fun hj len => Block.c_ok x len j hj⟩
    | 4, x, _ => ⟨_, rfl, fun hj len => Arr.c_ok x len j hj⟩
    | 5, x, _ => ⟨_, rfl, fun hj len => Strm.c_ok x len j hj⟩
    | 6, x, _ => ⟨_, rfl, fun hj len => Fn.c_ok x len j hj⟩
    | 7, x, _ => ⟨_, rfl, fun hj len => Typ.c_ok x len j hj⟩
    | n + 8, _, hf => absurd (Nat.le_of_ble_eq_true hf) (by omega)
  set_ok := fun i x j v y h => match i, x, y, h with
    | 0, x, y, h => ⟨⟨_, rfl⟩, ⟨_, rfl, (Inst.s_ok x j v y h).1⟩, fun j' hj => congrArg Cell.ev ((Inst.s_ok x j v y h).2 j' hj)⟩
    | 1, x, y, h => ⟨⟨_, rfl⟩, ⟨_, rfl, (Edge.s_ok x j v y h).1⟩, fun j' hj => congrArg Cell.ev ((Edge.s_ok x j v y h).2 j' hj)⟩
    | 2, x, y, h => ⟨⟨_, rfl⟩, ⟨_, rfl, (Term.s_ok x j v y h).1⟩, fun j' hj => congrArg Cell.ev ((Term.s_ok x j v y h).2 j' hj)⟩
    | 3, x, y, h => ⟨⟨_, rfl⟩, ⟨_, rfl, (Block.s_ok x j v y h).1⟩, fun j' hj => congrArg Cell.ev ((Block.s_ok x j v y h).2 j' hj)⟩
    | 4, x, y, h => ⟨⟨_, rfl⟩, ⟨_, rfl, (Arr.s_ok x j v y h).1⟩, fun j' hj => congrArg Cell.ev ((Arr.s_ok x j v y h).2 j' hj)⟩
    | 5, x, y, h => ⟨⟨_, rfl⟩, ⟨_, rfl, (Strm.s_ok x j v y h).1⟩, fun j' hj => congrArg Cell.ev ((Strm.s_ok x j v y h).2 j' hj)⟩
    | 6, x, y, h => ⟨⟨_, rfl⟩, ⟨_, rfl, (Fn.s_ok x j v y h).1⟩, fun j' hj => congrArg Cell.ev ((Fn.s_ok x j v y h).2 j' hj)⟩
    | 7, x, y, h => ⟨⟨_, rfl⟩, ⟨_, rfl, (Typ.s_ok x j v y h).1⟩, fun j' hj => congrArg Cell.ev ((Typ.s_ok x j v y h).2 j' hj)⟩
    | 8, x, y, h => InstM.s_ok x j v y h
    | 9, x, y, h => EdgeM.s_ok x j v y h
    | 10, x, y, h => TermM.s_ok x j v y h
    | 11, x, y, h => BlockM.s_ok x j v y h
    | n + 12, _, _, h => by cases h
  setK_ok := fun i x j t e l y h => match i, x, y, h with
    | 0, _, _, h => by cases h
    | 1, _, _, h => by cases h
    | 2, _, _, h => by cases h
    | 3, _, _, h => by cases h
    | 4, _, _, h => by cases h
    | 5, _, _, h => by cases h
    | 6, _, _, h => by cases h
    | 7, _, _, h => by cases h
    | 8, x, y, h => by
      have h : InstM.k x j t e l = some y := h
      unfold InstM.k at h
      split at h
      · rename_i t0 e0 l0 hc
        obtain ⟨k1, k2⟩ := InstM.oS_ok x j t e l y h
        refine ⟨?_, k1, k2⟩
        exact InstM.same x j t e l y t0 e0 l0 h hc
      · cases h
    | 9, x, y, h => by
      have h : EdgeM.k x j t e l = some y := h
      unfold EdgeM.k at h
      split at h
      · rename_i t0 e0 l0 hc
        obtain ⟨k1, k2⟩ := EdgeM.oS_ok x j t e l y h
        refine ⟨?_, k1, k2⟩
        exact EdgeM.same x j t e l y t0 e0 l0 h hc
      · cases h
    | 10, x, y, h => by
      have h : TermM.k x j t e l = some y := h
      unfold TermM.k at h
      split at h
      · rename_i t0 e0 l0 hc
        obtain ⟨k1, k2⟩ := TermM.oS_ok x j t e l y h
        refine ⟨?_, k1, k2⟩
        exact TermM.same x j t e l y t0 e0 l0 h hc
      · cases h
    | 11, x, y, h => by
      have h : BlockM.k x j t e l = some y := h
      unfold BlockM.k at h
      split at h
      · rename_i t0 e0 l0 hc
        obtain ⟨k1, k2⟩ := BlockM.oS_ok x j t e l y h
        refine ⟨?_, k1, k2⟩
        exact BlockM.same x j t e l y t0 e0 l0 h hc
      · cases h
    | n + 12, _, _, h => by cases h
  cell_dat := fun i x j u h => match i, x, h with
    | 0, x, h => by injection h with h; subst h; exact Inst.c_dat x j
    | 1, x, h => by injection h with h; subst h; exact Edge.c_dat x j
    | 2, x, h => by injection h with h; subst h; exact Term.c_dat x j
    | 3, x, h => by injection h with h; subst h; exact Block.c_dat x j
    | 4, x, h => by injection h with h; subst h; exact Arr.c_dat x j
    | 5, x, h => by injection h with h; subst h; exact Strm.c_dat x j
    | 6, x, h => by injection h with h; subst h; exact Fn.c_dat x j
    | 7, x, h => by injection h with h; subst h; exact Typ.c_dat x j
    | 8, x, h => InstM.c_dat x j u h
    | 9, x, h => EdgeM.c_dat x j u h
    | 10, x, h => TermM.c_dat x j u h
    | 11, x, h => BlockM.c_dat x j u h
    | n + 12, _, h => by injection h with h; subst h; rfl
  z_own := fun i j t e l h => match i, h with
    | 0, h => by cases h
    | 1, h => by cases h
    | 2, h => by cases h
    | 3, h => by cases h
    | 4, h => by cases h
    | 5, h => by cases h
    | 6, h => by cases h
    | 7, h => by cases h
    | 8, h => InstM.z_own j t e l h
    | 9, h => EdgeM.z_own j t e l h
    | 10, h => TermM.z_own j t e l h
    | 11, h => BlockM.z_own j t e l h
    | n + 12, h => by cases h
  make_ok := fun i l y h => match i, y, h with
    | 0, y, h => ⟨(Inst.m_ok l y h).1, fun j hj => ⟨_, rfl, (Inst.m_ok l y h).2 j hj⟩⟩
    | 1, y, h => ⟨(Edge.m_ok l y h).1, fun j hj => ⟨_, rfl, (Edge.m_ok l y h).2 j hj⟩⟩
    | 2, y, h => ⟨(Term.m_ok l y h).1, fun j hj => ⟨_, rfl, (Term.m_ok l y h).2 j hj⟩⟩
    | 3, y, h => ⟨(Block.m_ok l y h).1, fun j hj => ⟨_, rfl, (Block.m_ok l y h).2 j hj⟩⟩
    | 4, y, h => ⟨(Arr.m_ok l y h).1, fun j hj => ⟨_, rfl, (Arr.m_ok l y h).2 j hj⟩⟩
    | 5, y, h => ⟨(Strm.m_ok l y h).1, fun j hj => ⟨_, rfl, (Strm.m_ok l y h).2 j hj⟩⟩
    | 6, y, h => ⟨(Fn.m_ok l y h).1, fun j hj => ⟨_, rfl, (Fn.m_ok l y h).2 j hj⟩⟩
    | 7, y, h => ⟨(Typ.m_ok l y h).1, fun j hj => ⟨_, rfl, (Typ.m_ok l y h).2 j hj⟩⟩
    | n + 8, _, h => by cases h
  ownG_ok := fun i x j t e l h1 h2 => match i, x, h1, h2 with
    | 0, _, h, _ => by cases h
    | 1, _, h, _ => by cases h
    | 2, _, h, _ => by cases h
    | 3, _, h, _ => by cases h
    | 4, _, h, _ => by cases h
    | 5, _, h, _ => by cases h
    | 6, _, h, _ => by cases h
    | 7, _, h, _ => by cases h
    | 8, x, h1, h2 => InstM.oG_ok x j t e l h1 h2
    | 9, x, h1, h2 => EdgeM.oG_ok x j t e l h1 h2
    | 10, x, h1, h2 => TermM.oG_ok x j t e l h1 h2
    | 11, x, h1, h2 => BlockM.oG_ok x j t e l h1 h2
    | n + 12, _, h, _ => by cases h
  ownS_ok := fun i x j t e l y h => match i, x, y, h with
    | 0, _, _, h => by cases h
    | 1, _, _, h => by cases h
    | 2, _, _, h => by cases h
    | 3, _, _, h => by cases h
    | 4, _, _, h => by cases h
    | 5, _, _, h => by cases h
    | 6, _, _, h => by cases h
    | 7, _, _, h => by cases h
    | 8, x, y, h => InstM.oS_ok x j t e l y h
    | 9, x, y, h => EdgeM.oS_ok x j t e l y h
    | 10, x, y, h => TermM.oS_ok x j t e l y h
    | 11, x, y, h => BlockM.oS_ok x j t e l y h
    | n + 12, _, _, h => by cases h
  ownS_K := fun i x j t e l0 t' e' l y h1 h2 h3 => match i, x, y, h1, h2, h3 with
    | 0, _, _, h, _, _ => by cases h
    | 1, _, _, h, _, _ => by cases h
    | 2, _, _, h, _, _ => by cases h
    | 3, _, _, h, _, _ => by cases h
    | 4, _, _, h, _, _ => by cases h
    | 5, _, _, h, _, _ => by cases h
    | 6, _, _, h, _, _ => by cases h
    | 7, _, _, h, _, _ => by cases h
    | 8, x, y, h1, h2, h3 => by
      show InstM.k x j t' e' l = some y
      unfold InstM.k
      rw [InstM.oG_ok x j t e l0 h1 h2]
      exact h3
    | 9, x, y, h1, h2, h3 => by
      show EdgeM.k x j t' e' l = some y
      unfold EdgeM.k
      rw [EdgeM.oG_ok x j t e l0 h1 h2]
      exact h3
    | 10, x, y, h1, h2, h3 => by
      show TermM.k x j t' e' l = some y
      unfold TermM.k
      rw [TermM.oG_ok x j t e l0 h1 h2]
      exact h3
    | 11, x, y, h1, h2, h3 => by
      show BlockM.k x j t' e' l = some y
      unfold BlockM.k
      rw [BlockM.oG_ok x j t e l0 h1 h2]
      exact h3
    | n + 12, _, _, h, _, _ => by cases h
  up_ok := fun i j f h => by
    unfold suUp at h
    split at h
    · injection h with h; subst h; exact ⟨rfl, rfl, InstM.up_c⟩
    · injection h with h; subst h; exact ⟨rfl, rfl, EdgeM.up_c⟩
    · injection h with h; subst h; exact ⟨rfl, rfl, TermM.up_c⟩
    · injection h with h; subst h; exact ⟨rfl, rfl, BlockM.up_c⟩
    · cases h
  frzG_ok := fun i x j e l h1 h2 => match i, x, h1, h2 with
    | 0, _, h, _ => by cases h
    | 1, _, h, _ => by cases h
    | 2, _, h, _ => by cases h
    | 3, _, h, _ => by cases h
    | 4, _, h, _ => by cases h
    | 5, _, h, _ => by cases h
    | 6, _, h, _ => by cases h
    | 7, _, h, _ => by cases h
    | 8, x, h1, h2 => InstM.fG_ok x j e l h1 h2
    | 9, x, h1, h2 => EdgeM.fG_ok x j e l h1 h2
    | 10, x, h1, h2 => TermM.fG_ok x j e l h1 h2
    | 11, x, h1, h2 => BlockM.fG_ok x j e l h1 h2
    | n + 12, _, h, _ => by cases h
end Go.Abs


set_option linter.unusedVariables false
set_option linter.unusedSimpArgs false
namespace Go.Abs
open Go
def Ow.dat {α β : Type} (g : α → β) : Ow α β → List β
  | .own l => l.map g
  | .fz l => l
def InstM.dat (x : InstM) : Inst := ⟨x.op, x.dest, x.args.dat (fun a => a), x.num, x.mem⟩
def EdgeM.dat (x : EdgeM) : Edge := ⟨x.block, x.args.dat (fun a => a)⟩
def TermM.dat (x : TermM) : Term := ⟨x.kind, x.cond, x.to.dat EdgeM.dat, x.rets.dat (fun a => a)⟩
def BlockM.dat (x : BlockM) : Block := ⟨x.params.dat (fun a => a), x.insts.dat InstM.dat, x.term.dat, x.pipeline, x.unroll, x.line⟩
theorem dat_int : DatOk (.int .i64) (.int .i64) (fun a => a) := DatOk.fro rfl
theorem InstM.dat_ok : DatOk (.st 8) (.st 0) InstM.dat := DatOk.of rfl fun x c hc => by
  have hc : c < 5 := hc
  obtain ⟨op, dest, args, num, mem⟩ := x
  match c, hc with
  | 0, _ => exact .inl ⟨_, rfl, fun len => Inst.c_ok (InstM.dat ⟨op, dest, args, num, mem⟩) len 0 (by decide)⟩
  | 1, _ => exact .inl ⟨_, rfl, fun len => Inst.c_ok (InstM.dat ⟨op, dest, args, num, mem⟩) len 1 (by decide)⟩
  | 2, _ => cases args with
    | own l => exact .inr ⟨3, .int .i64, l, .int .i64, fun a => a, rfl, dat_int, rfl⟩
    | fz l => exact .inl ⟨_, rfl, fun len => Inst.c_ok (InstM.dat ⟨op, dest, .fz l, num, mem⟩) len 2 (by decide)⟩
  | 3, _ => exact .inl ⟨_, rfl, fun len => Inst.c_ok (InstM.dat ⟨op, dest, args, num, mem⟩) len 3 (by decide)⟩
  | 4, _ => exact .inl ⟨_, rfl, fun len => Inst.c_ok (InstM.dat ⟨op, dest, args, num, mem⟩) len 4 (by decide)⟩
theorem EdgeM.dat_ok : DatOk (.st 9) (.st 1) EdgeM.dat := DatOk.of rfl fun x c hc => by
  have hc : c < 2 := hc
  obtain ⟨bl, args⟩ := x
  match c, hc with
  | 0, _ => exact .inl ⟨_, rfl, fun len => Edge.c_ok (EdgeM.dat ⟨bl, args⟩) len 0 (by decide)⟩
  | 1, _ => cases args with
    | own l => exact .inr ⟨3, .int .i64, l, .int .i64, fun a => a, rfl, dat_int, rfl⟩
    | fz l => exact .inl ⟨_, rfl, fun len => Edge.c_ok (EdgeM.dat ⟨bl, .fz l⟩) len 1 (by decide)⟩
theorem BlockM.dat_ok : DatOk (.st 11) (.st 3) BlockM.dat := DatOk.of rfl fun x c hc => by
  have hc : c < 9 := hc
  obtain ⟨ps, is, ⟨kind, cond, to, rets⟩, pi, un, li⟩ := x
  match c, hc with
  | 0, _ => cases ps with
    | own l => exact .inr ⟨3, .int .i64, l, .int .i64, fun a => a, rfl, dat_int, rfl⟩
    | fz l => exact .inl ⟨_, rfl, fun len => Block.c_ok (BlockM.dat ⟨.fz l, is, ⟨kind, cond, to, rets⟩, pi, un, li⟩) len 0 (by decide)⟩
  | 1, _ => cases is with
    | own l => exact .inr ⟨46, .st 8, l, .st 0, InstM.dat, rfl, InstM.dat_ok, rfl⟩
    | fz l => exact .inl ⟨_, rfl, fun len => Block.c_ok (BlockM.dat ⟨ps, .fz l, ⟨kind, cond, to, rets⟩, pi, un, li⟩) len 1 (by decide)⟩
  | 2, _ => exact .inl ⟨_, rfl, fun len => Block.c_ok (BlockM.dat ⟨ps, is, ⟨kind, cond, to, rets⟩, pi, un, li⟩) len 2 (by decide)⟩
  | 3, _ => exact .inl ⟨_, rfl, fun len => Block.c_ok (BlockM.dat ⟨ps, is, ⟨kind, cond, to, rets⟩, pi, un, li⟩) len 3 (by decide)⟩
  | 4, _ => cases to with
    | own l => exact .inr ⟨51, .st 9, l, .st 1, EdgeM.dat, rfl, EdgeM.dat_ok, rfl⟩
    | fz l => exact .inl ⟨_, rfl, fun len => Block.c_ok (BlockM.dat ⟨ps, is, ⟨kind, cond, .fz l, rets⟩, pi, un, li⟩) len 4 (by decide)⟩
  | 5, _ => cases rets with
    | own l => exact .inr ⟨3, .int .i64, l, .int .i64, fun a => a, rfl, dat_int, rfl⟩
    | fz l => exact .inl ⟨_, rfl, fun len => Block.c_ok (BlockM.dat ⟨ps, is, ⟨kind, cond, to, .fz l⟩, pi, un, li⟩) len 5 (by decide)⟩
  | 6, _ => exact .inl ⟨_, rfl, fun len => Block.c_ok (BlockM.dat ⟨ps, is, ⟨kind, cond, to, rets⟩, pi, un, li⟩) len 6 (by decide)⟩
  | 7, _ => exact .inl ⟨_, rfl, fun len => Block.c_ok (BlockM.dat ⟨ps, is, ⟨kind, cond, to, rets⟩, pi, un, li⟩) len 7 (by decide)⟩
  | 8, _ => exact .inl ⟨_, rfl, fun len => Block.c_ok (BlockM.dat ⟨ps, is, ⟨kind, cond, to, rets⟩, pi, un, li⟩) len 8 (by decide)⟩
def sdDat : (i : Nat) → Option (DatT i)
  | 8 => some ⟨0, InstM.dat⟩
  | 9 => some ⟨1, EdgeM.dat⟩
  | 11 => some ⟨3, BlockM.dat⟩
  | _ => none
instance : Dats where
  d := sdDat
  ok := fun i x h => by
    unfold sdDat at h
    split at h
    · injection h with h; subst h; exact InstM.dat_ok
    · injection h with h; subst h; exact EdgeM.dat_ok
    · injection h with h; subst h; exact BlockM.dat_ok
    · cases h
def sdFF : Nat → Bool
  | 4 => true
  | 5 => true
  | 7 => true
  | _ => false
instance : FFs where
  st := sdFF
  ok := fun i h => by
    unfold sdFF at h
    split at h
    · exact ⟨rfl, fun x c hc => by
        have hc : c < 5 := hc
        match c, hc with
        | 0, _ => trivial
        | 1, _ => trivial
        | 2, _ => trivial
        | 3, _ => trivial
        | 4, _ => trivial⟩
    · exact ⟨rfl, fun x c hc => by
        have hc : c < 3 := hc
        match c, hc with
        | 0, _ => trivial
        | 1, _ => trivial
        | 2, _ => trivial⟩
    · exact ⟨rfl, fun x c hc => by
        have hc : c < 2 := hc
        match c, hc with
        | 0, _ => trivial
        | 1, _ => trivial⟩
    · cases h
end Go.Abs


set_option linter.unusedVariables false
namespace Go.Abs
open Go Go.Proofs
def ZeroOk (t : TypeId) (τ : Ty) : Prop := froT τ = true ∧ ∀ z, (Tys.c Try.prog t).zero = some z → τ.sz = z.cells.size ∧ ∀ j, j < τ.sz → ∃ u, cellC τ τ.z j = .ev u ∧ ∀ len, Wk (V.cell (z.cells.getD j undef)) (toV len u)
theorem tyz2 : ZeroOk 2 (.int .i64) := ⟨rfl, fun z h => by
  injection h with h; subst h
  refine ⟨rfl, fun j hj => ?_⟩
  match j, hj with
  | 0, _ => exact ⟨_, rfl, fun len => by first | exact Wk.refl _ | exact Wk.nils _ _⟩
  | n + 1, h => exact absurd h (by show ¬ n + 1 < 1; omega)⟩
theorem tyz3 : ZeroOk 3 (.int .i64) := ⟨rfl, fun z h => by
  injection h with h; subst h
  refine ⟨rfl, fun j hj => ?_⟩
  match j, hj with
  | 0, _ => exact ⟨_, rfl, fun len => by first | exact Wk.refl _ | exact Wk.nils _ _⟩
  | n + 1, h => exact absurd h (by show ¬ n + 1 < 1; omega)⟩
theorem tyz4 : ZeroOk 4 .bool := ⟨rfl, fun z h => by
  injection h with h; subst h
  refine ⟨rfl, fun j hj => ?_⟩
  match j, hj with
  | 0, _ => exact ⟨_, rfl, fun len => by first | exact Wk.refl _ | exact Wk.nils _ _⟩
  | n + 1, h => exact absurd h (by show ¬ n + 1 < 1; omega)⟩
theorem tyz5 : ZeroOk 5 (.int .u8) := ⟨rfl, fun z h => by
  injection h with h; subst h
  refine ⟨rfl, fun j hj => ?_⟩
  match j, hj with
  | 0, _ => exact ⟨_, rfl, fun len => by first | exact Wk.refl _ | exact Wk.nils _ _⟩
  | n + 1, h => exact absurd h (by show ¬ n + 1 < 1; omega)⟩
theorem tyz6 : ZeroOk 6 (.int .u8) := ⟨rfl, fun z h => by
  injection h with h; subst h
  refine ⟨rfl, fun j hj => ?_⟩
  match j, hj with
  | 0, _ => exact ⟨_, rfl, fun len => by first | exact Wk.refl _ | exact Wk.nils _ _⟩
  | n + 1, h => exact absurd h (by show ¬ n + 1 < 1; omega)⟩
theorem tyz9 : ZeroOk 9 .str := ⟨rfl, fun z h => by
  injection h with h; subst h
  refine ⟨rfl, fun j hj => ?_⟩
  match j, hj with
  | 0, _ => exact ⟨_, rfl, fun len => by first | exact Wk.refl _ | exact Wk.nils _ _⟩
  | n + 1, h => exact absurd h (by show ¬ n + 1 < 1; omega)⟩
theorem tyz10 : ZeroOk 10 .str := ⟨rfl, fun z h => by
  injection h with h; subst h
  refine ⟨rfl, fun j hj => ?_⟩
  match j, hj with
  | 0, _ => exact ⟨_, rfl, fun len => by first | exact Wk.refl _ | exact Wk.nils _ _⟩
  | n + 1, h => exact absurd h (by show ¬ n + 1 < 1; omega)⟩
theorem tyz11 : ZeroOk 11 .str := ⟨rfl, fun z h => by
  injection h with h; subst h
  refine ⟨rfl, fun j hj => ?_⟩
  match j, hj with
  | 0, _ => exact ⟨_, rfl, fun len => by first | exact Wk.refl _ | exact Wk.nils _ _⟩
  | n + 1, h => exact absurd h (by show ¬ n + 1 < 1; omega)⟩
theorem tyz12 : ZeroOk 12 (.int .u64) := ⟨rfl, fun z h => by
  injection h with h; subst h
  refine ⟨rfl, fun j hj => ?_⟩
  match j, hj with
  | 0, _ => exact ⟨_, rfl, fun len => by first | exact Wk.refl _ | exact Wk.nils _ _⟩
  | n + 1, h => exact absurd h (by show ¬ n + 1 < 1; omega)⟩
theorem tyz21 : ZeroOk 21 (.int .i32) := ⟨rfl, fun z h => by
  injection h with h; subst h
  refine ⟨rfl, fun j hj => ?_⟩
  match j, hj with
  | 0, _ => exact ⟨_, rfl, fun len => by first | exact Wk.refl _ | exact Wk.nils _ _⟩
  | n + 1, h => exact absurd h (by show ¬ n + 1 < 1; omega)⟩
theorem tyz25 : ZeroOk 25 (.sl (.int .i64)) := ⟨rfl, fun z h => by
  injection h with h; subst h
  refine ⟨rfl, fun j hj => ?_⟩
  match j, hj with
  | 0, _ => exact ⟨_, rfl, fun len => by first | exact Wk.refl _ | exact Wk.nils _ _⟩
  | n + 1, h => exact absurd h (by show ¬ n + 1 < 1; omega)⟩
theorem tyz26 : ZeroOk 26 (.sl (.st 4)) := ⟨rfl, fun z h => by
  injection h with h; subst h
  refine ⟨rfl, fun j hj => ?_⟩
  match j, hj with
  | 0, _ => exact ⟨_, rfl, fun len => by first | exact Wk.refl _ | exact Wk.nils _ _⟩
  | n + 1, h => exact absurd h (by show ¬ n + 1 < 1; omega)⟩
theorem tyz27 : ZeroOk 27 (.sl (.st 5)) := ⟨rfl, fun z h => by
  injection h with h; subst h
  refine ⟨rfl, fun j hj => ?_⟩
  match j, hj with
  | 0, _ => exact ⟨_, rfl, fun len => by first | exact Wk.refl _ | exact Wk.nils _ _⟩
  | n + 1, h => exact absurd h (by show ¬ n + 1 < 1; omega)⟩
theorem tyz28 : ZeroOk 28 (.sl (.st 3)) := ⟨rfl, fun z h => by
  injection h with h; subst h
  refine ⟨rfl, fun j hj => ?_⟩
  match j, hj with
  | 0, _ => exact ⟨_, rfl, fun len => by first | exact Wk.refl _ | exact Wk.nils _ _⟩
  | n + 1, h => exact absurd h (by show ¬ n + 1 < 1; omega)⟩
theorem tyz30 : ZeroOk 30 (.st 6) := ⟨rfl, fun z h => by
  injection h with h; subst h
  refine ⟨rfl, fun j hj => ?_⟩
  match j, hj with
  | 0, _ => exact ⟨_, rfl, fun len => by first | exact Wk.refl _ | exact Wk.nils _ _⟩
  | 1, _ => exact ⟨_, rfl, fun len => by first | exact Wk.refl _ | exact Wk.nils _ _⟩
  | 2, _ => exact ⟨_, rfl, fun len => by first | exact Wk.refl _ | exact Wk.nils _ _⟩
  | 3, _ => exact ⟨_, rfl, fun len => by first | exact Wk.refl _ | exact Wk.nils _ _⟩
  | 4, _ => exact ⟨_, rfl, fun len => by first | exact Wk.refl _ | exact Wk.nils _ _⟩
  | 5, _ => exact ⟨_, rfl, fun len => by first | exact Wk.refl _ | exact Wk.nils _ _⟩
  | n + 6, h => exact absurd h (by show ¬ n + 6 < 6; omega)⟩
theorem tyz36 : ZeroOk 36 (.sl (.st 0)) := ⟨rfl, fun z h => by
  injection h with h; subst h
  refine ⟨rfl, fun j hj => ?_⟩
  match j, hj with
  | 0, _ => exact ⟨_, rfl, fun len => by first | exact Wk.refl _ | exact Wk.nils _ _⟩
  | n + 1, h => exact absurd h (by show ¬ n + 1 < 1; omega)⟩
theorem tyz37 : ZeroOk 37 (.sl (.st 1)) := ⟨rfl, fun z h => by
  injection h with h; subst h
  refine ⟨rfl, fun j hj => ?_⟩
  match j, hj with
  | 0, _ => exact ⟨_, rfl, fun len => by first | exact Wk.refl _ | exact Wk.nils _ _⟩
  | n + 1, h => exact absurd h (by show ¬ n + 1 < 1; omega)⟩
theorem tyz39 : ZeroOk 39 (.st 2) := ⟨rfl, fun z h => by
  injection h with h; subst h
  refine ⟨rfl, fun j hj => ?_⟩
  match j, hj with
  | 0, _ => exact ⟨_, rfl, fun len => by first | exact Wk.refl _ | exact Wk.nils _ _⟩
  | 1, _ => exact ⟨_, rfl, fun len => by first | exact Wk.refl _ | exact Wk.nils _ _⟩
  | 2, _ => exact ⟨_, rfl, fun len => by first | exact Wk.refl _ | exact Wk.nils _ _⟩
  | 3, _ => exact ⟨_, rfl, fun len => by first | exact Wk.refl _ | exact Wk.nils _ _⟩
  | n + 4, h => exact absurd h (by show ¬ n + 4 < 4; omega)⟩
theorem tyz41 : ZeroOk 41 (.st 3) := ⟨rfl, fun z h => by
  injection h with h; subst h
  refine ⟨rfl, fun j hj => ?_⟩
  match j, hj with
  | 0, _ => exact ⟨_, rfl, fun len => by first | exact Wk.refl _ | exact Wk.nils _ _⟩
  | 1, _ => exact ⟨_, rfl, fun len => by first | exact Wk.refl _ | exact Wk.nils _ _⟩
  | 2, _ => exact ⟨_, rfl, fun len => by first | exact Wk.refl _ | exact Wk.nils _ _⟩
  | 3, _ => exact ⟨_, rfl, fun len => by first | exact Wk.refl _ | exact Wk.nils _ _⟩
  | 4, _ => exact ⟨_, rfl, fun len => by first | exact Wk.refl _ | exact Wk.nils _ _⟩
  | 5, _ => exact ⟨_, rfl, fun len => by first | exact Wk.refl _ | exact Wk.nils _ _⟩
  | 6, _ => exact ⟨_, rfl, fun len => by first | exact Wk.refl _ | exact Wk.nils _ _⟩
  | 7, _ => exact ⟨_, rfl, fun len => by first | exact Wk.refl _ | exact Wk.nils _ _⟩
  | 8, _ => exact ⟨_, rfl, fun len => by first | exact Wk.refl _ | exact Wk.nils _ _⟩
  | n + 9, h => exact absurd h (by show ¬ n + 9 < 9; omega)⟩
theorem tyz44 : ZeroOk 44 (.int .u64) := ⟨rfl, fun z h => by
  injection h with h; subst h
  refine ⟨rfl, fun j hj => ?_⟩
  match j, hj with
  | 0, _ => exact ⟨_, rfl, fun len => by first | exact Wk.refl _ | exact Wk.nils _ _⟩
  | n + 1, h => exact absurd h (by show ¬ n + 1 < 1; omega)⟩
theorem tyz46 : ZeroOk 46 (.st 0) := ⟨rfl, fun z h => by
  injection h with h; subst h
  refine ⟨rfl, fun j hj => ?_⟩
  match j, hj with
  | 0, _ => exact ⟨_, rfl, fun len => by first | exact Wk.refl _ | exact Wk.nils _ _⟩
  | 1, _ => exact ⟨_, rfl, fun len => by first | exact Wk.refl _ | exact Wk.nils _ _⟩
  | 2, _ => exact ⟨_, rfl, fun len => by first | exact Wk.refl _ | exact Wk.nils _ _⟩
  | 3, _ => exact ⟨_, rfl, fun len => by first | exact Wk.refl _ | exact Wk.nils _ _⟩
  | 4, _ => exact ⟨_, rfl, fun len => by first | exact Wk.refl _ | exact Wk.nils _ _⟩
  | n + 5, h => exact absurd h (by show ¬ n + 5 < 5; omega)⟩
theorem tyz51 : ZeroOk 51 (.st 1) := ⟨rfl, fun z h => by
  injection h with h; subst h
  refine ⟨rfl, fun j hj => ?_⟩
  match j, hj with
  | 0, _ => exact ⟨_, rfl, fun len => by first | exact Wk.refl _ | exact Wk.nils _ _⟩
  | 1, _ => exact ⟨_, rfl, fun len => by first | exact Wk.refl _ | exact Wk.nils _ _⟩
  | n + 2, h => exact absurd h (by show ¬ n + 2 < 2; omega)⟩
theorem tyz53 : ZeroOk 53 (.st 4) := ⟨rfl, fun z h => by
  injection h with h; subst h
  refine ⟨rfl, fun j hj => ?_⟩
  match j, hj with
  | 0, _ => exact ⟨_, rfl, fun len => by first | exact Wk.refl _ | exact Wk.nils _ _⟩
  | 1, _ => exact ⟨_, rfl, fun len => by first | exact Wk.refl _ | exact Wk.nils _ _⟩
  | 2, _ => exact ⟨_, rfl, fun len => by first | exact Wk.refl _ | exact Wk.nils _ _⟩
  | 3, _ => exact ⟨_, rfl, fun len => by first | exact Wk.refl _ | exact Wk.nils _ _⟩
  | 4, _ => exact ⟨_, rfl, fun len => by first | exact Wk.refl _ | exact Wk.nils _ _⟩
  | n + 5, h => exact absurd h (by show ¬ n + 5 < 5; omega)⟩
theorem tyz55 : ZeroOk 55 (.st 5) := ⟨rfl, fun z h => by
  injection h with h; subst h
  refine ⟨rfl, fun j hj => ?_⟩
  match j, hj with
  | 0, _ => exact ⟨_, rfl, fun len => by first | exact Wk.refl _ | exact Wk.nils _ _⟩
  | 1, _ => exact ⟨_, rfl, fun len => by first | exact Wk.refl _ | exact Wk.nils _ _⟩
  | 2, _ => exact ⟨_, rfl, fun len => by first | exact Wk.refl _ | exact Wk.nils _ _⟩
  | n + 3, h => exact absurd h (by show ¬ n + 3 < 3; omega)⟩
theorem tyz57 : ZeroOk 57 (.st 7) := ⟨rfl, fun z h => by
  injection h with h; subst h
  refine ⟨rfl, fun j hj => ?_⟩
  match j, hj with
  | 0, _ => exact ⟨_, rfl, fun len => by first | exact Wk.refl _ | exact Wk.nils _ _⟩
  | 1, _ => exact ⟨_, rfl, fun len => by first | exact Wk.refl _ | exact Wk.nils _ _⟩
  | n + 2, h => exact absurd h (by show ¬ n + 2 < 2; omega)⟩
theorem tyz67 : ZeroOk 67 (.sl (.sl (.int .i64))) := ⟨rfl, fun z h => by
  injection h with h; subst h
  refine ⟨rfl, fun j hj => ?_⟩
  match j, hj with
  | 0, _ => exact ⟨_, rfl, fun len => by first | exact Wk.refl _ | exact Wk.nils _ _⟩
  | n + 1, h => exact absurd h (by show ¬ n + 1 < 1; omega)⟩
theorem tyz69 : ZeroOk 69 (.sl .bool) := ⟨rfl, fun z h => by
  injection h with h; subst h
  refine ⟨rfl, fun j hj => ?_⟩
  match j, hj with
  | 0, _ => exact ⟨_, rfl, fun len => by first | exact Wk.refl _ | exact Wk.nils _ _⟩
  | n + 1, h => exact absurd h (by show ¬ n + 1 < 1; omega)⟩
theorem tyz96 : ZeroOk 96 (.int .i64) := ⟨rfl, fun z h => by
  injection h with h; subst h
  refine ⟨rfl, fun j hj => ?_⟩
  match j, hj with
  | 0, _ => exact ⟨_, rfl, fun len => by first | exact Wk.refl _ | exact Wk.nils _ _⟩
  | n + 1, h => exact absurd h (by show ¬ n + 1 < 1; omega)⟩
theorem tyz113 : ZeroOk 113 (.sl .str) := ⟨rfl, fun z h => by
  injection h with h; subst h
  refine ⟨rfl, fun j hj => ?_⟩
  match j, hj with
  | 0, _ => exact ⟨_, rfl, fun len => by first | exact Wk.refl _ | exact Wk.nils _ _⟩
  | n + 1, h => exact absurd h (by show ¬ n + 1 < 1; omega)⟩
theorem tyz133 : ZeroOk 133 (.sl (.int .u8)) := ⟨rfl, fun z h => by
  injection h with h; subst h
  refine ⟨rfl, fun j hj => ?_⟩
  match j, hj with
  | 0, _ => exact ⟨_, rfl, fun len => by first | exact Wk.refl _ | exact Wk.nils _ _⟩
  | n + 1, h => exact absurd h (by show ¬ n + 1 < 1; omega)⟩
theorem tyz142 : ZeroOk 142 (.int .u64) := ⟨rfl, fun z h => by
  injection h with h; subst h
  refine ⟨rfl, fun j hj => ?_⟩
  match j, hj with
  | 0, _ => exact ⟨_, rfl, fun len => by first | exact Wk.refl _ | exact Wk.nils _ _⟩
  | n + 1, h => exact absurd h (by show ¬ n + 1 < 1; omega)⟩
theorem tyz148 : ZeroOk 148 (.int .i64) := ⟨rfl, fun z h => by
  injection h with h; subst h
  refine ⟨rfl, fun j hj => ?_⟩
  match j, hj with
  | 0, _ => exact ⟨_, rfl, fun len => by first | exact Wk.refl _ | exact Wk.nils _ _⟩
  | n + 1, h => exact absurd h (by show ¬ n + 1 < 1; omega)⟩
theorem tyz155 : ZeroOk 155 (.int .u32) := ⟨rfl, fun z h => by
  injection h with h; subst h
  refine ⟨rfl, fun j hj => ?_⟩
  match j, hj with
  | 0, _ => exact ⟨_, rfl, fun len => by first | exact Wk.refl _ | exact Wk.nils _ _⟩
  | n + 1, h => exact absurd h (by show ¬ n + 1 < 1; omega)⟩
theorem tyz157 : ZeroOk 157 (.int .u64) := ⟨rfl, fun z h => by
  injection h with h; subst h
  refine ⟨rfl, fun j hj => ?_⟩
  match j, hj with
  | 0, _ => exact ⟨_, rfl, fun len => by first | exact Wk.refl _ | exact Wk.nils _ _⟩
  | n + 1, h => exact absurd h (by show ¬ n + 1 < 1; omega)⟩
theorem tyz173 : ZeroOk 173 (.int .u8) := ⟨rfl, fun z h => by
  injection h with h; subst h
  refine ⟨rfl, fun j hj => ?_⟩
  match j, hj with
  | 0, _ => exact ⟨_, rfl, fun len => by first | exact Wk.refl _ | exact Wk.nils _ _⟩
  | n + 1, h => exact absurd h (by show ¬ n + 1 < 1; omega)⟩
theorem tyz174 : ZeroOk 174 (.int .u8) := ⟨rfl, fun z h => by
  injection h with h; subst h
  refine ⟨rfl, fun j hj => ?_⟩
  match j, hj with
  | 0, _ => exact ⟨_, rfl, fun len => by first | exact Wk.refl _ | exact Wk.nils _ _⟩
  | n + 1, h => exact absurd h (by show ¬ n + 1 < 1; omega)⟩
theorem tyz177 : ZeroOk 177 (.int .i32) := ⟨rfl, fun z h => by
  injection h with h; subst h
  refine ⟨rfl, fun j hj => ?_⟩
  match j, hj with
  | 0, _ => exact ⟨_, rfl, fun len => by first | exact Wk.refl _ | exact Wk.nils _ _⟩
  | n + 1, h => exact absurd h (by show ¬ n + 1 < 1; omega)⟩
theorem tyz178 : ZeroOk 178 (.int .i32) := ⟨rfl, fun z h => by
  injection h with h; subst h
  refine ⟨rfl, fun j hj => ?_⟩
  match j, hj with
  | 0, _ => exact ⟨_, rfl, fun len => by first | exact Wk.refl _ | exact Wk.nils _ _⟩
  | n + 1, h => exact absurd h (by show ¬ n + 1 < 1; omega)⟩
def ZOk (t : TypeId) (o : Option Ty) : Prop := ∀ τ, o = some τ → ZeroOk t τ
theorem zNode {t : TypeId} {b : Bool} {x y : Option Ty} (h1 : ZOk t x) (h2 : ZOk t y) : ZOk t (bif b then x else y) := by cases b <;> assumption
theorem zLeaf {t n : TypeId} {x : Ty} (h : ZeroOk n x) : ZOk t (bif Nat.beq t n then some x else none) := fun τ e => by
  cases hb : Nat.beq t n with
  | true => rw [hb] at e; obtain rfl := Nat.eq_of_beq_eq_true hb; cases e; exact h
  | false => rw [hb] at e; cases e
def tyes (t : TypeId) : Option Ty := (bif Nat.blt t 44 then (bif Nat.blt t 21 then (bif Nat.blt t 6 then (bif Nat.blt t 4 then (bif Nat.blt t 3 then (bif Nat.beq t 2 then some (.int .i64) else none) else (bif Nat.beq t 3 then some (.int .i64) else none)) else (bif Nat.blt t 5 then (bif Nat.beq t 4 then some .bool else none) else (bif Nat.beq t 5 then some (.int .u8) else none))) else (bif Nat.blt t 10 then (bif Nat.blt t 9 then (bif Nat.beq t 6 then some (.int .u8) else none) else (bif Nat.beq t 9 then some .str else none)) else (bif Nat.blt t 11 then (bif Nat.beq t 10 then some .str else none) else (bif Nat.blt t 12 then (bif Nat.beq t 11 then some .str else none) else (bif Nat.beq t 12 then some (.int .u64) else none))))) else (bif Nat.blt t 30 then (bif Nat.blt t 26 then (bif Nat.blt t 25 then (bif Nat.beq t 21 then some (.int .i32) else none) else (bif Nat.beq t 25 then some (.sl (.int .i64)) else none)) else (bif Nat.blt t 27 then (bif Nat.beq t 26 then some (.sl (.st 4)) else none) else (bif Nat.blt t 28 then (bif Nat.beq t 27 then some (.sl (.st 5)) else none) else (bif Nat.beq t 28 then some (.sl (.st 3)) else none)))) else (bif Nat.blt t 37 then (bif Nat.blt t 36 then (bif Nat.beq t 30 then some (.st 6) else none) else (bif Nat.beq t 36 then some (.sl (.st 0)) else none)) else (bif Nat.blt t 39 then (bif Nat.beq t 37 then some (.sl (.st 1)) else none) else (bif Nat.blt t 41 then (bif Nat.beq t 39 then some (.st 2) else none) else (bif Nat.beq t 41 then some (.st 3) else none)))))) else (bif Nat.blt t 113 then (bif Nat.blt t 55 then (bif Nat.blt t 51 then (bif Nat.blt t 46 then (bif Nat.beq t 44 then some (.int .u64) else none) else (bif Nat.beq t 46 then some (.st 0) else none)) else (bif Nat.blt t 53 then (bif Nat.beq t 51 then some (.st 1) else none) else (bif Nat.beq t 53 then some (.st 4) else none))) else (bif Nat.blt t 67 then (bif Nat.blt t 57 then (bif Nat.beq t 55 then some (.st 5) else none) else (bif Nat.beq t 57 then some (.st 7) else none)) else (bif Nat.blt t 69 then (bif Nat.beq t 67 then some (.sl (.sl (.int .i64))) else none) else (bif Nat.blt t 96 then (bif Nat.beq t 69 then some (.sl .bool) else none) else (bif Nat.beq t 96 then some (.int .i64) else none))))) else (bif Nat.blt t 157 then (bif Nat.blt t 142 then (bif Nat.blt t 133 then (bif Nat.beq t 113 then some (.sl .str) else none) else (bif Nat.beq t 133 then some (.sl (.int .u8)) else none)) else (bif Nat.blt t 148 then (bif Nat.beq t 142 then some (.int .u64) else none) else (bif Nat.blt t 155 then (bif Nat.beq t 148 then some (.int .i64) else none) else (bif Nat.beq t 155 then some (.int .u32) else none)))) else (bif Nat.blt t 174 then (bif Nat.blt t 173 then (bif Nat.beq t 157 then some (.int .u64) else none) else (bif Nat.beq t 173 then some (.int .u8) else none)) else (bif Nat.blt t 177 then (bif Nat.beq t 174 then some (.int .u8) else none) else (bif Nat.blt t 178 then (bif Nat.beq t 177 then some (.int .i32) else none) else (bif Nat.beq t 178 then some (.int .i32) else none)))))))
theorem tyes_ok (t : TypeId) : ZOk t (tyes t) := (zNode (zNode (zNode (zNode (zNode (zLeaf tyz2) (zLeaf tyz3)) (zNode (zLeaf tyz4) (zLeaf tyz5))) (zNode (zNode (zLeaf tyz6) (zLeaf tyz9)) (zNode (zLeaf tyz10) (zNode (zLeaf tyz11) (zLeaf tyz12))))) (zNode (zNode (zNode (zLeaf tyz21) (zLeaf tyz25)) (zNode (zLeaf tyz26) (zNode (zLeaf tyz27) (zLeaf tyz28)))) (zNode (zNode (zLeaf tyz30) (zLeaf tyz36)) (zNode (zLeaf tyz37) (zNode (zLeaf tyz39) (zLeaf tyz41)))))) (zNode (zNode (zNode (zNode (zLeaf tyz44) (zLeaf tyz46)) (zNode (zLeaf tyz51) (zLeaf tyz53))) (zNode (zNode (zLeaf tyz55) (zLeaf tyz57)) (zNode (zLeaf tyz67) (zNode (zLeaf tyz69) (zLeaf tyz96))))) (zNode (zNode (zNode (zLeaf tyz113) (zLeaf tyz133)) (zNode (zLeaf tyz142) (zNode (zLeaf tyz148) (zLeaf tyz155)))) (zNode (zNode (zLeaf tyz157) (zLeaf tyz173)) (zNode (zLeaf tyz174) (zNode (zLeaf tyz177) (zLeaf tyz178)))))))
instance : TyE Try.prog := ⟨tyes, fun t τ h => (tyes_ok t τ h).1, fun t τ z h hz => (tyes_ok t τ h).2 z hz⟩
end Go.Abs


set_option linter.unusedVariables false
namespace Go.Abs
open Go Go.Proofs
def tyx7 : TyXE := { nf := some 4 }
theorem tyx7_ok : TyXE.Ok Try.prog 7 tyx7 := ⟨(fun m h => by cases h; exact ⟨_, Try.underlying7, rfl, by kernel_rfl⟩), (fun l h => by cases h), (fun s e τ h => by cases h), (fun m s h => by cases h)⟩
def tyx8 : TyXE := { nf := some 4 }
theorem tyx8_ok : TyXE.Ok Try.prog 8 tyx8 := ⟨(fun m h => by cases h; exact ⟨_, Try.underlying8, rfl, by kernel_rfl⟩), (fun l h => by cases h), (fun s e τ h => by cases h), (fun m s h => by cases h)⟩
def tyx13 : TyXE := { nf := some 2 }
theorem tyx13_ok : TyXE.Ok Try.prog 13 tyx13 := ⟨(fun m h => by cases h; exact ⟨_, Try.underlying13, rfl, by kernel_rfl⟩), (fun l h => by cases h), (fun s e τ h => by cases h), (fun m s h => by cases h)⟩
def tyx14 : TyXE := { nf := some 2 }
theorem tyx14_ok : TyXE.Ok Try.prog 14 tyx14 := ⟨(fun m h => by cases h; exact ⟨_, Try.underlying14, rfl, by kernel_rfl⟩), (fun l h => by cases h), (fun s e τ h => by cases h), (fun m s h => by cases h)⟩
def tyx18 : TyXE := { nf := some 1 }
theorem tyx18_ok : TyXE.Ok Try.prog 18 tyx18 := ⟨(fun m h => by cases h; exact ⟨_, Try.underlying18, rfl, by kernel_rfl⟩), (fun l h => by cases h), (fun s e τ h => by cases h), (fun m s h => by cases h)⟩
def tyx19 : TyXE := { nf := some 1 }
theorem tyx19_ok : TyXE.Ok Try.prog 19 tyx19 := ⟨(fun m h => by cases h; exact ⟨_, Try.underlying19, rfl, by kernel_rfl⟩), (fun l h => by cases h), (fun s e τ h => by cases h), (fun m s h => by cases h)⟩
def tyx29 : TyXE := { nf := some 6 }
theorem tyx29_ok : TyXE.Ok Try.prog 29 tyx29 := ⟨(fun m h => by cases h; exact ⟨_, Try.underlying29, rfl, by kernel_rfl⟩), (fun l h => by cases h), (fun s e τ h => by cases h), (fun m s h => by cases h)⟩
def tyx30 : TyXE := { nf := some 6 }
theorem tyx30_ok : TyXE.Ok Try.prog 30 tyx30 := ⟨(fun m h => by cases h; exact ⟨_, Try.underlying30, rfl, by kernel_rfl⟩), (fun l h => by cases h), (fun s e τ h => by cases h), (fun m s h => by cases h)⟩
def tyx38 : TyXE := { nf := some 4 }
theorem tyx38_ok : TyXE.Ok Try.prog 38 tyx38 := ⟨(fun m h => by cases h; exact ⟨_, Try.underlying38, rfl, by kernel_rfl⟩), (fun l h => by cases h), (fun s e τ h => by cases h), (fun m s h => by cases h)⟩
def tyx39 : TyXE := { nf := some 4 }
theorem tyx39_ok : TyXE.Ok Try.prog 39 tyx39 := ⟨(fun m h => by cases h; exact ⟨_, Try.underlying39, rfl, by kernel_rfl⟩), (fun l h => by cases h), (fun s e τ h => by cases h), (fun m s h => by cases h)⟩
def tyx40 : TyXE := { nf := some 6 }
theorem tyx40_ok : TyXE.Ok Try.prog 40 tyx40 := ⟨(fun m h => by cases h; exact ⟨_, Try.underlying40, rfl, by kernel_rfl⟩), (fun l h => by cases h), (fun s e τ h => by cases h), (fun m s h => by cases h)⟩
def tyx41 : TyXE := { nf := some 6 }
theorem tyx41_ok : TyXE.Ok Try.prog 41 tyx41 := ⟨(fun m h => by cases h; exact ⟨_, Try.underlying41, rfl, by kernel_rfl⟩), (fun l h => by cases h), (fun s e τ h => by cases h), (fun m s h => by cases h)⟩
def tyx45 : TyXE := { nf := some 5 }
theorem tyx45_ok : TyXE.Ok Try.prog 45 tyx45 := ⟨(fun m h => by cases h; exact ⟨_, Try.underlying45, rfl, by kernel_rfl⟩), (fun l h => by cases h), (fun s e τ h => by cases h), (fun m s h => by cases h)⟩
def tyx46 : TyXE := { nf := some 5 }
theorem tyx46_ok : TyXE.Ok Try.prog 46 tyx46 := ⟨(fun m h => by cases h; exact ⟨_, Try.underlying46, rfl, by kernel_rfl⟩), (fun l h => by cases h), (fun s e τ h => by cases h), (fun m s h => by cases h)⟩
def tyx50 : TyXE := { nf := some 2 }
theorem tyx50_ok : TyXE.Ok Try.prog 50 tyx50 := ⟨(fun m h => by cases h; exact ⟨_, Try.underlying50, rfl, by kernel_rfl⟩), (fun l h => by cases h), (fun s e τ h => by cases h), (fun m s h => by cases h)⟩
def tyx51 : TyXE := { nf := some 2 }
theorem tyx51_ok : TyXE.Ok Try.prog 51 tyx51 := ⟨(fun m h => by cases h; exact ⟨_, Try.underlying51, rfl, by kernel_rfl⟩), (fun l h => by cases h), (fun s e τ h => by cases h), (fun m s h => by cases h)⟩
def tyx52 : TyXE := { nf := some 5 }
theorem tyx52_ok : TyXE.Ok Try.prog 52 tyx52 := ⟨(fun m h => by cases h; exact ⟨_, Try.underlying52, rfl, by kernel_rfl⟩), (fun l h => by cases h), (fun s e τ h => by cases h), (fun m s h => by cases h)⟩
def tyx53 : TyXE := { nf := some 5, eq := some [.string, (.int .i64), (.int .i64), (.int .i64), (.int .i64)] }
theorem tyx53_ok : TyXE.Ok Try.prog 53 tyx53 := ⟨(fun m h => by cases h; exact ⟨_, Try.underlying53, rfl, by kernel_rfl⟩), (fun l h => by cases h; kernel_rfl), (fun s e τ h => by cases h), (fun m s h => by cases h)⟩
def tyx54 : TyXE := { nf := some 3 }
theorem tyx54_ok : TyXE.Ok Try.prog 54 tyx54 := ⟨(fun m h => by cases h; exact ⟨_, Try.underlying54, rfl, by kernel_rfl⟩), (fun l h => by cases h), (fun s e τ h => by cases h), (fun m s h => by cases h)⟩
def tyx55 : TyXE := { nf := some 3, eq := some [.string, (.int .i64), .bool] }
theorem tyx55_ok : TyXE.Ok Try.prog 55 tyx55 := ⟨(fun m h => by cases h; exact ⟨_, Try.underlying55, rfl, by kernel_rfl⟩), (fun l h => by cases h; kernel_rfl), (fun s e τ h => by cases h), (fun m s h => by cases h)⟩
def tyx56 : TyXE := { nf := some 2 }
theorem tyx56_ok : TyXE.Ok Try.prog 56 tyx56 := ⟨(fun m h => by cases h; exact ⟨_, Try.underlying56, rfl, by kernel_rfl⟩), (fun l h => by cases h), (fun s e τ h => by cases h), (fun m s h => by cases h)⟩
def tyx57 : TyXE := { nf := some 2, eq := some [(.int .i64), .bool] }
theorem tyx57_ok : TyXE.Ok Try.prog 57 tyx57 := ⟨(fun m h => by cases h; exact ⟨_, Try.underlying57, rfl, by kernel_rfl⟩), (fun l h => by cases h; kernel_rfl), (fun s e τ h => by cases h), (fun m s h => by cases h)⟩
def tyx58 : TyXE := { ar := some (2, 2) }
theorem tyx58_ok : TyXE.Ok Try.prog 58 tyx58 := ⟨(fun m h => by cases h), (fun l h => by cases h), (fun s e τ h => by cases h), (fun m s h => by cases h; exact ⟨_, inferInstance⟩)⟩
def tyx59 : TyXE := { ar := some (2, 1) }
theorem tyx59_ok : TyXE.Ok Try.prog 59 tyx59 := ⟨(fun m h => by cases h), (fun l h => by cases h), (fun s e τ h => by cases h), (fun m s h => by cases h; exact ⟨_, inferInstance⟩)⟩
def tyx64 : TyXE := { ar := some (2, 1) }
theorem tyx64_ok : TyXE.Ok Try.prog 64 tyx64 := ⟨(fun m h => by cases h), (fun l h => by cases h), (fun s e τ h => by cases h), (fun m s h => by cases h; exact ⟨_, inferInstance⟩)⟩
def tyx91 : TyXE := { mp := some (false, 3, (.int .i64)) }
theorem tyx91_ok : TyXE.Ok Try.prog 91 tyx91 := ⟨(fun m h => by cases h), (fun l h => by cases h), (fun s e τ h => by cases h; exact ⟨⟨_, Try.underlying91, Try.underlying3⟩⟩), (fun m s h => by cases h)⟩
def tyx106 : TyXE := { nf := some 3 }
theorem tyx106_ok : TyXE.Ok Try.prog 106 tyx106 := ⟨(fun m h => by cases h; exact ⟨_, Try.underlying106, rfl, by kernel_rfl⟩), (fun l h => by cases h), (fun s e τ h => by cases h), (fun m s h => by cases h)⟩
def tyx107 : TyXE := { nf := some 3 }
theorem tyx107_ok : TyXE.Ok Try.prog 107 tyx107 := ⟨(fun m h => by cases h; exact ⟨_, Try.underlying107, rfl, by kernel_rfl⟩), (fun l h => by cases h), (fun s e τ h => by cases h), (fun m s h => by cases h)⟩
def tyx134 : TyXE := { mp := some (true, 4, .bool) }
theorem tyx134_ok : TyXE.Ok Try.prog 134 tyx134 := ⟨(fun m h => by cases h), (fun l h => by cases h), (fun s e τ h => by cases h; exact ⟨⟨_, Try.underlying134, Try.underlying9⟩⟩), (fun m s h => by cases h)⟩
def tyx144 : TyXE := { ar := some (3, 1) }
theorem tyx144_ok : TyXE.Ok Try.prog 144 tyx144 := ⟨(fun m h => by cases h), (fun l h => by cases h), (fun s e τ h => by cases h), (fun m s h => by cases h; exact ⟨_, inferInstance⟩)⟩
def tyx167 : TyXE := { nf := some 4 }
theorem tyx167_ok : TyXE.Ok Try.prog 167 tyx167 := ⟨(fun m h => by cases h; exact ⟨_, Try.underlying167, rfl, by kernel_rfl⟩), (fun l h => by cases h), (fun s e τ h => by cases h), (fun m s h => by cases h)⟩
def tyx168 : TyXE := { nf := some 4 }
theorem tyx168_ok : TyXE.Ok Try.prog 168 tyx168 := ⟨(fun m h => by cases h; exact ⟨_, Try.underlying168, rfl, by kernel_rfl⟩), (fun l h => by cases h), (fun s e τ h => by cases h), (fun m s h => by cases h)⟩
def tyx169 : TyXE := { ar := some (0, 1) }
theorem tyx169_ok : TyXE.Ok Try.prog 169 tyx169 := ⟨(fun m h => by cases h), (fun l h => by cases h), (fun s e τ h => by cases h), (fun m s h => by cases h; exact ⟨_, inferInstance⟩)⟩
def tyx179 : TyXE := { nf := some 11 }
theorem tyx179_ok : TyXE.Ok Try.prog 179 tyx179 := ⟨(fun m h => by cases h; exact ⟨_, Try.underlying179, rfl, by kernel_rfl⟩), (fun l h => by cases h), (fun s e τ h => by cases h), (fun m s h => by cases h)⟩
def tyx180 : TyXE := { nf := some 11 }
theorem tyx180_ok : TyXE.Ok Try.prog 180 tyx180 := ⟨(fun m h => by cases h; exact ⟨_, Try.underlying180, rfl, by kernel_rfl⟩), (fun l h => by cases h), (fun s e τ h => by cases h), (fun m s h => by cases h)⟩
theorem xNode {t : TypeId} {b : Bool} {x y : TyXE} (h1 : TyXE.Ok Try.prog t x) (h2 : TyXE.Ok Try.prog t y) : TyXE.Ok Try.prog t (bif b then x else y) := by cases b <;> assumption
theorem xLeaf {t n : TypeId} {x : TyXE} (h : TyXE.Ok Try.prog n x) : TyXE.Ok Try.prog t (bif Nat.beq t n then x else {}) := by
  cases hb : Nat.beq t n with
  | true => obtain rfl := Nat.eq_of_beq_eq_true hb; exact h
  | false => exact ⟨fun m h => (by cases h), fun l h => (by cases h), fun s e τ h => (by cases h), fun m s h => (by cases h)⟩
def tyxs (t : TypeId) : TyXE := (bif Nat.blt t 53 then (bif Nat.blt t 38 then (bif Nat.blt t 18 then (bif Nat.blt t 13 then (bif Nat.blt t 8 then (bif Nat.beq t 7 then tyx7 else {}) else (bif Nat.beq t 8 then tyx8 else {})) else (bif Nat.blt t 14 then (bif Nat.beq t 13 then tyx13 else {}) else (bif Nat.beq t 14 then tyx14 else {}))) else (bif Nat.blt t 29 then (bif Nat.blt t 19 then (bif Nat.beq t 18 then tyx18 else {}) else (bif Nat.beq t 19 then tyx19 else {})) else (bif Nat.blt t 30 then (bif Nat.beq t 29 then tyx29 else {}) else (bif Nat.beq t 30 then tyx30 else {})))) else (bif Nat.blt t 45 then (bif Nat.blt t 40 then (bif Nat.blt t 39 then (bif Nat.beq t 38 then tyx38 else {}) else (bif Nat.beq t 39 then tyx39 else {})) else (bif Nat.blt t 41 then (bif Nat.beq t 40 then tyx40 else {}) else (bif Nat.beq t 41 then tyx41 else {}))) else (bif Nat.blt t 50 then (bif Nat.blt t 46 then (bif Nat.beq t 45 then tyx45 else {}) else (bif Nat.beq t 46 then tyx46 else {})) else (bif Nat.blt t 51 then (bif Nat.beq t 50 then tyx50 else {}) else (bif Nat.blt t 52 then (bif Nat.beq t 51 then tyx51 else {}) else (bif Nat.beq t 52 then tyx52 else {})))))) else (bif Nat.blt t 106 then (bif Nat.blt t 57 then (bif Nat.blt t 55 then (bif Nat.blt t 54 then (bif Nat.beq t 53 then tyx53 else {}) else (bif Nat.beq t 54 then tyx54 else {})) else (bif Nat.blt t 56 then (bif Nat.beq t 55 then tyx55 else {}) else (bif Nat.beq t 56 then tyx56 else {}))) else (bif Nat.blt t 59 then (bif Nat.blt t 58 then (bif Nat.beq t 57 then tyx57 else {}) else (bif Nat.beq t 58 then tyx58 else {})) else (bif Nat.blt t 64 then (bif Nat.beq t 59 then tyx59 else {}) else (bif Nat.blt t 91 then (bif Nat.beq t 64 then tyx64 else {}) else (bif Nat.beq t 91 then tyx91 else {}))))) else (bif Nat.blt t 167 then (bif Nat.blt t 134 then (bif Nat.blt t 107 then (bif Nat.beq t 106 then tyx106 else {}) else (bif Nat.beq t 107 then tyx107 else {})) else (bif Nat.blt t 144 then (bif Nat.beq t 134 then tyx134 else {}) else (bif Nat.beq t 144 then tyx144 else {}))) else (bif Nat.blt t 169 then (bif Nat.blt t 168 then (bif Nat.beq t 167 then tyx167 else {}) else (bif Nat.beq t 168 then tyx168 else {})) else (bif Nat.blt t 179 then (bif Nat.beq t 169 then tyx169 else {}) else (bif Nat.blt t 180 then (bif Nat.beq t 179 then tyx179 else {}) else (bif Nat.beq t 180 then tyx180 else {})))))))
theorem tyxs_ok (t : TypeId) : TyXE.Ok Try.prog t (tyxs t) := (xNode (xNode (xNode (xNode (xNode (xLeaf tyx7_ok) (xLeaf tyx8_ok)) (xNode (xLeaf tyx13_ok) (xLeaf tyx14_ok))) (xNode (xNode (xLeaf tyx18_ok) (xLeaf tyx19_ok)) (xNode (xLeaf tyx29_ok) (xLeaf tyx30_ok)))) (xNode (xNode (xNode (xLeaf tyx38_ok) (xLeaf tyx39_ok)) (xNode (xLeaf tyx40_ok) (xLeaf tyx41_ok))) (xNode (xNode (xLeaf tyx45_ok) (xLeaf tyx46_ok)) (xNode (xLeaf tyx50_ok) (xNode (xLeaf tyx51_ok) (xLeaf tyx52_ok)))))) (xNode (xNode (xNode (xNode (xLeaf tyx53_ok) (xLeaf tyx54_ok)) (xNode (xLeaf tyx55_ok) (xLeaf tyx56_ok))) (xNode (xNode (xLeaf tyx57_ok) (xLeaf tyx58_ok)) (xNode (xLeaf tyx59_ok) (xNode (xLeaf tyx64_ok) (xLeaf tyx91_ok))))) (xNode (xNode (xNode (xLeaf tyx106_ok) (xLeaf tyx107_ok)) (xNode (xLeaf tyx134_ok) (xLeaf tyx144_ok))) (xNode (xNode (xLeaf tyx167_ok) (xLeaf tyx168_ok)) (xNode (xLeaf tyx169_ok) (xNode (xLeaf tyx179_ok) (xLeaf tyx180_ok)))))))
instance : TyX Try.prog := ⟨tyxs, tyxs_ok⟩
end Go.Abs


set_option linter.unusedVariables false
set_option linter.unusedSectionVars false
set_option linter.unusedSimpArgs false
set_option maxHeartbeats 1000000
namespace Go.Abs
open Go Go.Proofs
noncomputable section
def ann42 : Ann := (.seq .o (.seq .o .o))
def go42 (x0 : Int) : (Option (Bool × Unit)) :=
  (bif (decide ((2 : Int) ≤ x0)) then
    (some ((decide (x0 ≤ (20 : Int))), ()))
    else
    (some (false, ())))
theorem run42 (x0 : Int) : runF (P := Try.prog) [] Try.f42 ann42 [(0, (.i .i64))] [] .b [] (x0, ()) () = go42 x0 := by kernel_rfl
def ann15 : Ann := (.seq .o (.seq .o .o))
def go15 (x0 : Int) : (Option (Bool × Unit)) :=
  (bif (decide ((1 : Int) ≤ x0)) then
    (some ((decide (x0 ≤ (24 : Int))), ()))
    else
    (some (false, ())))
theorem run15 (x0 : Int) : runF (P := Try.prog) [] Try.f15 ann15 [(0, (.i .i64))] [] .b [] (x0, ()) () = go15 x0 := by kernel_rfl
def ann17 : Ann := (.seq .o (.seq .o (.join ⟨[(1, (.ptr 0 0)), (3, (.i .i64))], [(.box 30 (.st 6))]⟩ (.seq .o (.block (.loop ⟨[(1, (.ptr 0 0)), (3, (.i .i64)), (4, (.i .i64))], [(.box 30 (.st 6))]⟩ [((.exit 0), ⟨[(1, (.ptr 0 0)), (3, (.i .i64))], [(.box 30 (.st 6))]⟩), (.ret, ⟨[(2, .b)], []⟩)] (.join ⟨[(1, (.ptr 0 0)), (3, (.i .i64)), (4, (.i .i64))], [(.box 30 (.st 6))]⟩ (.seq .o (.cond .o .o)) (.join ⟨[(1, (.ptr 0 0)), (3, (.i .i64)), (4, (.i .i64))], [(.box 30 (.st 6))]⟩ (.block (.seq .w (.seq .o (.cond (.seq .o .o) .o)))) .o))))) (.seq .o .o))))
def go17_l1 : ((Unit × (Int × (Int × Unit))) × (Fn × Unit)) → Option (((Unit × (Int × (Int × Unit))) × (Fn × Unit)) ⊕ (((Unit × (Int × Unit)) × (Fn × Unit)) ⊕ ((Bool × Unit) × Unit))) := (fun (r0 : ((Unit × (Int × (Int × Unit))) × (Fn × Unit))) => (bif (decide (r0.1.2.2.1 < ((r0.2.1.blocks.length : Nat) : Int))) then
      (grd (okB (((0 : Int) ≤ r0.1.2.2.1) ∧ (r0.1.2.2.1 < ((r0.2.1.blocks.length : Nat) : Int))))
        (grd (okB (((0 : Int) ≤ r0.1.2.2.1) ∧ (r0.1.2.2.1 < ((r0.2.1.blocks.length : Nat) : Int))))
          (bif (decide ((100 : Int) < (((r0.2.1.blocks.getD r0.1.2.2.1.toNat Block.z).params.length : Nat) : Int))) then
            (some (Sum.inr (Sum.inr ((false, ()), ()))))
            else
            (grd (okB (((-(9223372036854775808 : Int)) ≤ (r0.1.2.2.1 + (1 : Int))) ∧ ((r0.1.2.2.1 + (1 : Int)) ≤ (9223372036854775807 : Int))))
              (some (Sum.inl (((), ((Go.IntKind.wrap Go.IntKind.i64 (r0.1.2.1 + (((r0.2.1.blocks.getD r0.1.2.2.1.toNat Block.z).insts.length : Nat) : Int))), ((r0.1.2.2.1 + (1 : Int)), ()))), (r0.2.1, ()))))))))
      else
      (some (Sum.inr (Sum.inl (((), (r0.1.2.1, ())), (r0.2.1, ())))))))
def go17 (x0 : Fn) : (Option (Bool × Unit)) :=
  (callB (whileO (go17_l1) (((), ((0 : Int), ((0 : Int), ()))), (x0, ())))
    (fun (z0 : (((Unit × (Int × Unit)) × (Fn × Unit)) ⊕ ((Bool × Unit) × Unit))) => (sumO (fun (z1 : ((Unit × (Int × Unit)) × (Fn × Unit))) => (bif (decide (((z1.2.1.blocks.length : Nat) : Int) ≤ (30 : Int))) then
            (bif (decide (z1.1.2.1 ≤ (300 : Int))) then
              (some ((decide (((z1.2.1.widths.length : Nat) : Int) ≤ (600 : Int))), ()))
              else
              (some (false, ())))
            else
            (some (false, ()))))
        (fun (z1 : ((Bool × Unit) × Unit)) => (some (z1.1.1, ()))) z0)))
theorem run17 (x0 : Fn) : runF (P := Try.prog) [] Try.f17 ann17 [(0, (.st 6))] [] .b [] (x0, ()) () = go17 x0 := by kernel_rfl
def Sp.isBinary (op : Int) : Bool := decide (2 ≤ op) && decide (op ≤ 20)
theorem ok42 (op : Int) : go42 op = some (Sp.isBinary op, ()) := by
  unfold go42 Sp.isBinary
  by_cases h : 2 ≤ op <;> simp [h]
def c42 : Ctr Try.prog := mkCtr 42 Try.f42 Try.func42 [] ann42 [(0, (.i .i64))] [] .b [] (fun x _ => some (Sp.isBinary x.1, ())) (fun x _ r h => FE (run42 x.1) (ok42 x.1) h)
def Sp.pureOp (op : Int) : Bool := decide (1 ≤ op) && decide (op ≤ 24)
theorem ok15 (op : Int) : go15 op = some (Sp.pureOp op, ()) := by
  unfold go15 Sp.pureOp
  by_cases h : 1 ≤ op <;> simp [h]
def c15 : Ctr Try.prog := mkCtr 15 Try.f15 Try.func15 [] ann15 [(0, (.i .i64))] [] .b [] (fun x _ => some (Sp.pureOp x.1, ())) (fun x _ r h => FE (run15 x.1) (ok15 x.1) h)
def Sp.right (w : Int) : Bool := decide (1 ≤ w) && decide (w ≤ 64)
def Sp.within (f : Fn) (v : Int) : Bool := decide (0 ≤ v) && decide (v < f.widths.length)
abbrev Fn.blk (f : Fn) (i : Nat) : Block := f.blocks.getD i Block.z
theorem Fn.ok_blocks {f : Fn} (h : f.ok) : f.blocks.length ≤ LEN := h.2.2.2.2.2.len
def Sp.instSum (l : List Block) : Nat → Int
  | 0 => 0
  | i + 1 => IntKind.i64.wrap (Sp.instSum l i + ((l.getD i Block.z).insts.length : Int))
def Sp.few (f : Fn) : Bool := f.blocks.all (fun b => !decide (100 < (b.params.length : Int))) && decide ((f.blocks.length : Int) ≤ 30) && decide (Sp.instSum f.blocks f.blocks.length ≤ 300) && decide ((f.widths.length : Int) ≤ 600)
theorem ok17 (f : Fn) (hf : f.ok) : go17 f = some (Sp.few f, ()) := by
  have hb := Fn.ok_blocks hf
  rw [lenVal] at hb
  unfold go17 go17_l1
  refine callB_of (whileO_all (l := f.blocks) (st := fun i => (((), Sp.instSum f.blocks i, (i : Int), ()), f, ())) rfl Block.z (fun b => !decide (100 < (b.params.length : Int)))
    (A := .inl (((), Sp.instSum f.blocks f.blocks.length, ()), f, ())) (B := .inr ((false, ()), ())) (fun i hi hp => ?_) (fun i hi hp => ?_) (fun _ => ?_)) ?_
  · have hp : ¬ 100 < (((f.blocks.getD i Block.z).params.length : Nat) : Int) := by simpa using hp
    simp (maxSteps := 1000000) (disch := ((try dsimp only); omega)) only [↓grd_dec, ↓grd_blt, ↓grd_true, ↓jpO_eq, ↓callB_some, ↓callB_grd, ↓bif_decide, ↓sumO_inl, ↓sumO_inr, ↓if_pos, ↓if_neg, ↓cond_true, ↓cond_false, ↓bif_not, Int.toNat_natCast, Bool.not_true, Bool.not_false, decide_true, decide_false, Bool.false_eq_true, ↓if_true, ↓if_false, Int.natCast_add, Int.cast_ofNat_Int, Bool.not_eq_true', decide_eq_false_iff_not, not_true_eq_false, not_false_eq_true]
    rfl
  · have hp : 100 < (((f.blocks.getD i Block.z).params.length : Nat) : Int) := by simpa using hp
    simp (maxSteps := 1000000) (disch := ((try dsimp only); omega)) only [↓grd_dec, ↓grd_blt, ↓grd_true, ↓jpO_eq, ↓callB_some, ↓callB_grd, ↓bif_decide, ↓sumO_inl, ↓sumO_inr, ↓if_pos, ↓if_neg, ↓cond_true, ↓cond_false, ↓bif_not, Int.toNat_natCast, Bool.not_true, Bool.not_false, decide_true, decide_false, Bool.false_eq_true, ↓if_true, ↓if_false, Int.natCast_add, Int.cast_ofNat_Int, Bool.not_eq_true', decide_eq_false_iff_not, not_true_eq_false, not_false_eq_true]
  · simp (maxSteps := 1000000) (disch := ((try dsimp only); omega)) only [↓grd_dec, ↓grd_blt, ↓grd_true, ↓jpO_eq, ↓callB_some, ↓callB_grd, ↓bif_decide, ↓sumO_inl, ↓sumO_inr, ↓if_pos, ↓if_neg, ↓cond_true, ↓cond_false, ↓bif_not, Int.toNat_natCast, Bool.not_true, Bool.not_false, decide_true, decide_false, Bool.false_eq_true, ↓if_true, ↓if_false, Int.natCast_add, Int.cast_ofNat_Int, Bool.not_eq_true', decide_eq_false_iff_not, not_true_eq_false, not_false_eq_true]
  · unfold Sp.few
    by_cases h : (f.blocks.all fun b => !decide (100 < (b.params.length : Int))) = true
    · rw [if_pos h, h]
      by_cases h1 : (f.blocks.length : Int) ≤ 30 <;> by_cases h2 : Sp.instSum f.blocks f.blocks.length ≤ 300 <;> simp [h1, h2]
    · rw [if_neg h, eq_false_of_ne_true h]; simp
def c17 : Ctr Try.prog := mkCtr 17 Try.f17 Try.func17 [] ann17 [(0, (.st 6))] [] .b [] (fun x _ => grd (okB x.1.ok) (some (Sp.few x.1, ()))) (fun x _ r h => FO (run17 x.1) (ok17 x.1) h)
def Fn.two (f : Fn) : Prop := ∀ i, i < f.blocks.length → (f.blk i).term.kind = 2 → (f.blk i).term.to.length = 2
end
end Go.Abs


set_option linter.unusedVariables false
set_option linter.unusedSectionVars false
set_option linter.unusedSimpArgs false
set_option maxHeartbeats 1000000
namespace Go.Abs
open Go Go.Proofs
noncomputable section
def ann60 : Ann := (.seq .o (.join ⟨[(0, (.fz (.int .i64)))], []⟩ (.seq .o (.cond .o .o)) (.seq .o .o)))
def go60_j1 : (((List Int) × Unit) × Unit) → Option (Unit × ((List Int) × Unit)) := (fun (z0 : (((List Int) × Unit) × Unit)) => (grd (okB ((((0 + z0.1.1.length) * (8 : Nat)) ≤ (140737488355328 : Nat)) ∧ ((0 + z0.1.1.length) ≤ (281474976710656 : Nat))))
      (some ((), ((([] : List Int) ++ z0.1.1), ())))))
def go60 (x0 : (List Int)) : (Option (Unit × ((List Int) × Unit))) :=
  (jpO (go60_j1)
    (fun (j0 : ((((List Int) × Unit) × Unit) → (Option (Unit × ((List Int) × Unit))))) => (grd (okB ((x0 = ([] : List Int)) → ((some ((), (([] : List Int), ()))) = (j0 ((x0, ()), ())))))
        (j0 ((x0, ()), ())))))
theorem run60 (x0 : (List Int)) : runF (P := Try.prog) [] Try.f60 ann60 [(0, (.fz (.int .i64)))] [] (.full 0) [(.lst 3 (.int .i64))] (x0, ()) () = go60 x0 := by kernel_rfl
theorem ok60 (x : List Int) (h : x.length * 8 ≤ reachBytes) : go60 x = some ((), x, ()) := by
  simp only [reachBytes] at h
  have hj : go60_j1 ((x, ()), ()) = some ((), x, ()) := by
    unfold go60_j1
    rw [grd_ok ⟨by simp only; omega, by simp only; omega⟩]
    rfl
  unfold go60
  rw [jpO_eq, hj, grd_ok (fun e => by rw [e])]
def c60 : Ctr Try.prog := mkCtr 60 Try.f60 Try.func60 [] ann60 [(0, (.fz (.int .i64)))] [] (.full 0) [(.lst 3 (.int .i64))] (fun x _ => grd (okB (x.1.length * 8 ≤ reachBytes)) (some ((), x.1, ()))) (fun x _ r h => FO (run60 x.1) (ok60 x.1) h)
def ann61 : Ann := (.seq .o (.join ⟨[(0, (.fz (.st 4)))], []⟩ (.seq .o (.cond .o .o)) (.seq .o .o)))
def go61_j1 : (((List Arr) × Unit) × Unit) → Option (Unit × ((List Arr) × Unit)) := (fun (z0 : (((List Arr) × Unit) × Unit)) => (grd (okB ((((0 + z0.1.1.length) * (48 : Nat)) ≤ (140737488355328 : Nat)) ∧ ((0 + z0.1.1.length) ≤ (281474976710656 : Nat))))
      (some ((), ((([] : List Arr) ++ z0.1.1), ())))))
def go61 (x0 : (List Arr)) : (Option (Unit × ((List Arr) × Unit))) :=
  (jpO (go61_j1)
    (fun (j0 : ((((List Arr) × Unit) × Unit) → (Option (Unit × ((List Arr) × Unit))))) => (grd (okB ((x0 = ([] : List Arr)) → ((some ((), (([] : List Arr), ()))) = (j0 ((x0, ()), ())))))
        (j0 ((x0, ()), ())))))
theorem run61 (x0 : (List Arr)) : runF (P := Try.prog) [] Try.f61 ann61 [(0, (.fz (.st 4)))] [] (.full 0) [(.lst 53 (.st 4))] (x0, ()) () = go61 x0 := by kernel_rfl
theorem ok61 (x : List Arr) (h : x.length * 48 ≤ reachBytes) : go61 x = some ((), x, ()) := by
  simp only [reachBytes] at h
  have hj : go61_j1 ((x, ()), ()) = some ((), x, ()) := by
    unfold go61_j1
    rw [grd_ok ⟨by simp only; omega, by simp only; omega⟩]
    rfl
  unfold go61
  rw [jpO_eq, hj, grd_ok (fun e => by rw [e])]
def c61 : Ctr Try.prog := mkCtr 61 Try.f61 Try.func61 [] ann61 [(0, (.fz (.st 4)))] [] (.full 0) [(.lst 53 (.st 4))] (fun x _ => grd (okB (x.1.length * 48 ≤ reachBytes)) (some ((), x.1, ()))) (fun x _ r h => FO (run61 x.1) (ok61 x.1) h)
def ann62 : Ann := (.seq .o (.join ⟨[(0, (.fz (.st 5)))], []⟩ (.seq .o (.cond .o .o)) (.seq .o .o)))
def go62_j1 : (((List Strm) × Unit) × Unit) → Option (Unit × ((List Strm) × Unit)) := (fun (z0 : (((List Strm) × Unit) × Unit)) => (grd (okB ((((0 + z0.1.1.length) * (32 : Nat)) ≤ (140737488355328 : Nat)) ∧ ((0 + z0.1.1.length) ≤ (281474976710656 : Nat))))
      (some ((), ((([] : List Strm) ++ z0.1.1), ())))))
def go62 (x0 : (List Strm)) : (Option (Unit × ((List Strm) × Unit))) :=
  (jpO (go62_j1)
    (fun (j0 : ((((List Strm) × Unit) × Unit) → (Option (Unit × ((List Strm) × Unit))))) => (grd (okB ((x0 = ([] : List Strm)) → ((some ((), (([] : List Strm), ()))) = (j0 ((x0, ()), ())))))
        (j0 ((x0, ()), ())))))
theorem run62 (x0 : (List Strm)) : runF (P := Try.prog) [] Try.f62 ann62 [(0, (.fz (.st 5)))] [] (.full 0) [(.lst 55 (.st 5))] (x0, ()) () = go62 x0 := by kernel_rfl
theorem ok62 (x : List Strm) (h : x.length * 32 ≤ reachBytes) : go62 x = some ((), x, ()) := by
  simp only [reachBytes] at h
  have hj : go62_j1 ((x, ()), ()) = some ((), x, ()) := by
    unfold go62_j1
    rw [grd_ok ⟨by simp only; omega, by simp only; omega⟩]
    rfl
  unfold go62
  rw [jpO_eq, hj, grd_ok (fun e => by rw [e])]
def c62 : Ctr Try.prog := mkCtr 62 Try.f62 Try.func62 [] ann62 [(0, (.fz (.st 5)))] [] (.full 0) [(.lst 55 (.st 5))] (fun x _ => grd (okB (x.1.length * 32 ≤ reachBytes)) (some ((), x.1, ()))) (fun x _ r h => FO (run62 x.1) (ok62 x.1) h)
def ann63 : Ann := (.seq .o (.join ⟨[(0, (.fz (.st 3)))], []⟩ (.seq .o (.cond .o .o)) (.seq .o .o)))
def go63_j1 : (((List Block) × Unit) × Unit) → Option (Unit × ((List Block) × Unit)) := (fun (z0 : (((List Block) × Unit) × Unit)) => (grd (okB ((((0 + z0.1.1.length) * (136 : Nat)) ≤ (140737488355328 : Nat)) ∧ ((0 + z0.1.1.length) ≤ (281474976710656 : Nat))))
      (some ((), ((([] : List Block) ++ z0.1.1), ())))))
def go63 (x0 : (List Block)) : (Option (Unit × ((List Block) × Unit))) :=
  (jpO (go63_j1)
    (fun (j0 : ((((List Block) × Unit) × Unit) → (Option (Unit × ((List Block) × Unit))))) => (grd (okB ((x0 = ([] : List Block)) → ((some ((), (([] : List Block), ()))) = (j0 ((x0, ()), ())))))
        (j0 ((x0, ()), ())))))
theorem run63 (x0 : (List Block)) : runF (P := Try.prog) [] Try.f63 ann63 [(0, (.fz (.st 3)))] [] (.full 0) [(.lst 41 (.st 3))] (x0, ()) () = go63 x0 := by kernel_rfl
theorem ok63 (x : List Block) (h : x.length * 136 ≤ reachBytes) : go63 x = some ((), x, ()) := by
  simp only [reachBytes] at h
  have hj : go63_j1 ((x, ()), ()) = some ((), x, ()) := by
    unfold go63_j1
    rw [grd_ok ⟨by simp only; omega, by simp only; omega⟩]
    rfl
  unfold go63
  rw [jpO_eq, hj, grd_ok (fun e => by rw [e])]
def c63 : Ctr Try.prog := mkCtr 63 Try.f63 Try.func63 [] ann63 [(0, (.fz (.st 3)))] [] (.full 0) [(.lst 41 (.st 3))] (fun x _ => grd (okB (x.1.length * 136 ≤ reachBytes)) (some ((), x.1, ()))) (fun x _ r h => FO (run63 x.1) (ok63 x.1) h)
def ann64 : Ann := (.seq .o (.join ⟨[(0, (.fz (.st 0)))], []⟩ (.seq .o (.cond .o .o)) (.seq .o .o)))
def go64_j1 : (((List Inst) × Unit) × Unit) → Option (Unit × ((List Inst) × Unit)) := (fun (z0 : (((List Inst) × Unit) × Unit)) => (grd (okB ((((0 + z0.1.1.length) * (56 : Nat)) ≤ (140737488355328 : Nat)) ∧ ((0 + z0.1.1.length) ≤ (281474976710656 : Nat))))
      (some ((), ((([] : List Inst) ++ z0.1.1), ())))))
def go64 (x0 : (List Inst)) : (Option (Unit × ((List Inst) × Unit))) :=
  (jpO (go64_j1)
    (fun (j0 : ((((List Inst) × Unit) × Unit) → (Option (Unit × ((List Inst) × Unit))))) => (grd (okB ((x0 = ([] : List Inst)) → ((some ((), (([] : List Inst), ()))) = (j0 ((x0, ()), ())))))
        (j0 ((x0, ()), ())))))
theorem run64 (x0 : (List Inst)) : runF (P := Try.prog) [] Try.f64 ann64 [(0, (.fz (.st 0)))] [] (.full 0) [(.lst 46 (.st 0))] (x0, ()) () = go64 x0 := by kernel_rfl
theorem ok64 (x : List Inst) (h : x.length * 56 ≤ reachBytes) : go64 x = some ((), x, ()) := by
  simp only [reachBytes] at h
  have hj : go64_j1 ((x, ()), ()) = some ((), x, ()) := by
    unfold go64_j1
    rw [grd_ok ⟨by simp only; omega, by simp only; omega⟩]
    rfl
  unfold go64
  rw [jpO_eq, hj, grd_ok (fun e => by rw [e])]
def c64 : Ctr Try.prog := mkCtr 64 Try.f64 Try.func64 [] ann64 [(0, (.fz (.st 0)))] [] (.full 0) [(.lst 46 (.st 0))] (fun x _ => grd (okB (x.1.length * 56 ≤ reachBytes)) (some ((), x.1, ()))) (fun x _ r h => FO (run64 x.1) (ok64 x.1) h)
def ann65 : Ann := (.seq .o (.join ⟨[(0, (.fz (.st 1)))], []⟩ (.seq .o (.cond .o .o)) (.seq .o .o)))
def go65_j1 : (((List Edge) × Unit) × Unit) → Option (Unit × ((List Edge) × Unit)) := (fun (z0 : (((List Edge) × Unit) × Unit)) => (grd (okB ((((0 + z0.1.1.length) * (32 : Nat)) ≤ (140737488355328 : Nat)) ∧ ((0 + z0.1.1.length) ≤ (281474976710656 : Nat))))
      (some ((), ((([] : List Edge) ++ z0.1.1), ())))))
def go65 (x0 : (List Edge)) : (Option (Unit × ((List Edge) × Unit))) :=
  (jpO (go65_j1)
    (fun (j0 : ((((List Edge) × Unit) × Unit) → (Option (Unit × ((List Edge) × Unit))))) => (grd (okB ((x0 = ([] : List Edge)) → ((some ((), (([] : List Edge), ()))) = (j0 ((x0, ()), ())))))
        (j0 ((x0, ()), ())))))
theorem run65 (x0 : (List Edge)) : runF (P := Try.prog) [] Try.f65 ann65 [(0, (.fz (.st 1)))] [] (.full 0) [(.lst 51 (.st 1))] (x0, ()) () = go65 x0 := by kernel_rfl
theorem ok65 (x : List Edge) (h : x.length * 32 ≤ reachBytes) : go65 x = some ((), x, ()) := by
  simp only [reachBytes] at h
  have hj : go65_j1 ((x, ()), ()) = some ((), x, ()) := by
    unfold go65_j1
    rw [grd_ok ⟨by simp only; omega, by simp only; omega⟩]
    rfl
  unfold go65
  rw [jpO_eq, hj, grd_ok (fun e => by rw [e])]
def c65 : Ctr Try.prog := mkCtr 65 Try.f65 Try.func65 [] ann65 [(0, (.fz (.st 1)))] [] (.full 0) [(.lst 51 (.st 1))] (fun x _ => grd (okB (x.1.length * 32 ≤ reachBytes)) (some ((), x.1, ()))) (fun x _ r h => FO (run65 x.1) (ok65 x.1) h)
end
end Go.Abs


set_option linter.unusedVariables false
set_option linter.unusedSectionVars false
set_option linter.unusedSimpArgs false
set_option maxHeartbeats 1000000
namespace Go.Abs
open Go Go.Proofs
noncomputable section
def ann25 : Ann := (.seq .o (.seq (.x ⟨false, false, false, false, [], [], [0, 1, 3, 0, 8, 31, 0, 64, 255, 0, 512, 2047, 0, 4096, 16383, 14047, 65535, 131071, 262143, 524287, 1048575, 2097151, 4194303, 8388607, 16777215], (.fl 0 (.rd 1 (.fl 3 (.rd 4 (.fl 6 (.rd 7 (.fl 9 (.rd 10 (.fl 12 (.rd 13 (.on 2 (.fl 15 (.on 5 (.on 8 (.on 11 (.on 14 (.on 16 (.qu [17] (.on 18 (.qu [19] (.on 20 (.qu [21] (.on 22 (.qu [23] (.on 24 .nil)))))))))))))))))))))))))⟩) (.join ⟨[(1, (.ptr 0 0)), (2, (.ptr 1 0))], [(.cells 30 [.s, (.full 2), (.full 3), (.full 4), (.full 5), (.full 6)]), (.box 30 (.st 6)), (.lst 3 (.int .i64)), (.lst 53 (.st 4)), (.lst 55 (.st 5)), (.lst 3 (.int .i64)), (.lst 41 (.st 11))]⟩ (.seq .o (.block (.loop ⟨[(1, (.ptr 0 0)), (2, (.ptr 1 0)), (29, (.i .i64)), (30, (.i .i64))], [(.cells 30 [.s, (.full 2), (.full 3), (.full 4), (.full 5), (.full 6)]), (.box 30 (.st 6)), (.lst 3 (.int .i64)), (.lst 53 (.st 4)), (.lst 55 (.st 5)), (.lst 3 (.int .i64)), (.lst 41 (.st 11))]⟩ [((.exit 0), ⟨[(1, (.ptr 0 0)), (2, (.ptr 1 0))], [(.cells 30 [.s, (.full 2), (.full 3), (.full 4), (.full 5), (.full 6)]), (.box 30 (.st 6)), (.lst 3 (.int .i64)), (.lst 53 (.st 4)), (.lst 55 (.st 5)), (.lst 3 (.int .i64)), (.lst 41 (.st 11))]⟩)] (.seq .o (.join ⟨[(1, (.ptr 0 0)), (2, (.ptr 1 0)), (29, (.i .i64)), (30, (.i .i64))], [(.cells 30 [.s, (.full 2), (.full 3), (.full 4), (.full 5), (.full 6)]), (.box 30 (.st 6)), (.lst 3 (.int .i64)), (.lst 53 (.st 4)), (.lst 55 (.st 5)), (.lst 3 (.int .i64)), (.lst 41 (.st 11))]⟩ (.cond .o .o) (.join ⟨[(1, (.ptr 0 0)), (2, (.ptr 1 0)), (29, (.i .i64)), (30, (.i .i64))], [(.cells 30 [.s, (.full 2), (.full 3), (.full 4), (.full 5), (.full 6)]), (.box 30 (.st 6)), (.lst 3 (.int .i64)), (.lst 53 (.st 4)), (.lst 55 (.st 5)), (.lst 3 (.int .i64)), (.lst 41 (.st 11))]⟩ (.block (.seq .o (.seq .o (.seq (.x ⟨false, false, false, false, [], [], [0, 0, 0, 4, 12, 28, 60, 0, 128, 384, 896, 2044, 4093, 8189, 16381, 32767, 65535, 131071], (.fl 0 (.fl 1 (.fl 2 (.fl 3 (.fl 4 (.rd 5 (.fl 7 (.fl 8 (.fl 9 (.rd 10 (.on 6 (.on 11 (.qu [12, 13] (.on 14 (.qu [15, 16] (.on 17 .nil))))))))))))))))⟩) (.join ⟨[(1, (.ptr 0 0)), (2, (.ptr 1 0)), (4, (.rptr 2 0)), (29, (.i .i64)), (30, (.i .i64))], [(.cells 30 [.s, (.full 3), (.full 4), (.full 5), (.full 6), (.full 2)]), (.box 30 (.st 6)), (.lst 41 (.st 11)), (.lst 3 (.int .i64)), (.lst 53 (.st 4)), (.lst 55 (.st 5)), (.lst 3 (.int .i64))]⟩ (.seq (.x ⟨false, false, false, false, [36], [], [], .no⟩) (.block (.loop ⟨[(1, (.ptr 0 0)), (2, (.ptr 1 0)), (4, (.rptr 2 0)), (29, (.i .i64)), (30, (.i .i64)), (57, (.i .i64)), (58, (.i .i64))], [(.cells 30 [.s, (.full 3), (.full 4), (.full 5), (.full 6), (.full 2)]), (.box 30 (.st 6)), (.lst 41 (.st 11)), (.lst 3 (.int .i64)), (.lst 53 (.st 4)), (.lst 55 (.st 5)), (.lst 3 (.int .i64))]⟩ [((.exit 2), ⟨[(1, (.ptr 0 0)), (2, (.ptr 1 0)), (4, (.rptr 2 0)), (29, (.i .i64)), (30, (.i .i64))], [(.cells 30 [.s, (.full 3), (.full 4), (.full 5), (.full 6), (.full 2)]), (.box 30 (.st 6)), (.lst 41 (.st 11)), (.lst 3 (.int .i64)), (.lst 53 (.st 4)), (.lst 55 (.st 5)), (.lst 3 (.int .i64))]⟩)] (.seq .o (.join ⟨[(1, (.ptr 0 0)), (2, (.ptr 1 0)), (4, (.rptr 2 0)), (29, (.i .i64)), (30, (.i .i64)), (57, (.i .i64)), (58, (.i .i64))], [(.cells 30 [.s, (.full 3), (.full 4), (.full 5), (.full 6), (.full 2)]), (.box 30 (.st 6)), (.lst 41 (.st 11)), (.lst 3 (.int .i64)), (.lst 53 (.st 4)), (.lst 55 (.st 5)), (.lst 3 (.int .i64))]⟩ (.cond .o .o) (.join ⟨[(1, (.ptr 0 0)), (2, (.ptr 1 0)), (4, (.rptr 2 0)), (29, (.i .i64)), (30, (.i .i64)), (57, (.i .i64)), (58, (.i .i64))], [(.cells 30 [.s, (.full 3), (.full 4), (.full 5), (.full 6), (.full 2)]), (.box 30 (.st 6)), (.lst 41 (.st 11)), (.lst 3 (.int .i64)), (.lst 53 (.st 4)), (.lst 55 (.st 5)), (.lst 3 (.int .i64))]⟩ (.block (.seq .o (.x ⟨false, false, false, false, [36], [], [0, 1, 3, 7, 0, 0, 32, 96, 224, 0, 992, 2016, 4064, 8160, 16383, 32767, 65535], (.fl 0 (.fl 1 (.fl 2 (.rd 3 (.fl 4 (.qu [5, 6, 7, 8, 9, 10, 11, 12] (.on 13 (.qu [14, 15] (.on 16 .nil)))))))))⟩))) .o)))))) (.seq (.x ⟨false, false, false, false, [], [], [0, 0, 0, 4, 12, 28, 60, 124, 0, 256, 768, 1792, 3840, 8188, 16381, 32765, 65533, 131069, 262143, 524287, 1048575, 2097151], (.fl 0 (.fl 1 (.fl 2 (.fl 3 (.fl 4 (.fl 5 (.rd 6 (.fl 8 (.fl 9 (.fl 10 (.fl 11 (.rd 12 (.on 7 (.on 13 (.qu [14, 15, 16] (.on 17 (.qu [18, 19, 20] (.on 21 .nil))))))))))))))))))⟩) (.seq (.x ⟨false, false, false, false, [37], [], [], .no⟩) (.block (.loop ⟨[(1, (.ptr 0 0)), (2, (.ptr 1 0)), (4, (.rptr 2 0)), (29, (.i .i64)), (30, (.i .i64)), (103, (.i .i64)), (104, (.i .i64))], [(.cells 30 [.s, (.full 3), (.full 4), (.full 5), (.full 6), (.full 2)]), (.box 30 (.st 6)), (.lst 41 (.st 11)), (.lst 3 (.int .i64)), (.lst 53 (.st 4)), (.lst 55 (.st 5)), (.lst 3 (.int .i64))]⟩ [((.exit 4), ⟨[(1, (.ptr 0 0)), (2, (.ptr 1 0)), (29, (.i .i64)), (30, (.i .i64))], [(.cells 30 [.s, (.full 2), (.full 3), (.full 4), (.full 5), (.full 6)]), (.box 30 (.st 6)), (.lst 3 (.int .i64)), (.lst 53 (.st 4)), (.lst 55 (.st 5)), (.lst 3 (.int .i64)), (.lst 41 (.st 11))]⟩)] (.seq .o (.join ⟨[(1, (.ptr 0 0)), (2, (.ptr 1 0)), (4, (.rptr 2 0)), (29, (.i .i64)), (30, (.i .i64)), (103, (.i .i64)), (104, (.i .i64))], [(.cells 30 [.s, (.full 3), (.full 4), (.full 5), (.full 6), (.full 2)]), (.box 30 (.st 6)), (.lst 41 (.st 11)), (.lst 3 (.int .i64)), (.lst 53 (.st 4)), (.lst 55 (.st 5)), (.lst 3 (.int .i64))]⟩ (.cond .o .o) (.join ⟨[(1, (.ptr 0 0)), (2, (.ptr 1 0)), (4, (.rptr 2 0)), (29, (.i .i64)), (30, (.i .i64)), (103, (.i .i64)), (104, (.i .i64))], [(.cells 30 [.s, (.full 3), (.full 4), (.full 5), (.full 6), (.full 2)]), (.box 30 (.st 6)), (.lst 41 (.st 11)), (.lst 3 (.int .i64)), (.lst 53 (.st 4)), (.lst 55 (.st 5)), (.lst 3 (.int .i64))]⟩ (.block (.seq .o (.x ⟨false, false, false, false, [37], [], [0, 1, 3, 7, 15, 0, 0, 64, 192, 448, 960, 0, 4032, 8128, 16320, 32704, 65535, 131071, 262143], (.fl 0 (.fl 1 (.fl 2 (.fl 3 (.rd 4 (.fl 5 (.qu [6, 7, 8, 9, 10, 11, 12, 13, 14] (.on 15 (.qu [16, 17] (.on 18 .nil))))))))))⟩))) .o)))))))))))) .o)))))) (.seq .o .o))))
def go25_l3 : ((Unit × (Unit × (Nat × (Int × (Int × (Int × (Int × Unit))))))) × ((ByteArray × (Unit × (Unit × (Unit × (Unit × (Unit × Unit)))))) × (Fn × ((List BlockM) × ((List Int) × ((List Arr) × ((List Strm) × ((List Int) × Unit)))))))) → Option (((Unit × (Unit × (Nat × (Int × (Int × (Int × (Int × Unit))))))) × ((ByteArray × (Unit × (Unit × (Unit × (Unit × (Unit × Unit)))))) × (Fn × ((List BlockM) × ((List Int) × ((List Arr) × ((List Strm) × ((List Int) × Unit)))))))) ⊕ ((Unit × (Unit × (Int × (Int × Unit)))) × ((ByteArray × (Unit × (Unit × (Unit × (Unit × (Unit × Unit)))))) × (Fn × ((List Int) × ((List Arr) × ((List Strm) × ((List Int) × ((List BlockM) × Unit))))))))) := (fun (r10 : ((Unit × (Unit × (Nat × (Int × (Int × (Int × (Int × Unit))))))) × ((ByteArray × (Unit × (Unit × (Unit × (Unit × (Unit × Unit)))))) × (Fn × ((List BlockM) × ((List Int) × ((List Arr) × ((List Strm) × ((List Int) × Unit))))))))) => (bif (decide (r10.1.2.2.2.2.2.2.1 < r10.1.2.2.2.2.2.1)) then
      (grd (Nat.blt r10.1.2.2.1 r10.2.2.2.1.length)
        (callB (@Sp.ownL EdgeM Edge (r10.2.2.2.1.getD r10.1.2.2.1 BlockM.z).term.to)
          (fun (z3 : (List EdgeM)) => (grd (Nat.blt r10.1.2.2.1 r10.2.2.2.1.length)
              (callB (@Sp.ownL EdgeM Edge (r10.2.2.2.1.getD r10.1.2.2.1 BlockM.z).term.to)
                (fun (z4 : (List EdgeM)) => (callB (@Sp.ownL EdgeM Edge (r10.2.2.2.1.getD r10.1.2.2.1 BlockM.z).term.to)
                    (fun (l10 : (List EdgeM)) => (grd (okB (((0 : Int) ≤ r10.1.2.2.2.2.2.2.1) ∧ (r10.1.2.2.2.2.2.2.1 < ((l10.length : Nat) : Int))))
                        (callB (@Sp.ownL EdgeM Edge (r10.2.2.2.1.getD r10.1.2.2.1 BlockM.z).term.to)
                          (fun (l11 : (List EdgeM)) => (callB (@Sp.ownL EdgeM Edge (r10.2.2.2.1.getD r10.1.2.2.1 BlockM.z).term.to)
                              (fun (l12 : (List EdgeM)) => (grd (Nat.blt r10.1.2.2.2.2.2.2.1.toNat l12.length)
                                  (callB (@Sp.frzL Int Int (l12.getD r10.1.2.2.2.2.2.2.1.toNat EdgeM.z).args)
                                    (fun (l13 : (List Int)) => (callB (grd (okB ((l13.length * (8 : Nat)) ≤ Go.reachBytes))
                                          (some ((), (l13, ()))))
                                        (fun (r11 : (Unit × ((List Int) × Unit))) => (callB (@Sp.ownL EdgeM Edge (r10.2.2.2.1.getD r10.1.2.2.1 BlockM.z).term.to)
                                            (fun (l14 : (List EdgeM)) => (grd (okB (((0 : Int) ≤ r10.1.2.2.2.2.2.2.1) ∧ (r10.1.2.2.2.2.2.2.1 < ((l14.length : Nat) : Int))))
                                                (callB (@Sp.ownL EdgeM Edge (r10.2.2.2.1.getD r10.1.2.2.1 BlockM.z).term.to)
                                                  (fun (l15 : (List EdgeM)) => (callB (@Sp.ownL EdgeM Edge (r10.2.2.2.1.getD r10.1.2.2.1 BlockM.z).term.to)
                                                      (fun (l16 : (List EdgeM)) => (grd (Nat.blt r10.1.2.2.2.2.2.2.1.toNat l16.length)
                                                          (shO (r10.2.2.2.1.set r10.1.2.2.1 (BlockM.mk (r10.2.2.2.1.getD r10.1.2.2.1 BlockM.z).params (r10.2.2.2.1.getD r10.1.2.2.1 BlockM.z).insts (TermM.mk (r10.2.2.2.1.getD r10.1.2.2.1 BlockM.z).term.kind (r10.2.2.2.1.getD r10.1.2.2.1 BlockM.z).term.cond (@Ow.own EdgeM Edge (l16.set r10.1.2.2.2.2.2.2.1.toNat (EdgeM.mk (l16.getD r10.1.2.2.2.2.2.2.1.toNat EdgeM.z).block (@Ow.own Int Int r11.2.1)))) (r10.2.2.2.1.getD r10.1.2.2.1 BlockM.z).term.rets) (r10.2.2.2.1.getD r10.1.2.2.1 BlockM.z).pipeline (r10.2.2.2.1.getD r10.1.2.2.1 BlockM.z).unroll (r10.2.2.2.1.getD r10.1.2.2.1 BlockM.z).line))
                                                            (fun (l17 : (List BlockM)) => (grd (okB (((-(9223372036854775808 : Int)) ≤ (r10.1.2.2.2.2.2.2.1 + (1 : Int))) ∧ ((r10.1.2.2.2.2.2.2.1 + (1 : Int)) ≤ (9223372036854775807 : Int))))
                                                                (some (Sum.inl (((), ((), (r10.1.2.2.1, (r10.1.2.2.2.1, (r10.1.2.2.2.2.1, (r10.1.2.2.2.2.2.1, ((r10.1.2.2.2.2.2.2.1 + (1 : Int)), ()))))))), ((r10.2.1.1, ((), ((), ((), ((), ((), ())))))), (r10.2.2.1, (l17, (r10.2.2.2.2.1, (r10.2.2.2.2.2.1, (r10.2.2.2.2.2.2.1, (r10.2.2.2.2.2.2.2.1, ())))))))))))))))))))))))))))))))))))))))
      else
      (some (Sum.inr (((), ((), (r10.1.2.2.2.1, (r10.1.2.2.2.2.1, ())))), ((r10.2.1.1, ((), ((), ((), ((), ((), ())))))), (r10.2.2.1, (r10.2.2.2.2.1, (r10.2.2.2.2.2.1, (r10.2.2.2.2.2.2.1, (r10.2.2.2.2.2.2.2.1, (r10.2.2.2.1, ()))))))))))))
def go25_l2 : ((Unit × (Unit × (Nat × (Int × (Int × (Int × (Int × Unit))))))) × ((ByteArray × (Unit × (Unit × (Unit × (Unit × (Unit × Unit)))))) × (Fn × ((List BlockM) × ((List Int) × ((List Arr) × ((List Strm) × ((List Int) × Unit)))))))) → Option (((Unit × (Unit × (Nat × (Int × (Int × (Int × (Int × Unit))))))) × ((ByteArray × (Unit × (Unit × (Unit × (Unit × (Unit × Unit)))))) × (Fn × ((List BlockM) × ((List Int) × ((List Arr) × ((List Strm) × ((List Int) × Unit)))))))) ⊕ ((Unit × (Unit × (Nat × (Int × (Int × Unit))))) × ((ByteArray × (Unit × (Unit × (Unit × (Unit × (Unit × Unit)))))) × (Fn × ((List BlockM) × ((List Int) × ((List Arr) × ((List Strm) × ((List Int) × Unit))))))))) := (fun (r8 : ((Unit × (Unit × (Nat × (Int × (Int × (Int × (Int × Unit))))))) × ((ByteArray × (Unit × (Unit × (Unit × (Unit × (Unit × Unit)))))) × (Fn × ((List BlockM) × ((List Int) × ((List Arr) × ((List Strm) × ((List Int) × Unit))))))))) => (bif (decide (r8.1.2.2.2.2.2.2.1 < r8.1.2.2.2.2.2.1)) then
      (grd (Nat.blt r8.1.2.2.1 r8.2.2.2.1.length)
        (callB (@Sp.ownL InstM Inst (r8.2.2.2.1.getD r8.1.2.2.1 BlockM.z).insts)
          (fun (z1 : (List InstM)) => (grd (Nat.blt r8.1.2.2.1 r8.2.2.2.1.length)
              (callB (@Sp.ownL InstM Inst (r8.2.2.2.1.getD r8.1.2.2.1 BlockM.z).insts)
                (fun (z2 : (List InstM)) => (callB (@Sp.ownL InstM Inst (r8.2.2.2.1.getD r8.1.2.2.1 BlockM.z).insts)
                    (fun (l5 : (List InstM)) => (grd (okB (((0 : Int) ≤ r8.1.2.2.2.2.2.2.1) ∧ (r8.1.2.2.2.2.2.2.1 < ((l5.length : Nat) : Int))))
                        (callB (@Sp.ownL InstM Inst (r8.2.2.2.1.getD r8.1.2.2.1 BlockM.z).insts)
                          (fun (l6 : (List InstM)) => (callB (@Sp.ownL InstM Inst (r8.2.2.2.1.getD r8.1.2.2.1 BlockM.z).insts)
                              (fun (l7 : (List InstM)) => (grd (Nat.blt r8.1.2.2.2.2.2.2.1.toNat l7.length)
                                  (callB (@Sp.frzL Int Int (l7.getD r8.1.2.2.2.2.2.2.1.toNat InstM.z).args)
                                    (fun (l8 : (List Int)) => (callB (grd (okB ((l8.length * (8 : Nat)) ≤ Go.reachBytes))
                                          (some ((), (l8, ()))))
                                        (fun (r9 : (Unit × ((List Int) × Unit))) => (callB (@Sp.ownL InstM Inst (r8.2.2.2.1.getD r8.1.2.2.1 BlockM.z).insts)
                                            (fun (l9 : (List InstM)) => (grd (okB (((0 : Int) ≤ r8.1.2.2.2.2.2.2.1) ∧ (r8.1.2.2.2.2.2.2.1 < ((l9.length : Nat) : Int))))
                                                (callB (@Sp.ownL InstM Inst (r8.2.2.2.1.getD r8.1.2.2.1 BlockM.z).insts)
                                                  (fun (l10 : (List InstM)) => (callB (@Sp.ownL InstM Inst (r8.2.2.2.1.getD r8.1.2.2.1 BlockM.z).insts)
                                                      (fun (l11 : (List InstM)) => (grd (Nat.blt r8.1.2.2.2.2.2.2.1.toNat l11.length)
                                                          (shO (r8.2.2.2.1.set r8.1.2.2.1 (BlockM.mk (r8.2.2.2.1.getD r8.1.2.2.1 BlockM.z).params (@Ow.own InstM Inst (l11.set r8.1.2.2.2.2.2.2.1.toNat (InstM.mk (l11.getD r8.1.2.2.2.2.2.2.1.toNat InstM.z).op (l11.getD r8.1.2.2.2.2.2.2.1.toNat InstM.z).dest (@Ow.own Int Int r9.2.1) (l11.getD r8.1.2.2.2.2.2.2.1.toNat InstM.z).num (l11.getD r8.1.2.2.2.2.2.2.1.toNat InstM.z).mem))) (r8.2.2.2.1.getD r8.1.2.2.1 BlockM.z).term (r8.2.2.2.1.getD r8.1.2.2.1 BlockM.z).pipeline (r8.2.2.2.1.getD r8.1.2.2.1 BlockM.z).unroll (r8.2.2.2.1.getD r8.1.2.2.1 BlockM.z).line))
                                                            (fun (l12 : (List BlockM)) => (grd (okB (((-(9223372036854775808 : Int)) ≤ (r8.1.2.2.2.2.2.2.1 + (1 : Int))) ∧ ((r8.1.2.2.2.2.2.2.1 + (1 : Int)) ≤ (9223372036854775807 : Int))))
                                                                (some (Sum.inl (((), ((), (r8.1.2.2.1, (r8.1.2.2.2.1, (r8.1.2.2.2.2.1, (r8.1.2.2.2.2.2.1, ((r8.1.2.2.2.2.2.2.1 + (1 : Int)), ()))))))), ((r8.2.1.1, ((), ((), ((), ((), ((), ())))))), (r8.2.2.1, (l12, (r8.2.2.2.2.1, (r8.2.2.2.2.2.1, (r8.2.2.2.2.2.2.1, (r8.2.2.2.2.2.2.2.1, ())))))))))))))))))))))))))))))))))))))))
      else
      (some (Sum.inr (((), ((), (r8.1.2.2.1, (r8.1.2.2.2.1, (r8.1.2.2.2.2.1, ()))))), ((r8.2.1.1, ((), ((), ((), ((), ((), ())))))), (r8.2.2.1, (r8.2.2.2.1, (r8.2.2.2.2.1, (r8.2.2.2.2.2.1, (r8.2.2.2.2.2.2.1, (r8.2.2.2.2.2.2.2.1, ()))))))))))))
def go25_l1 : ((Unit × (Unit × (Int × (Int × Unit)))) × ((ByteArray × (Unit × (Unit × (Unit × (Unit × (Unit × Unit)))))) × (Fn × ((List Int) × ((List Arr) × ((List Strm) × ((List Int) × ((List BlockM) × Unit)))))))) → Option (((Unit × (Unit × (Int × (Int × Unit)))) × ((ByteArray × (Unit × (Unit × (Unit × (Unit × (Unit × Unit)))))) × (Fn × ((List Int) × ((List Arr) × ((List Strm) × ((List Int) × ((List BlockM) × Unit)))))))) ⊕ ((Unit × (Unit × Unit)) × ((ByteArray × (Unit × (Unit × (Unit × (Unit × (Unit × Unit)))))) × (Fn × ((List Int) × ((List Arr) × ((List Strm) × ((List Int) × ((List BlockM) × Unit))))))))) := (fun (r5 : ((Unit × (Unit × (Int × (Int × Unit)))) × ((ByteArray × (Unit × (Unit × (Unit × (Unit × (Unit × Unit)))))) × (Fn × ((List Int) × ((List Arr) × ((List Strm) × ((List Int) × ((List BlockM) × Unit))))))))) => (bif (decide (r5.1.2.2.2.1 < r5.1.2.2.1)) then
      (grd (okB (((0 : Int) ≤ r5.1.2.2.2.1) ∧ (r5.1.2.2.2.1 < ((r5.2.2.2.2.2.2.2.1.length : Nat) : Int))))
        (grd (Nat.blt r5.1.2.2.2.1.toNat r5.2.2.2.2.2.2.2.1.length)
          (callB (@Sp.frzL Int Int (r5.2.2.2.2.2.2.2.1.getD r5.1.2.2.2.1.toNat BlockM.z).params)
            (fun (l0 : (List Int)) => (grd (Nat.blt r5.1.2.2.2.1.toNat r5.2.2.2.2.2.2.2.1.length)
                (callB (@Sp.frzL InstM Inst (r5.2.2.2.2.2.2.2.1.getD r5.1.2.2.2.1.toNat BlockM.z).insts)
                  (fun (l1 : (List Inst)) => (callB (grd (okB ((l0.length * (8 : Nat)) ≤ Go.reachBytes))
                        (some ((), (l0, ()))))
                      (fun (r6 : (Unit × ((List Int) × Unit))) => (callB (grd (okB ((l1.length * (56 : Nat)) ≤ Go.reachBytes))
                            (some ((), (l1, ()))))
                          (fun (r7 : (Unit × ((List Inst) × Unit))) => (grd (Nat.blt r5.1.2.2.2.1.toNat r5.2.2.2.2.2.2.2.1.length)
                              (shO (r5.2.2.2.2.2.2.2.1.set r5.1.2.2.2.1.toNat (BlockM.mk (@Ow.own Int Int r6.2.1) (r5.2.2.2.2.2.2.2.1.getD r5.1.2.2.2.1.toNat BlockM.z).insts (r5.2.2.2.2.2.2.2.1.getD r5.1.2.2.2.1.toNat BlockM.z).term (r5.2.2.2.2.2.2.2.1.getD r5.1.2.2.2.1.toNat BlockM.z).pipeline (r5.2.2.2.2.2.2.2.1.getD r5.1.2.2.2.1.toNat BlockM.z).unroll (r5.2.2.2.2.2.2.2.1.getD r5.1.2.2.2.1.toNat BlockM.z).line))
                                (fun (l2 : (List BlockM)) => (grd (Nat.blt r5.1.2.2.2.1.toNat l2.length)
                                    (shO (l2.set r5.1.2.2.2.1.toNat (BlockM.mk (l2.getD r5.1.2.2.2.1.toNat BlockM.z).params (@Ow.own InstM Inst (@List.map Inst InstM InstM.up r7.2.1)) (l2.getD r5.1.2.2.2.1.toNat BlockM.z).term (l2.getD r5.1.2.2.2.1.toNat BlockM.z).pipeline (l2.getD r5.1.2.2.2.1.toNat BlockM.z).unroll (l2.getD r5.1.2.2.2.1.toNat BlockM.z).line))
                                      (fun (l3 : (List BlockM)) => (grd (Nat.blt r5.1.2.2.2.1.toNat l3.length)
                                          (callB (@Sp.ownL InstM Inst (l3.getD r5.1.2.2.2.1.toNat BlockM.z).insts)
                                            (fun (z0 : (List InstM)) => (callB (@Sp.ownL InstM Inst (l3.getD r5.1.2.2.2.1.toNat BlockM.z).insts)
                                                (fun (l4 : (List InstM)) => (callB (whileO (go25_l2) (((), ((), (r5.1.2.2.2.1.toNat, (r5.1.2.2.1, (r5.1.2.2.2.1, (((l4.length : Nat) : Int), ((0 : Int), ()))))))), ((r5.2.1.1, ((), ((), ((), ((), ((), ())))))), (r5.2.2.1, (l3, (r5.2.2.2.1, (r5.2.2.2.2.1, (r5.2.2.2.2.2.1, (r5.2.2.2.2.2.2.1, ())))))))))
                                                    (fun (z1 : ((Unit × (Unit × (Nat × (Int × (Int × Unit))))) × ((ByteArray × (Unit × (Unit × (Unit × (Unit × (Unit × Unit)))))) × (Fn × ((List BlockM) × ((List Int) × ((List Arr) × ((List Strm) × ((List Int) × Unit))))))))) => (grd (Nat.blt z1.1.2.2.1 z1.2.2.2.1.length)
                                                        (callB (@Sp.frzL EdgeM Edge (z1.2.2.2.1.getD z1.1.2.2.1 BlockM.z).term.to)
                                                          (fun (l5 : (List Edge)) => (grd (Nat.blt z1.1.2.2.1 z1.2.2.2.1.length)
                                                              (callB (@Sp.frzL Int Int (z1.2.2.2.1.getD z1.1.2.2.1 BlockM.z).term.rets)
                                                                (fun (l6 : (List Int)) => (callB (grd (okB ((l5.length * (32 : Nat)) ≤ Go.reachBytes))
                                                                      (some ((), (l5, ()))))
                                                                    (fun (r8 : (Unit × ((List Edge) × Unit))) => (callB (grd (okB ((l6.length * (8 : Nat)) ≤ Go.reachBytes))
                                                                          (some ((), (l6, ()))))
                                                                        (fun (r9 : (Unit × ((List Int) × Unit))) => (grd (Nat.blt z1.1.2.2.1 z1.2.2.2.1.length)
                                                                            (shO (z1.2.2.2.1.set z1.1.2.2.1 (BlockM.mk (z1.2.2.2.1.getD z1.1.2.2.1 BlockM.z).params (z1.2.2.2.1.getD z1.1.2.2.1 BlockM.z).insts (TermM.mk (z1.2.2.2.1.getD z1.1.2.2.1 BlockM.z).term.kind (z1.2.2.2.1.getD z1.1.2.2.1 BlockM.z).term.cond (@Ow.own EdgeM Edge (@List.map Edge EdgeM EdgeM.up r8.2.1)) (z1.2.2.2.1.getD z1.1.2.2.1 BlockM.z).term.rets) (z1.2.2.2.1.getD z1.1.2.2.1 BlockM.z).pipeline (z1.2.2.2.1.getD z1.1.2.2.1 BlockM.z).unroll (z1.2.2.2.1.getD z1.1.2.2.1 BlockM.z).line))
                                                                              (fun (l7 : (List BlockM)) => (grd (Nat.blt z1.1.2.2.1 l7.length)
                                                                                  (shO (l7.set z1.1.2.2.1 (BlockM.mk (l7.getD z1.1.2.2.1 BlockM.z).params (l7.getD z1.1.2.2.1 BlockM.z).insts (TermM.mk (l7.getD z1.1.2.2.1 BlockM.z).term.kind (l7.getD z1.1.2.2.1 BlockM.z).term.cond (l7.getD z1.1.2.2.1 BlockM.z).term.to (@Ow.own Int Int r9.2.1)) (l7.getD z1.1.2.2.1 BlockM.z).pipeline (l7.getD z1.1.2.2.1 BlockM.z).unroll (l7.getD z1.1.2.2.1 BlockM.z).line))
                                                                                    (fun (l8 : (List BlockM)) => (grd (Nat.blt z1.1.2.2.1 l8.length)
                                                                                        (callB (@Sp.ownL EdgeM Edge (l8.getD z1.1.2.2.1 BlockM.z).term.to)
                                                                                          (fun (z2 : (List EdgeM)) => (callB (@Sp.ownL EdgeM Edge (l8.getD z1.1.2.2.1 BlockM.z).term.to)
                                                                                              (fun (l9 : (List EdgeM)) => (callB (whileO (go25_l3) (((), ((), (z1.1.2.2.1, (z1.1.2.2.2.1, (z1.1.2.2.2.2.1, (((l9.length : Nat) : Int), ((0 : Int), ()))))))), ((z1.2.1.1, ((), ((), ((), ((), ((), ())))))), (z1.2.2.1, (l8, (z1.2.2.2.2.1, (z1.2.2.2.2.2.1, (z1.2.2.2.2.2.2.1, (z1.2.2.2.2.2.2.2.1, ())))))))))
                                                                                                  (fun (z3 : ((Unit × (Unit × (Int × (Int × Unit)))) × ((ByteArray × (Unit × (Unit × (Unit × (Unit × (Unit × Unit)))))) × (Fn × ((List Int) × ((List Arr) × ((List Strm) × ((List Int) × ((List BlockM) × Unit))))))))) => (grd (okB (((-(9223372036854775808 : Int)) ≤ (z3.1.2.2.2.1 + (1 : Int))) ∧ ((z3.1.2.2.2.1 + (1 : Int)) ≤ (9223372036854775807 : Int))))
                                                                                                      (some (Sum.inl (((), ((), (z3.1.2.2.1, ((z3.1.2.2.2.1 + (1 : Int)), ())))), ((z3.2.1.1, ((), ((), ((), ((), ((), ())))))), (z3.2.2.1, (z3.2.2.2.1, (z3.2.2.2.2.1, (z3.2.2.2.2.2.1, (z3.2.2.2.2.2.2.1, (z3.2.2.2.2.2.2.2.1, ()))))))))))))))))))))))))))))))))))))))))))))))))))))))))))
      else
      (some (Sum.inr (((), ((), ())), ((r5.2.1.1, ((), ((), ((), ((), ((), ())))))), (r5.2.2.1, (r5.2.2.2.1, (r5.2.2.2.2.1, (r5.2.2.2.2.2.1, (r5.2.2.2.2.2.2.1, (r5.2.2.2.2.2.2.2.1, ()))))))))))))
def go25 (x0 : Fn) : (Option ((ByteArray × (Unit × (Unit × (Unit × (Unit × (Unit × Unit)))))) × ((List Int) × ((List Arr) × ((List Strm) × ((List Int) × ((List BlockM) × Unit))))))) :=
  (callB (grd (okB ((x0.widths.length * (8 : Nat)) ≤ Go.reachBytes))
      (some ((), (x0.widths, ()))))
    (fun (r0 : (Unit × ((List Int) × Unit))) => (callB (grd (okB ((x0.arrays.length * (48 : Nat)) ≤ Go.reachBytes))
          (some ((), (x0.arrays, ()))))
        (fun (r1 : (Unit × ((List Arr) × Unit))) => (callB (grd (okB ((x0.streams.length * (32 : Nat)) ≤ Go.reachBytes))
              (some ((), (x0.streams, ()))))
            (fun (r2 : (Unit × ((List Strm) × Unit))) => (callB (grd (okB ((x0.rets.length * (8 : Nat)) ≤ Go.reachBytes))
                  (some ((), (x0.rets, ()))))
                (fun (r3 : (Unit × ((List Int) × Unit))) => (callB (grd (okB ((x0.blocks.length * (136 : Nat)) ≤ Go.reachBytes))
                      (some ((), (x0.blocks, ()))))
                    (fun (r4 : (Unit × ((List Block) × Unit))) => (callB (whileO (go25_l1) (((), ((), (((r4.2.1.length : Nat) : Int), ((0 : Int), ())))), ((x0.name, ((), ((), ((), ((), ((), ())))))), (Fn.z, (r0.2.1, (r1.2.1, (r2.2.1, (r3.2.1, ((@List.map Block BlockM BlockM.up r4.2.1), ())))))))))
                        (fun (z0 : ((Unit × (Unit × Unit)) × ((ByteArray × (Unit × (Unit × (Unit × (Unit × (Unit × Unit)))))) × (Fn × ((List Int) × ((List Arr) × ((List Strm) × ((List Int) × ((List BlockM) × Unit))))))))) => (some ((z0.2.1.1, ((), ((), ((), ((), ((), ())))))), (z0.2.2.2.1, (z0.2.2.2.2.1, (z0.2.2.2.2.2.1, (z0.2.2.2.2.2.2.1, (z0.2.2.2.2.2.2.2.1, ())))))))))))))))))))
theorem run25 (x0 : Fn) : runF (P := Try.prog) [c60, c61, c62, c63, c64, c65] Try.f25 ann25 [(0, (.st 6))] [] (.agg [.s, (.full 0), (.full 1), (.full 2), (.full 3), (.full 4)]) [(.lst 3 (.int .i64)), (.lst 53 (.st 4)), (.lst 55 (.st 5)), (.lst 3 (.int .i64)), (.lst 41 (.st 11))] (x0, ()) () = go25 x0 := by kernel_rfl
section
variable {α β : Type}
def pre (f g : α → β) (l : List α) (i : Nat) : List β := (l.take i).map f ++ (l.drop i).map g
theorem pre_len (f g : α → β) (l : List α) (i : Nat) : (pre f g l i).length = l.length := by simp [pre]; omega
theorem pre_0 (f g : α → β) (l : List α) : pre f g l 0 = l.map g := by simp [pre]
theorem pre_end (f g : α → β) (l : List α) : pre f g l l.length = l.map f := by simp [pre]
theorem pre_get (f g : α → β) {l : List α} {i : Nat} (h : i < l.length) (z : β) (z0 : α) : (pre f g l i).getD i z = g (l.getD i z0) := by
  simp [pre, List.getD_eq_getElem?_getD, List.getElem?_append, h, Nat.min_eq_left (Nat.le_of_lt h)]
theorem pre_set (f g : α → β) {l : List α} {i : Nat} (h : i < l.length) (z0 : α) : (pre f g l i).set i (f (l.getD i z0)) = pre f g l (i + 1) := by
  refine List.ext_getElem? fun j => ?_
  simp only [pre, List.getElem?_set, List.length_append, List.length_map, List.length_take, List.length_drop, List.getElem?_append, List.getElem?_map, List.getElem?_take, List.getElem?_drop]
  by_cases hj : i = j
  · subst hj
    have e1 : i < min i l.length + (l.length - i) := by omega
    have e2 : i < min (i + 1) l.length := by omega
    simp [e1, e2, List.getD_eq_getElem?_getD, h]
  · rw [if_neg hj]
    by_cases h1 : j < i
    · have e1 : j < min i l.length := by omega
      have e2 : j < min (i + 1) l.length := by omega
      have e3 : j < i + 1 := by omega
      simp [e1, e2, e3, h1]
    · have e1 : ¬ j < min i l.length := by omega
      have e2 : ¬ j < min (i + 1) l.length := by omega
      have e4 : i + (j - min i l.length) = i + 1 + (j - min (i + 1) l.length) := by omega
      simp [e1, e2, e4]
theorem set_get {l : List β} {i : Nat} (h : i < l.length) (y z : β) : (l.set i y).getD i z = y := getD_set_self h
end
def Sp.cloneI (x : Inst) : InstM := ⟨x.op, x.dest, .own x.args, x.num, x.mem⟩
def Sp.cloneE (x : Edge) : EdgeM := ⟨x.block, .own x.args⟩
def Sp.cloneB (b : Block) : BlockM := ⟨.own b.params, .own (b.insts.map Sp.cloneI), ⟨b.term.kind, b.term.cond, .own (b.term.to.map Sp.cloneE), .own b.term.rets⟩, b.pipeline, b.unroll, b.line⟩
theorem all_at' {α : Type} {by_ : Nat} {ok : α → Prop} {l : List α} (h : All by_ ok l) (z : α) {i : Nat} (hi : i < l.length) : ok (l.getD i z) := getD_ok h z hi
theorem loop252 (nm : ByteArray) (fn : Fn) (w : List Int) (a : List Arr) (s : List Strm) (r : List Int) (B : List BlockM) (i : Nat) (hi : i < B.length) (ps : Ow Int Int) (is : List Inst) (h : All 56 Inst.ok is) (t : TermM) (pi un li ln ix : Int) :
    whileO go25_l2 (((), (), (i, ln, ix, ((is.length : Nat) : Int), (0 : Int), ())), ((nm, (), (), (), (), (), ()), fn, B.set i ⟨ps, .own (is.map InstM.up), t, pi, un, li⟩, w, a, s, r, ())) =
      some (((), (), (i, ln, ix, ())), ((nm, (), (), (), (), (), ()), fn, B.set i ⟨ps, .own (is.map Sp.cloneI), t, pi, un, li⟩, w, a, s, r, ())) := by
  have hx := h.len
  rw [lenVal] at hx
  unfold go25_l2
  refine whileO_to (st := fun k => (((), (), (i, ln, ix, ((is.length : Nat) : Int), (k : Int), ())), ((nm, (), (), (), (), (), ()), fn, B.set i ⟨ps, .own (pre Sp.cloneI InstM.up is k), t, pi, un, li⟩, w, a, s, r, ()))) (by simp only [pre_0]; rfl) is.length (fun k hk => ?_) ?_
  · have hg : Inst.ok (is.getD k Inst.z) := all_at' h _ hk
    have hl := hg.2.2.1.1
    have hs : i < (B.set i ⟨ps, .own (pre Sp.cloneI InstM.up is k), t, pi, un, li⟩).length := by simpa using hi
    have e1 : (pre Sp.cloneI InstM.up is k).getD k InstM.z = InstM.up (is.getD k Inst.z) := pre_get _ _ hk _ _
    have e2 : k < (pre Sp.cloneI InstM.up is k).length := by rw [pre_len]; exact hk
    simp only [grd_blt hs, set_get hi, Sp.ownL, callB_some, Int.toNat_natCast, grd_blt e2, e1, InstM.up, Sp.frzL, grd_ok hl, List.set_set, shO_eq, pre_len]
    simp (maxSteps := 1000000) (disch := ((try dsimp only); omega)) only [↓grd_dec, ↓grd_blt, ↓grd_true, ↓jpO_eq, ↓shO_eq, ↓callB_some, ↓callB_grd, ↓bif_decide, ↓sumO_inl, ↓sumO_inr, ↓if_pos, ↓if_neg, ↓cond_true, ↓cond_false, ↓bif_not, Int.toNat_natCast, Bool.not_true, Bool.not_false, decide_true, decide_false, Bool.false_eq_true, ↓if_true, ↓if_false, Int.natCast_add, Int.cast_ofNat_Int, Bool.not_eq_true', decide_eq_false_iff_not, not_true_eq_false, not_false_eq_true]
    have e3 := pre_set Sp.cloneI InstM.up hk Inst.z
    simp only [Sp.cloneI] at e3
    simp only [Sp.cloneI, e3]
  · simp (maxSteps := 1000000) (disch := ((try dsimp only); omega)) only [↓grd_dec, ↓grd_blt, ↓grd_true, ↓jpO_eq, ↓shO_eq, ↓callB_some, ↓callB_grd, ↓bif_decide, ↓sumO_inl, ↓sumO_inr, ↓if_pos, ↓if_neg, ↓cond_true, ↓cond_false, ↓bif_not, Int.toNat_natCast, Bool.not_true, Bool.not_false, decide_true, decide_false, Bool.false_eq_true, ↓if_true, ↓if_false, Int.natCast_add, Int.cast_ofNat_Int, Bool.not_eq_true', decide_eq_false_iff_not, not_true_eq_false, not_false_eq_true]
    simp only [pre_end]
theorem loop253 (nm : ByteArray) (fn : Fn) (w : List Int) (a : List Arr) (s : List Strm) (r : List Int) (B : List BlockM) (i : Nat) (hi : i < B.length) (ps : Ow Int Int) (is : Ow InstM Inst) (kd cd : Int) (to : List Edge) (h : All 32 Edge.ok to) (rt : Ow Int Int) (pi un li ln ix : Int) :
    whileO go25_l3 (((), (), (i, ln, ix, ((to.length : Nat) : Int), (0 : Int), ())), ((nm, (), (), (), (), (), ()), fn, B.set i ⟨ps, is, ⟨kd, cd, .own (to.map EdgeM.up), rt⟩, pi, un, li⟩, w, a, s, r, ())) =
      some (((), (), (ln, ix, ())), ((nm, (), (), (), (), (), ()), fn, w, a, s, r, B.set i ⟨ps, is, ⟨kd, cd, .own (to.map Sp.cloneE), rt⟩, pi, un, li⟩, ())) := by
  have hx := h.len
  rw [lenVal] at hx
  unfold go25_l3
  refine whileO_to (st := fun k => (((), (), (i, ln, ix, ((to.length : Nat) : Int), (k : Int), ())), ((nm, (), (), (), (), (), ()), fn, B.set i ⟨ps, is, ⟨kd, cd, .own (pre Sp.cloneE EdgeM.up to k), rt⟩, pi, un, li⟩, w, a, s, r, ()))) (by simp only [pre_0]; rfl) to.length (fun k hk => ?_) ?_
  · have hg : Edge.ok (to.getD k Edge.z) := all_at' h _ hk
    have hl := hg.2.1
    have hs : i < (B.set i ⟨ps, is, ⟨kd, cd, .own (pre Sp.cloneE EdgeM.up to k), rt⟩, pi, un, li⟩).length := by simpa using hi
    have e1 : (pre Sp.cloneE EdgeM.up to k).getD k EdgeM.z = EdgeM.up (to.getD k Edge.z) := pre_get _ _ hk _ _
    have e2 : k < (pre Sp.cloneE EdgeM.up to k).length := by rw [pre_len]; exact hk
    simp only [grd_blt hs, set_get hi, Sp.ownL, callB_some, Int.toNat_natCast, grd_blt e2, e1, EdgeM.up, Sp.frzL, grd_ok hl, List.set_set, shO_eq, pre_len]
    simp (maxSteps := 1000000) (disch := ((try dsimp only); omega)) only [↓grd_dec, ↓grd_blt, ↓grd_true, ↓jpO_eq, ↓shO_eq, ↓callB_some, ↓callB_grd, ↓bif_decide, ↓sumO_inl, ↓sumO_inr, ↓if_pos, ↓if_neg, ↓cond_true, ↓cond_false, ↓bif_not, Int.toNat_natCast, Bool.not_true, Bool.not_false, decide_true, decide_false, Bool.false_eq_true, ↓if_true, ↓if_false, Int.natCast_add, Int.cast_ofNat_Int, Bool.not_eq_true', decide_eq_false_iff_not, not_true_eq_false, not_false_eq_true]
    have e3 := pre_set Sp.cloneE EdgeM.up hk Edge.z
    simp only [Sp.cloneE] at e3
    simp only [Sp.cloneE, e3]
  · simp (maxSteps := 1000000) (disch := ((try dsimp only); omega)) only [↓grd_dec, ↓grd_blt, ↓grd_true, ↓jpO_eq, ↓shO_eq, ↓callB_some, ↓callB_grd, ↓bif_decide, ↓sumO_inl, ↓sumO_inr, ↓if_pos, ↓if_neg, ↓cond_true, ↓cond_false, ↓bif_not, Int.toNat_natCast, Bool.not_true, Bool.not_false, decide_true, decide_false, Bool.false_eq_true, ↓if_true, ↓if_false, Int.natCast_add, Int.cast_ofNat_Int, Bool.not_eq_true', decide_eq_false_iff_not, not_true_eq_false, not_false_eq_true]
    simp only [pre_end]
theorem loop251 (nm : ByteArray) (fn : Fn) (w : List Int) (a : List Arr) (s : List Strm) (r : List Int) (bs : List Block) (h : All 136 Block.ok bs) :
    whileO go25_l1 (((), (), (((bs.length : Nat) : Int), (0 : Int), ())), ((nm, (), (), (), (), (), ()), fn, w, a, s, r, bs.map BlockM.up, ())) = some (((), (), ()), ((nm, (), (), (), (), (), ()), fn, w, a, s, r, bs.map Sp.cloneB, ())) := by
  have hx := h.len
  rw [lenVal] at hx
  unfold go25_l1
  refine whileO_to (st := fun k => (((), (), (((bs.length : Nat) : Int), (k : Int), ())), ((nm, (), (), (), (), (), ()), fn, w, a, s, r, pre Sp.cloneB BlockM.up bs k, ()))) (by simp only [pre_0]; rfl) bs.length (fun k hk => ?_) ?_
  · have hg : Block.ok (bs.getD k Block.z) := all_at' h _ hk
    obtain ⟨h1, h2, ⟨_, _, h3, h4⟩, _⟩ := hg
    have e1 : (pre Sp.cloneB BlockM.up bs k).getD k BlockM.z = BlockM.up (bs.getD k Block.z) := pre_get _ _ hk _ _
    have e2 : k < (pre Sp.cloneB BlockM.up bs k).length := by rw [pre_len]; exact hk
    have e3 : ∀ y : BlockM, k < ((pre Sp.cloneB BlockM.up bs k).set k y).length := fun y => by simpa using e2
    have m1 : ∀ is : List Inst, (((is.map InstM.up).length : Nat) : Int) = ((is.length : Nat) : Int) := fun is => by simp
    have m2 : ∀ is : List Edge, (((is.map EdgeM.up).length : Nat) : Int) = ((is.length : Nat) : Int) := fun is => by simp
    simp only [Int.toNat_natCast, grd_blt e2, e1, BlockM.up, Sp.frzL, callB_some, grd_ok h1.1, grd_ok h2.1, shO_eq, grd_blt (e3 _), set_get e2, List.set_set, Sp.ownL, pre_len, m1, m2,
      loop252 _ _ _ _ _ _ _ _ e2 _ _ h2, grd_ok h3.1, grd_ok h4.1, loop253 _ _ _ _ _ _ _ _ e2 _ _ _ _ _ h3]
    simp (maxSteps := 1000000) (disch := ((try dsimp only); omega)) only [↓grd_dec, ↓grd_blt, ↓grd_true, ↓jpO_eq, ↓shO_eq, ↓callB_some, ↓callB_grd, ↓bif_decide, ↓sumO_inl, ↓sumO_inr, ↓if_pos, ↓if_neg, ↓cond_true, ↓cond_false, ↓bif_not, Int.toNat_natCast, Bool.not_true, Bool.not_false, decide_true, decide_false, Bool.false_eq_true, ↓if_true, ↓if_false, Int.natCast_add, Int.cast_ofNat_Int, Bool.not_eq_true', decide_eq_false_iff_not, not_true_eq_false, not_false_eq_true]
    have e4 := pre_set Sp.cloneB BlockM.up hk Block.z
    simp only [Sp.cloneB] at e4
    simp only [Sp.cloneB, e4]
  · simp (maxSteps := 1000000) (disch := ((try dsimp only); omega)) only [↓grd_dec, ↓grd_blt, ↓grd_true, ↓jpO_eq, ↓shO_eq, ↓callB_some, ↓callB_grd, ↓bif_decide, ↓sumO_inl, ↓sumO_inr, ↓if_pos, ↓if_neg, ↓cond_true, ↓cond_false, ↓bif_not, Int.toNat_natCast, Bool.not_true, Bool.not_false, decide_true, decide_false, Bool.false_eq_true, ↓if_true, ↓if_false, Int.natCast_add, Int.cast_ofNat_Int, Bool.not_eq_true', decide_eq_false_iff_not, not_true_eq_false, not_false_eq_true]
    simp only [pre_end]
theorem ok25 (x : Fn) (h : x.ok) : go25 x = some ((x.name, (), (), (), (), (), ()), x.widths, x.arrays, x.streams, x.rets, x.blocks.map Sp.cloneB, ()) := by
  obtain ⟨_, h1, h2, h3, h4, h5⟩ := h
  unfold go25
  simp only [grd_ok h1.1, grd_ok h2.1, grd_ok h3.1, grd_ok h4.1, grd_ok h5.1, callB_some, loop251 _ _ _ _ _ _ _ h5]
def c25 : Ctr Try.prog := mkCtr 25 Try.f25 Try.func25 [c60, c61, c62, c63, c64, c65] ann25 [(0, (.st 6))] [] (.agg [.s, .full 0, .full 1, .full 2, .full 3, .full 4]) [(.lst 3 (.int .i64)), (.lst 53 (.st 4)), (.lst 55 (.st 5)), (.lst 3 (.int .i64)), (.lst 41 (.st 11))]
  (fun x _ => grd (okB (Fn.ok x.1)) (some ((x.1.name, (), (), (), (), (), ()), x.1.widths, x.1.arrays, x.1.streams, x.1.rets, x.1.blocks.map Sp.cloneB, ()))) (fun x _ r h => FO (run25 x.1) (ok25 x.1) h)
end
end Go.Abs

