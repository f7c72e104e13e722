/-
The structs of the program as Lean data: how their cells are read, written and made. Written by gensu3.py.
No statement of the program is proved here.
-/
import Derived.Test.YtlcholjffgaemaaG1
set_option linter.unusedVariables false
set_option linter.unusedSectionVars false
set_option linter.unusedSimpArgs false
namespace Go.Abs
open Go

structure Typ where
  width : Int
  signed : Bool
deriving DecidableEq
def Typ.z : Typ := ⟨0, false⟩
def Typ.e (x : Typ) : Nat → T
  | 0 => .int .i64 x.width
  | 1 => .bool x.signed
  | _ => .any
def Typ.v (x : Typ) : V := .agg 2 (fun j => .t (x.e j))
def Fn.z : Fn := ⟨ByteArray.empty, [], [], [], [], []⟩

@[reducible] def suD : Nat → Type
  | 0 => Inst
  | 1 => Edge
  | 2 => Term
  | 3 => Block
  | 4 => Arr
  | 5 => Strm
  | 6 => Fn
  | 7 => Typ
  | _ => Unit
def suZ : (i : Nat) → suD i
  | 0 => Inst.z
  | 1 => Edge.z
  | 2 => Term.z
  | 3 => Block.z
  | 4 => Arr.z
  | 5 => Strm.z
  | 6 => Fn.z
  | 7 => Typ.z
  | _ + 8 => ()
def suSz : Nat → Nat
  | 0 => 5
  | 1 => 2
  | 2 => 4
  | 3 => 9
  | 4 => 5
  | 5 => 3
  | 6 => 6
  | 7 => 2
  | _ => 0
def suEnc : (i : Nat) → suD i → Nat → T
  | 0, x => Inst.e x
  | 1, x => Edge.e x
  | 2, x => Term.e x
  | 3, x => Block.e x
  | 4, x => Arr.e x
  | 5, x => Strm.e x
  | 6, x => Fn.e x
  | 7, x => Typ.e x
  | _ + 8, _ => fun _ => .any
instance : SU := ⟨suD, suZ, suSz, suEnc⟩

/-- A cell that is no struct. -/
def set0 : (τ : Ty) → EV → Option τ.D
  | .bool, .b y => some y
  | .int k, .i k' n => bif kindEq k k' then some n else none
  | .str, .s y => some y
  | .sl e, .fz e' l => castF List e' e l
  | .sl e, .nils => some []
  | _, _ => none
def cell0 : (τ : Ty) → τ.D → EV
  | .bool, x => .b x
  | .int k, x => .i k x
  | .str, x => .s x
  | .sl e, l => .fz e l
  | .st i, x => .un
  | .ol _ _, x => .un
theorem set0_ok {τ : Ty} {v : EV} {y : τ.D} (h : set0 τ v = some y) : ∀ len, Wk (toV len v) (toV len (cell0 τ y)) := fun len => by
  cases τ with
  | bool => cases v <;> simp only [set0] at h <;> first | (cases h; done) | (injection h with h; subst h; exact Wk.refl _)
  | int k =>
    cases v <;> simp only [set0] at h <;> try (cases h; done)
    rename_i k' n
    cases hk : kindEq k k' with
    | false => rw [hk] at h; cases h
    | true =>
      have := kindEq_eq hk
      subst this
      rw [hk] at h
      simp only [cond_true] at h
      injection h with h; subst h; exact Wk.refl _
  | str => cases v <;> simp only [set0] at h <;> first | (cases h; done) | (injection h with h; subst h; exact Wk.refl _)
  | st i => simp only [cell0, toV]; exact Wk.un _
  | ol _ _ => simp only [cell0, toV]; exact Wk.un _
  | sl e =>
    cases v <;> simp only [set0] at h <;> try (cases h; done)
    · obtain ⟨rfl, h⟩ := castL_ok h
      obtain rfl := eq_of_heq h
      exact Wk.refl _
    · injection h with h; subst h
      simp only [cell0, toV, encL]
      exact Wk.nils _ _

def Inst.c (x : Inst) : Nat → EV
  | 0 => .i .i64 (x.op)
  | 1 => .i .i64 (x.dest)
  | 2 => .fz (.int .i64) (x.args)
  | 3 => .i .u64 (x.num)
  | 4 => .i .i64 (x.mem)
  | _ => .un
def Inst.s (x : Inst) (j : Nat) (v : EV) : Option Inst := match j with
  | 0 => match set0 (.int .i64) v with
    | some y => some { x with op := y }
    | none => none
  | 1 => match set0 (.int .i64) v with
    | some y => some { x with dest := y }
    | none => none
  | 2 => match set0 (.sl (.int .i64)) v with
    | some y => some { x with args := y }
    | none => none
  | 3 => match set0 (.int .u64) v with
    | some y => some { x with num := y }
    | none => none
  | 4 => match set0 (.int .i64) v with
    | some y => some { x with mem := y }
    | none => none
  | _ => none
def Inst.m : List EV → Option Inst
  | [a0, a1, a2, a3, a4] => match set0 (.int .i64) a0, set0 (.int .i64) a1, set0 (.sl (.int .i64)) a2, set0 (.int .u64) a3, set0 (.int .i64) a4 with
    | some y0, some y1, some y2, some y3, some y4 => some ⟨y0, y1, y2, y3, y4⟩
    | _, _, _, _, _ => none
  | _ => none
theorem Inst.c_ok (x : Inst) (len : Len) : ∀ j, j < 5 → toV len (Inst.c x j) = .t (Inst.e x j)
  | 0, _ => by simp only [Inst.c, toV]; rfl
  | 1, _ => by simp only [Inst.c, toV]; rfl
  | 2, _ => by simp only [Inst.c, toV]; rfl
  | 3, _ => by simp only [Inst.c, toV]; rfl
  | 4, _ => by simp only [Inst.c, toV]; rfl
  | n + 5, h => absurd h (by omega)
theorem Inst.c_dat (x : Inst) : ∀ j, (Inst.c x j).dat = true
  | 0 => rfl
  | 1 => rfl
  | 2 => rfl
  | 3 => rfl
  | 4 => rfl
  | n + 5 => rfl
theorem Inst.s_ok (x : Inst) (j : Nat) (v : EV) (y : Inst) (h : Inst.s x j v = some y) : (∀ len, Wk (toV len v) (toV len (Inst.c y j))) ∧ ∀ j', j' ≠ j → Inst.c y j' = Inst.c x j' := by
  match j with
  | 0 =>
    simp only [Inst.s] at h
    split at h
    · rename_i a ha
      injection h with h
      subst h
      refine ⟨set0_ok ha, fun j' hj => ?_⟩
      match j', hj with
      | 0, hj => exact absurd rfl hj
      | 1, hj => exact rfl
      | 2, hj => exact rfl
      | 3, hj => exact rfl
      | 4, hj => exact rfl
      | n + 5, _ => rfl
    · cases h
  | 1 =>
    simp only [Inst.s] at h
    split at h
    · rename_i a ha
      injection h with h
      subst h
      refine ⟨set0_ok ha, fun j' hj => ?_⟩
      match j', hj with
      | 0, hj => exact rfl
      | 1, hj => exact absurd rfl hj
      | 2, hj => exact rfl
      | 3, hj => exact rfl
      | 4, hj => exact rfl
      | n + 5, _ => rfl
    · cases h
  | 2 =>
    simp only [Inst.s] at h
    split at h
    · rename_i a ha
      injection h with h
      subst h
      refine ⟨set0_ok ha, fun j' hj => ?_⟩
      match j', hj with
      | 0, hj => exact rfl
      | 1, hj => exact rfl
      | 2, hj => exact absurd rfl hj
      | 3, hj => exact rfl
      | 4, hj => exact rfl
      | n + 5, _ => rfl
    · cases h
  | 3 =>
    simp only [Inst.s] at h
    split at h
    · rename_i a ha
      injection h with h
      subst h
      refine ⟨set0_ok ha, fun j' hj => ?_⟩
      match j', hj with
      | 0, hj => exact rfl
      | 1, hj => exact rfl
      | 2, hj => exact rfl
      | 3, hj => exact absurd rfl hj
      | 4, hj => exact rfl
      | n + 5, _ => rfl
    · cases h
  | 4 =>
    simp only [Inst.s] at h
    split at h
    · rename_i a ha
      injection h with h
      subst h
      refine ⟨set0_ok ha, fun j' hj => ?_⟩
      match j', hj with
      | 0, hj => exact rfl
      | 1, hj => exact rfl
      | 2, hj => exact rfl
      | 3, hj => exact rfl
      | 4, hj => exact absurd rfl hj
      | n + 5, _ => rfl
    · cases h
  | n + 5 => simp [Inst.s] at h
theorem Inst.m_ok (l : List EV) (y : Inst) (h : Inst.m l = some y) : l.length = 5 ∧ ∀ j, j < 5 → ∀ len, Wk (toVs len l j) (toV len (Inst.c y j)) := by
  unfold Inst.m at h
  split at h
  · split at h
    · rename_i h0 h1 h2 h3 h4
      injection h with h
      subst h
      refine ⟨rfl, fun j hj len => ?_⟩
      match j, hj with
      | 0, _ => simp only [toVs]; exact set0_ok h0 len
      | 1, _ => simp only [toVs]; exact set0_ok h1 len
      | 2, _ => simp only [toVs]; exact set0_ok h2 len
      | 3, _ => simp only [toVs]; exact set0_ok h3 len
      | 4, _ => simp only [toVs]; exact set0_ok h4 len
      | n + 5, h => exact absurd h (by omega)
    · cases h
  · cases h
def Edge.c (x : Edge) : Nat → EV
  | 0 => .i .i64 (x.block)
  | 1 => .fz (.int .i64) (x.args)
  | _ => .un
def Edge.s (x : Edge) (j : Nat) (v : EV) : Option Edge := match j with
  | 0 => match set0 (.int .i64) v with
    | some y => some { x with block := y }
    | none => none
  | 1 => match set0 (.sl (.int .i64)) v with
    | some y => some { x with args := y }
    | none => none
  | _ => none
def Edge.m : List EV → Option Edge
  | [a0, a1] => match set0 (.int .i64) a0, set0 (.sl (.int .i64)) a1 with
    | some y0, some y1 => some ⟨y0, y1⟩
    | _, _ => none
  | _ => none
theorem Edge.c_ok (x : Edge) (len : Len) : ∀ j, j < 2 → toV len (Edge.c x j) = .t (Edge.e x j)
  | 0, _ => by simp only [Edge.c, toV]; rfl
  | 1, _ => by simp only [Edge.c, toV]; rfl
  | n + 2, h => absurd h (by omega)
theorem Edge.c_dat (x : Edge) : ∀ j, (Edge.c x j).dat = true
  | 0 => rfl
  | 1 => rfl
  | n + 2 => rfl
theorem Edge.s_ok (x : Edge) (j : Nat) (v : EV) (y : Edge) (h : Edge.s x j v = some y) : (∀ len, Wk (toV len v) (toV len (Edge.c y j))) ∧ ∀ j', j' ≠ j → Edge.c y j' = Edge.c x j' := by
  match j with
  | 0 =>
    simp only [Edge.s] at h
    split at h
    · rename_i a ha
      injection h with h
      subst h
      refine ⟨set0_ok ha, fun j' hj => ?_⟩
      match j', hj with
      | 0, hj => exact absurd rfl hj
      | 1, hj => exact rfl
      | n + 2, _ => rfl
    · cases h
  | 1 =>
    simp only [Edge.s] at h
    split at h
    · rename_i a ha
      injection h with h
      subst h
      refine ⟨set0_ok ha, fun j' hj => ?_⟩
      match j', hj with
      | 0, hj => exact rfl
      | 1, hj => exact absurd rfl hj
      | n + 2, _ => rfl
    · cases h
  | n + 2 => simp [Edge.s] at h
theorem Edge.m_ok (l : List EV) (y : Edge) (h : Edge.m l = some y) : l.length = 2 ∧ ∀ j, j < 2 → ∀ len, Wk (toVs len l j) (toV len (Edge.c y j)) := by
  unfold Edge.m at h
  split at h
  · split at h
    · rename_i h0 h1
      injection h with h
      subst h
      refine ⟨rfl, fun j hj len => ?_⟩
      match j, hj with
      | 0, _ => simp only [toVs]; exact set0_ok h0 len
      | 1, _ => simp only [toVs]; exact set0_ok h1 len
      | n + 2, h => exact absurd h (by omega)
    · cases h
  · cases h
def Term.c (x : Term) : Nat → EV
  | 0 => .i .i64 (x.kind)
  | 1 => .i .i64 (x.cond)
  | 2 => .fz (.st 1) (x.to)
  | 3 => .fz (.int .i64) (x.rets)
  | _ => .un
def Term.s (x : Term) (j : Nat) (v : EV) : Option Term := match j with
  | 0 => match set0 (.int .i64) v with
    | some y => some { x with kind := y }
    | none => none
  | 1 => match set0 (.int .i64) v with
    | some y => some { x with cond := y }
    | none => none
  | 2 => match set0 (.sl (.st 1)) v with
    | some y => some { x with to := y }
    | none => none
  | 3 => match set0 (.sl (.int .i64)) v with
    | some y => some { x with rets := y }
    | none => none
  | _ => none
def Term.m : List EV → Option Term
  | [a0, a1, a2, a3] => match set0 (.int .i64) a0, set0 (.int .i64) a1, set0 (.sl (.st 1)) a2, set0 (.sl (.int .i64)) a3 with
    | some y0, some y1, some y2, some y3 => some ⟨y0, y1, y2, y3⟩
    | _, _, _, _ => none
  | _ => none
theorem Term.c_ok (x : Term) (len : Len) : ∀ j, j < 4 → toV len (Term.c x j) = .t (Term.e x j)
  | 0, _ => by simp only [Term.c, toV]; rfl
  | 1, _ => by simp only [Term.c, toV]; rfl
  | 2, _ => by simp only [Term.c, toV]; rfl
  | 3, _ => by simp only [Term.c, toV]; rfl
  | n + 4, h => absurd h (by omega)
theorem Term.c_dat (x : Term) : ∀ j, (Term.c x j).dat = true
  | 0 => rfl
  | 1 => rfl
  | 2 => rfl
  | 3 => rfl
  | n + 4 => rfl
theorem Term.s_ok (x : Term) (j : Nat) (v : EV) (y : Term) (h : Term.s x j v = some y) : (∀ len, Wk (toV len v) (toV len (Term.c y j))) ∧ ∀ j', j' ≠ j → Term.c y j' = Term.c x j' := by
  match j with
  | 0 =>
    simp only [Term.s] at h
    split at h
    · rename_i a ha
      injection h with h
      subst h
      refine ⟨set0_ok ha, fun j' hj => ?_⟩
      match j', hj with
      | 0, hj => exact absurd rfl hj
      | 1, hj => exact rfl
      | 2, hj => exact rfl
      | 3, hj => exact rfl
      | n + 4, _ => rfl
    · cases h
  | 1 =>
    simp only [Term.s] at h
    split at h
    · rename_i a ha
      injection h with h
      subst h
      refine ⟨set0_ok ha, fun j' hj => ?_⟩
      match j', hj with
      | 0, hj => exact rfl
      | 1, hj => exact absurd rfl hj
      | 2, hj => exact rfl
      | 3, hj => exact rfl
      | n + 4, _ => rfl
    · cases h
  | 2 =>
    simp only [Term.s] at h
    split at h
    · rename_i a ha
      injection h with h
      subst h
      refine ⟨set0_ok ha, fun j' hj => ?_⟩
      match j', hj with
      | 0, hj => exact rfl
      | 1, hj => exact rfl
      | 2, hj => exact absurd rfl hj
      | 3, hj => exact rfl
      | n + 4, _ => rfl
    · cases h
  | 3 =>
    simp only [Term.s] at h
    split at h
    · rename_i a ha
      injection h with h
      subst h
      refine ⟨set0_ok ha, fun j' hj => ?_⟩
      match j', hj with
      | 0, hj => exact rfl
      | 1, hj => exact rfl
      | 2, hj => exact rfl
      | 3, hj => exact absurd rfl hj
      | n + 4, _ => rfl
    · cases h
  | n + 4 => simp [Term.s] at h
theorem Term.m_ok (l : List EV) (y : Term) (h : Term.m l = some y) : l.length = 4 ∧ ∀ j, j < 4 → ∀ len, Wk (toVs len l j) (toV len (Term.c y j)) := by
  unfold Term.m at h
  split at h
  · split at h
    · rename_i h0 h1 h2 h3
      injection h with h
      subst h
      refine ⟨rfl, fun j hj len => ?_⟩
      match j, hj with
      | 0, _ => simp only [toVs]; exact set0_ok h0 len
      | 1, _ => simp only [toVs]; exact set0_ok h1 len
      | 2, _ => simp only [toVs]; exact set0_ok h2 len
      | 3, _ => simp only [toVs]; exact set0_ok h3 len
      | n + 4, h => exact absurd h (by omega)
    · cases h
  · cases h
def Block.c (x : Block) : Nat → EV
  | 0 => .fz (.int .i64) (x.params)
  | 1 => .fz (.st 0) (x.insts)
  | 2 => .i .i64 (x.term.kind)
  | 3 => .i .i64 (x.term.cond)
  | 4 => .fz (.st 1) (x.term.to)
  | 5 => .fz (.int .i64) (x.term.rets)
  | 6 => .i .i64 (x.pipeline)
  | 7 => .i .i64 (x.unroll)
  | 8 => .i .i64 (x.line)
  | _ => .un
def Block.s (x : Block) (j : Nat) (v : EV) : Option Block := match j with
  | 0 => match set0 (.sl (.int .i64)) v with
    | some y => some { x with params := y }
    | none => none
  | 1 => match set0 (.sl (.st 0)) v with
    | some y => some { x with insts := y }
    | none => none
  | 2 => match set0 (.int .i64) v with
    | some y => some { x with term := { x.term with kind := y } }
    | none => none
  | 3 => match set0 (.int .i64) v with
    | some y => some { x with term := { x.term with cond := y } }
    | none => none
  | 4 => match set0 (.sl (.st 1)) v with
    | some y => some { x with term := { x.term with to := y } }
    | none => none
  | 5 => match set0 (.sl (.int .i64)) v with
    | some y => some { x with term := { x.term with rets := y } }
    | none => none
  | 6 => match set0 (.int .i64) v with
    | some y => some { x with pipeline := y }
    | none => none
  | 7 => match set0 (.int .i64) v with
    | some y => some { x with unroll := y }
    | none => none
  | 8 => match set0 (.int .i64) v with
    | some y => some { x with line := y }
    | none => none
  | _ => none
def Block.m : List EV → Option Block
  | [a0, a1, a2, a3, a4, a5, a6, a7, a8] => match set0 (.sl (.int .i64)) a0, set0 (.sl (.st 0)) a1, set0 (.int .i64) a2, set0 (.int .i64) a3, set0 (.sl (.st 1)) a4, set0 (.sl (.int .i64)) a5, set0 (.int .i64) a6, set0 (.int .i64) a7, set0 (.int .i64) a8 with
    | some y0, some y1, some y2, some y3, some y4, some y5, some y6, some y7, some y8 => some ⟨y0, y1, ⟨y2, y3, y4, y5⟩, y6, y7, y8⟩
    | _, _, _, _, _, _, _, _, _ => none
  | _ => none
theorem Block.c_ok (x : Block) (len : Len) : ∀ j, j < 9 → toV len (Block.c x j) = .t (Block.e x j)
  | 0, _ => by simp only [Block.c, toV]; rfl
  | 1, _ => by simp only [Block.c, toV]; rfl
  | 2, _ => by simp only [Block.c, toV]; rfl
  | 3, _ => by simp only [Block.c, toV]; rfl
  | 4, _ => by simp only [Block.c, toV]; rfl
  | 5, _ => by simp only [Block.c, toV]; rfl
  | 6, _ => by simp only [Block.c, toV]; rfl
  | 7, _ => by simp only [Block.c, toV]; rfl
  | 8, _ => by simp only [Block.c, toV]; rfl
  | n + 9, h => absurd h (by omega)
theorem Block.c_dat (x : Block) : ∀ j, (Block.c x j).dat = true
  | 0 => rfl
  | 1 => rfl
  | 2 => rfl
  | 3 => rfl
  | 4 => rfl
  | 5 => rfl
  | 6 => rfl
  | 7 => rfl
  | 8 => rfl
  | n + 9 => rfl
theorem Block.s_ok (x : Block) (j : Nat) (v : EV) (y : Block) (h : Block.s x j v = some y) : (∀ len, Wk (toV len v) (toV len (Block.c y j))) ∧ ∀ j', j' ≠ j → Block.c y j' = Block.c x j' := by
  match j with
  | 0 =>
    simp only [Block.s] at h
    split at h
    · rename_i a ha
      injection h with h
      subst h
      refine ⟨set0_ok ha, fun j' hj => ?_⟩
      match j', hj with
      | 0, hj => exact absurd rfl hj
      | 1, hj => exact rfl
      | 2, hj => exact rfl
      | 3, hj => exact rfl
      | 4, hj => exact rfl
      | 5, hj => exact rfl
      | 6, hj => exact rfl
      | 7, hj => exact rfl
      | 8, hj => exact rfl
      | n + 9, _ => rfl
    · cases h
  | 1 =>
    simp only [Block.s] at h
    split at h
    · rename_i a ha
      injection h with h
      subst h
      refine ⟨set0_ok ha, fun j' hj => ?_⟩
      match j', hj with
      | 0, hj => exact rfl
      | 1, hj => exact absurd rfl hj
      | 2, hj => exact rfl
      | 3, hj => exact rfl
      | 4, hj => exact rfl
      | 5, hj => exact rfl
      | 6, hj => exact rfl
      | 7, hj => exact rfl
      | 8, hj => exact rfl
      | n + 9, _ => rfl
    · cases h
  | 2 =>
    simp only [Block.s] at h
    split at h
    · rename_i a ha
      injection h with h
      subst h
      refine ⟨set0_ok ha, fun j' hj => ?_⟩
      match j', hj with
      | 0, hj => exact rfl
      | 1, hj => exact rfl
      | 2, hj => exact absurd rfl hj
      | 3, hj => exact rfl
      | 4, hj => exact rfl
      | 5, hj => exact rfl
      | 6, hj => exact rfl
      | 7, hj => exact rfl
      | 8, hj => exact rfl
      | n + 9, _ => rfl
    · cases h
  | 3 =>
    simp only [Block.s] at h
    split at h
    · rename_i a ha
      injection h with h
      subst h
      refine ⟨set0_ok ha, fun j' hj => ?_⟩
      match j', hj with
      | 0, hj => exact rfl
      | 1, hj => exact rfl
      | 2, hj => exact rfl
      | 3, hj => exact absurd rfl hj
      | 4, hj => exact rfl
      | 5, hj => exact rfl
      | 6, hj => exact rfl
      | 7, hj => exact rfl
      | 8, hj => exact rfl
      | n + 9, _ => rfl
    · cases h
  | 4 =>
    simp only [Block.s] at h
    split at h
    · rename_i a ha
      injection h with h
      subst h
      refine ⟨set0_ok ha, fun j' hj => ?_⟩
      match j', hj with
      | 0, hj => exact rfl
      | 1, hj => exact rfl
      | 2, hj => exact rfl
      | 3, hj => exact rfl
      | 4, hj => exact absurd rfl hj
      | 5, hj => exact rfl
      | 6, hj => exact rfl
      | 7, hj => exact rfl
      | 8, hj => exact rfl
      | n + 9, _ => rfl
    · cases h
  | 5 =>
    simp only [Block.s] at h
    split at h
    · rename_i a ha
      injection h with h
      subst h
      refine ⟨set0_ok ha, fun j' hj => ?_⟩
      match j', hj with
      | 0, hj => exact rfl
      | 1, hj => exact rfl
      | 2, hj => exact rfl
      | 3, hj => exact rfl
      | 4, hj => exact rfl
      | 5, hj => exact absurd rfl hj
      | 6, hj => exact rfl
      | 7, hj => exact rfl
      | 8, hj => exact rfl
      | n + 9, _ => rfl
    · cases h
  | 6 =>
    simp only [Block.s] at h
    split at h
    · rename_i a ha
      injection h with h
      subst h
      refine ⟨set0_ok ha, fun j' hj => ?_⟩
      match j', hj with
      | 0, hj => exact rfl
      | 1, hj => exact rfl
      | 2, hj => exact rfl
      | 3, hj => exact rfl
      | 4, hj => exact rfl
      | 5, hj => exact rfl
      | 6, hj => exact absurd rfl hj
      | 7, hj => exact rfl
      | 8, hj => exact rfl
      | n + 9, _ => rfl
    · cases h
  | 7 =>
    simp only [Block.s] at h
    split at h
    · rename_i a ha
      injection h with h
      subst h
      refine ⟨set0_ok ha, fun j' hj => ?_⟩
      match j', hj with
      | 0, hj => exact rfl
      | 1, hj => exact rfl
      | 2, hj => exact rfl
      | 3, hj => exact rfl
      | 4, hj => exact rfl
      | 5, hj => exact rfl
      | 6, hj => exact rfl
      | 7, hj => exact absurd rfl hj
      | 8, hj => exact rfl
      | n + 9, _ => rfl
    · cases h
  | 8 =>
    simp only [Block.s] at h
    split at h
    · rename_i a ha
      injection h with h
      subst h
      refine ⟨set0_ok ha, fun j' hj => ?_⟩
      match j', hj with
      | 0, hj => exact rfl
      | 1, hj => exact rfl
      | 2, hj => exact rfl
      | 3, hj => exact rfl
      | 4, hj => exact rfl
      | 5, hj => exact rfl
      | 6, hj => exact rfl
      | 7, hj => exact rfl
      | 8, hj => exact absurd rfl hj
      | n + 9, _ => rfl
    · cases h
  | n + 9 => simp [Block.s] at h
theorem Block.m_ok (l : List EV) (y : Block) (h : Block.m l = some y) : l.length = 9 ∧ ∀ j, j < 9 → ∀ len, Wk (toVs len l j) (toV len (Block.c y j)) := by
  unfold Block.m at h
  split at h
  · split at h
    · rename_i h0 h1 h2 h3 h4 h5 h6 h7 h8
      injection h with h
      subst h
      refine ⟨rfl, fun j hj len => ?_⟩
      match j, hj with
      | 0, _ => simp only [toVs]; exact set0_ok h0 len
      | 1, _ => simp only [toVs]; exact set0_ok h1 len
      | 2, _ => simp only [toVs]; exact set0_ok h2 len
      | 3, _ => simp only [toVs]; exact set0_ok h3 len
      | 4, _ => simp only [toVs]; exact set0_ok h4 len
      | 5, _ => simp only [toVs]; exact set0_ok h5 len
      | 6, _ => simp only [toVs]; exact set0_ok h6 len
      | 7, _ => simp only [toVs]; exact set0_ok h7 len
      | 8, _ => simp only [toVs]; exact set0_ok h8 len
      | n + 9, h => exact absurd h (by omega)
    · cases h
  · cases h
def Arr.c (x : Arr) : Nat → EV
  | 0 => .s (x.name)
  | 1 => .i .i64 (x.width)
  | 2 => .i .i64 (x.len)
  | 3 => .i .i64 (x.kind)
  | 4 => .i .i64 (x.factor)
  | _ => .un
def Arr.s (x : Arr) (j : Nat) (v : EV) : Option Arr := match j with
  | 0 => match set0 (.str) v with
    | some y => some { x with name := y }
    | none => none
  | 1 => match set0 (.int .i64) v with
    | some y => some { x with width := y }
    | none => none
  | 2 => match set0 (.int .i64) v with
    | some y => some { x with len := y }
    | none => none
  | 3 => match set0 (.int .i64) v with
    | some y => some { x with kind := y }
    | none => none
  | 4 => match set0 (.int .i64) v with
    | some y => some { x with factor := y }
    | none => none
  | _ => none
def Arr.m : List EV → Option Arr
  | [a0, a1, a2, a3, a4] => match set0 (.str) a0, set0 (.int .i64) a1, set0 (.int .i64) a2, set0 (.int .i64) a3, set0 (.int .i64) a4 with
    | some y0, some y1, some y2, some y3, some y4 => some ⟨y0, y1, y2, y3, y4⟩
    | _, _, _, _, _ => none
  | _ => none
theorem Arr.c_ok (x : Arr) (len : Len) : ∀ j, j < 5 → toV len (Arr.c x j) = .t (Arr.e x j)
  | 0, _ => by simp only [Arr.c, toV]; rfl
  | 1, _ => by simp only [Arr.c, toV]; rfl
  | 2, _ => by simp only [Arr.c, toV]; rfl
  | 3, _ => by simp only [Arr.c, toV]; rfl
  | 4, _ => by simp only [Arr.c, toV]; rfl
  | n + 5, h => absurd h (by omega)
theorem Arr.c_dat (x : Arr) : ∀ j, (Arr.c x j).dat = true
  | 0 => rfl
  | 1 => rfl
  | 2 => rfl
  | 3 => rfl
  | 4 => rfl
  | n + 5 => rfl
theorem Arr.s_ok (x : Arr) (j : Nat) (v : EV) (y : Arr) (h : Arr.s x j v = some y) : (∀ len, Wk (toV len v) (toV len (Arr.c y j))) ∧ ∀ j', j' ≠ j → Arr.c y j' = Arr.c x j' := by
  match j with
  | 0 =>
    simp only [Arr.s] at h
    split at h
    · rename_i a ha
      injection h with h
      subst h
      refine ⟨set0_ok ha, fun j' hj => ?_⟩
      match j', hj with
      | 0, hj => exact absurd rfl hj
      | 1, hj => exact rfl
      | 2, hj => exact rfl
      | 3, hj => exact rfl
      | 4, hj => exact rfl
      | n + 5, _ => rfl
    · cases h
  | 1 =>
    simp only [Arr.s] at h
    split at h
    · rename_i a ha
      injection h with h
      subst h
      refine ⟨set0_ok ha, fun j' hj => ?_⟩
      match j', hj with
      | 0, hj => exact rfl
      | 1, hj => exact absurd rfl hj
      | 2, hj => exact rfl
      | 3, hj => exact rfl
      | 4, hj => exact rfl
      | n + 5, _ => rfl
    · cases h
  | 2 =>
    simp only [Arr.s] at h
    split at h
    · rename_i a ha
      injection h with h
      subst h
      refine ⟨set0_ok ha, fun j' hj => ?_⟩
      match j', hj with
      | 0, hj => exact rfl
      | 1, hj => exact rfl
      | 2, hj => exact absurd rfl hj
      | 3, hj => exact rfl
      | 4, hj => exact rfl
      | n + 5, _ => rfl
    · cases h
  | 3 =>
    simp only [Arr.s] at h
    split at h
    · rename_i a ha
      injection h with h
      subst h
      refine ⟨set0_ok ha, fun j' hj => ?_⟩
      match j', hj with
      | 0, hj => exact rfl
      | 1, hj => exact rfl
      | 2, hj => exact rfl
      | 3, hj => exact absurd rfl hj
      | 4, hj => exact rfl
      | n + 5, _ => rfl
    · cases h
  | 4 =>
    simp only [Arr.s] at h
    split at h
    · rename_i a ha
      injection h with h
      subst h
      refine ⟨set0_ok ha, fun j' hj => ?_⟩
      match j', hj with
      | 0, hj => exact rfl
      | 1, hj => exact rfl
      | 2, hj => exact rfl
      | 3, hj => exact rfl
      | 4, hj => exact absurd rfl hj
      | n + 5, _ => rfl
    · cases h
  | n + 5 => simp [Arr.s] at h
theorem Arr.m_ok (l : List EV) (y : Arr) (h : Arr.m l = some y) : l.length = 5 ∧ ∀ j, j < 5 → ∀ len, Wk (toVs len l j) (toV len (Arr.c y j)) := by
  unfold Arr.m at h
  split at h
  · split at h
    · rename_i h0 h1 h2 h3 h4
      injection h with h
      subst h
      refine ⟨rfl, fun j hj len => ?_⟩
      match j, hj with
      | 0, _ => simp only [toVs]; exact set0_ok h0 len
      | 1, _ => simp only [toVs]; exact set0_ok h1 len
      | 2, _ => simp only [toVs]; exact set0_ok h2 len
      | 3, _ => simp only [toVs]; exact set0_ok h3 len
      | 4, _ => simp only [toVs]; exact set0_ok h4 len
      | n + 5, h => exact absurd h (by omega)
    · cases h
  · cases h
def Strm.c (x : Strm) : Nat → EV
  | 0 => .s (x.name)
  | 1 => .i .i64 (x.width)
  | 2 => .b (x.out)
  | _ => .un
def Strm.s (x : Strm) (j : Nat) (v : EV) : Option Strm := match j with
  | 0 => match set0 (.str) v with
    | some y => some { x with name := y }
    | none => none
  | 1 => match set0 (.int .i64) v with
    | some y => some { x with width := y }
    | none => none
  | 2 => match set0 (.bool) v with
    | some y => some { x with out := y }
    | none => none
  | _ => none
def Strm.m : List EV → Option Strm
  | [a0, a1, a2] => match set0 (.str) a0, set0 (.int .i64) a1, set0 (.bool) a2 with
    | some y0, some y1, some y2 => some ⟨y0, y1, y2⟩
    | _, _, _ => none
  | _ => none
theorem Strm.c_ok (x : Strm) (len : Len) : ∀ j, j < 3 → toV len (Strm.c x j) = .t (Strm.e x j)
  | 0, _ => by simp only [Strm.c, toV]; rfl
  | 1, _ => by simp only [Strm.c, toV]; rfl
  | 2, _ => by simp only [Strm.c, toV]; rfl
  | n + 3, h => absurd h (by omega)
theorem Strm.c_dat (x : Strm) : ∀ j, (Strm.c x j).dat = true
  | 0 => rfl
  | 1 => rfl
  | 2 => rfl
  | n + 3 => rfl
theorem Strm.s_ok (x : Strm) (j : Nat) (v : EV) (y : Strm) (h : Strm.s x j v = some y) : (∀ len, Wk (toV len v) (toV len (Strm.c y j))) ∧ ∀ j', j' ≠ j → Strm.c y j' = Strm.c x j' := by
  match j with
  | 0 =>
    simp only [Strm.s] at h
    split at h
    · rename_i a ha
      injection h with h
      subst h
      refine ⟨set0_ok ha, fun j' hj => ?_⟩
      match j', hj with
      | 0, hj => exact absurd rfl hj
      | 1, hj => exact rfl
      | 2, hj => exact rfl
      | n + 3, _ => rfl
    · cases h
  | 1 =>
    simp only [Strm.s] at h
    split at h
    · rename_i a ha
      injection h with h
      subst h
      refine ⟨set0_ok ha, fun j' hj => ?_⟩
      match j', hj with
      | 0, hj => exact rfl
      | 1, hj => exact absurd rfl hj
      | 2, hj => exact rfl
      | n + 3, _ => rfl
    · cases h
  | 2 =>
    simp only [Strm.s] at h
    split at h
    · rename_i a ha
      injection h with h
      subst h
      refine ⟨set0_ok ha, fun j' hj => ?_⟩
      match j', hj with
      | 0, hj => exact rfl
      | 1, hj => exact rfl
      | 2, hj => exact absurd rfl hj
      | n + 3, _ => rfl
    · cases h
  | n + 3 => simp [Strm.s] at h
theorem Strm.m_ok (l : List EV) (y : Strm) (h : Strm.m l = some y) : l.length = 3 ∧ ∀ j, j < 3 → ∀ len, Wk (toVs len l j) (toV len (Strm.c y j)) := by
  unfold Strm.m at h
  split at h
  · split at h
    · rename_i h0 h1 h2
      injection h with h
      subst h
      refine ⟨rfl, fun j hj len => ?_⟩
      match j, hj with
      | 0, _ => simp only [toVs]; exact set0_ok h0 len
      | 1, _ => simp only [toVs]; exact set0_ok h1 len
      | 2, _ => simp only [toVs]; exact set0_ok h2 len
      | n + 3, h => exact absurd h (by omega)
    · cases h
  · cases h
def Fn.c (x : Fn) : Nat → EV
  | 0 => .s (x.name)
  | 1 => .fz (.int .i64) (x.widths)
  | 2 => .fz (.st 4) (x.arrays)
  | 3 => .fz (.st 5) (x.streams)
  | 4 => .fz (.int .i64) (x.rets)
  | 5 => .fz (.st 3) (x.blocks)
  | _ => .un
def Fn.s (x : Fn) (j : Nat) (v : EV) : Option Fn := match j with
  | 0 => match set0 (.str) v with
    | some y => some { x with name := y }
    | none => none
  | 1 => match set0 (.sl (.int .i64)) v with
    | some y => some { x with widths := y }
    | none => none
  | 2 => match set0 (.sl (.st 4)) v with
    | some y => some { x with arrays := y }
    | none => none
  | 3 => match set0 (.sl (.st 5)) v with
    | some y => some { x with streams := y }
    | none => none
  | 4 => match set0 (.sl (.int .i64)) v with
    | some y => some { x with rets := y }
    | none => none
  | 5 => match set0 (.sl (.st 3)) v with
    | some y => some { x with blocks := y }
    | none => none
  | _ => none
def Fn.m : List EV → Option Fn
  | [a0, a1, a2, a3, a4, a5] => match set0 (.str) a0, set0 (.sl (.int .i64)) a1, set0 (.sl (.st 4)) a2, set0 (.sl (.st 5)) a3, set0 (.sl (.int .i64)) a4, set0 (.sl (.st 3)) a5 with
    | some y0, some y1, some y2, some y3, some y4, some y5 => some ⟨y0, y1, y2, y3, y4, y5⟩
    | _, _, _, _, _, _ => none
  | _ => none
theorem Fn.c_ok (x : Fn) (len : Len) : ∀ j, j < 6 → toV len (Fn.c x j) = .t (Fn.e x j)
  | 0, _ => by simp only [Fn.c, toV]; rfl
  | 1, _ => by simp only [Fn.c, toV]; rfl
  | 2, _ => by simp only [Fn.c, toV]; rfl
  | 3, _ => by simp only [Fn.c, toV]; rfl
  | 4, _ => by simp only [Fn.c, toV]; rfl
  | 5, _ => by simp only [Fn.c, toV]; rfl
  | n + 6, h => absurd h (by omega)
theorem Fn.c_dat (x : Fn) : ∀ j, (Fn.c x j).dat = true
  | 0 => rfl
  | 1 => rfl
  | 2 => rfl
  | 3 => rfl
  | 4 => rfl
  | 5 => rfl
  | n + 6 => rfl
theorem Fn.s_ok (x : Fn) (j : Nat) (v : EV) (y : Fn) (h : Fn.s x j v = some y) : (∀ len, Wk (toV len v) (toV len (Fn.c y j))) ∧ ∀ j', j' ≠ j → Fn.c y j' = Fn.c x j' := by
  match j with
  | 0 =>
    simp only [Fn.s] at h
    split at h
    · rename_i a ha
      injection h with h
      subst h
      refine ⟨set0_ok ha, fun j' hj => ?_⟩
      match j', hj with
      | 0, hj => exact absurd rfl hj
      | 1, hj => exact rfl
      | 2, hj => exact rfl
      | 3, hj => exact rfl
      | 4, hj => exact rfl
      | 5, hj => exact rfl
      | n + 6, _ => rfl
    · cases h
  | 1 =>
    simp only [Fn.s] at h
    split at h
    · rename_i a ha
      injection h with h
      subst h
      refine ⟨set0_ok ha, fun j' hj => ?_⟩
      match j', hj with
      | 0, hj => exact rfl
      | 1, hj => exact absurd rfl hj
      | 2, hj => exact rfl
      | 3, hj => exact rfl
      | 4, hj => exact rfl
      | 5, hj => exact rfl
      | n + 6, _ => rfl
    · cases h
  | 2 =>
    simp only [Fn.s] at h
    split at h
    · rename_i a ha
      injection h with h
      subst h
      refine ⟨set0_ok ha, fun j' hj => ?_⟩
      match j', hj with
      | 0, hj => exact rfl
      | 1, hj => exact rfl
      | 2, hj => exact absurd rfl hj
      | 3, hj => exact rfl
      | 4, hj => exact rfl
      | 5, hj => exact rfl
      | n + 6, _ => rfl
    · cases h
  | 3 =>
    simp only [Fn.s] at h
    split at h
    · rename_i a ha
      injection h with h
      subst h
      refine ⟨set0_ok ha, fun j' hj => ?_⟩
      match j', hj with
      | 0, hj => exact rfl
      | 1, hj => exact rfl
      | 2, hj => exact rfl
      | 3, hj => exact absurd rfl hj
      | 4, hj => exact rfl
      | 5, hj => exact rfl
      | n + 6, _ => rfl
    · cases h
  | 4 =>
    simp only [Fn.s] at h
    split at h
    · rename_i a ha
      injection h with h
      subst h
      refine ⟨set0_ok ha, fun j' hj => ?_⟩
      match j', hj with
      | 0, hj => exact rfl
      | 1, hj => exact rfl
      | 2, hj => exact rfl
      | 3, hj => exact rfl
      | 4, hj => exact absurd rfl hj
      | 5, hj => exact rfl
      | n + 6, _ => rfl
    · cases h
  | 5 =>
    simp only [Fn.s] at h
    split at h
    · rename_i a ha
      injection h with h
      subst h
      refine ⟨set0_ok ha, fun j' hj => ?_⟩
      match j', hj with
      | 0, hj => exact rfl
      | 1, hj => exact rfl
      | 2, hj => exact rfl
      | 3, hj => exact rfl
      | 4, hj => exact rfl
      | 5, hj => exact absurd rfl hj
      | n + 6, _ => rfl
    · cases h
  | n + 6 => simp [Fn.s] at h
theorem Fn.m_ok (l : List EV) (y : Fn) (h : Fn.m l = some y) : l.length = 6 ∧ ∀ j, j < 6 → ∀ len, Wk (toVs len l j) (toV len (Fn.c y j)) := by
  unfold Fn.m at h
  split at h
  · split at h
    · rename_i h0 h1 h2 h3 h4 h5
      injection h with h
      subst h
      refine ⟨rfl, fun j hj len => ?_⟩
      match j, hj with
      | 0, _ => simp only [toVs]; exact set0_ok h0 len
      | 1, _ => simp only [toVs]; exact set0_ok h1 len
      | 2, _ => simp only [toVs]; exact set0_ok h2 len
      | 3, _ => simp only [toVs]; exact set0_ok h3 len
      | 4, _ => simp only [toVs]; exact set0_ok h4 len
      | 5, _ => simp only [toVs]; exact set0_ok h5 len
      | n + 6, h => exact absurd h (by omega)
    · cases h
  · cases h
def Typ.c (x : Typ) : Nat → EV
  | 0 => .i .i64 (x.width)
  | 1 => .b (x.signed)
  | _ => .un
def Typ.s (x : Typ) (j : Nat) (v : EV) : Option Typ := match j with
  | 0 => match set0 (.int .i64) v with
    | some y => some { x with width := y }
    | none => none
  | 1 => match set0 (.bool) v with
    | some y => some { x with signed := y }
    | none => none
  | _ => none
def Typ.m : List EV → Option Typ
  | [a0, a1] => match set0 (.int .i64) a0, set0 (.bool) a1 with
    | some y0, some y1 => some ⟨y0, y1⟩
    | _, _ => none
  | _ => none
theorem Typ.c_ok (x : Typ) (len : Len) : ∀ j, j < 2 → toV len (Typ.c x j) = .t (Typ.e x j)
  | 0, _ => by simp only [Typ.c, toV]; rfl
  | 1, _ => by simp only [Typ.c, toV]; rfl
  | n + 2, h => absurd h (by omega)
theorem Typ.c_dat (x : Typ) : ∀ j, (Typ.c x j).dat = true
  | 0 => rfl
  | 1 => rfl
  | n + 2 => rfl
theorem Typ.s_ok (x : Typ) (j : Nat) (v : EV) (y : Typ) (h : Typ.s x j v = some y) : (∀ len, Wk (toV len v) (toV len (Typ.c y j))) ∧ ∀ j', j' ≠ j → Typ.c y j' = Typ.c x j' := by
  match j with
  | 0 =>
    simp only [Typ.s] at h
    split at h
    · rename_i a ha
      injection h with h
      subst h
      refine ⟨set0_ok ha, fun j' hj => ?_⟩
      match j', hj with
      | 0, hj => exact absurd rfl hj
      | 1, hj => exact rfl
      | n + 2, _ => rfl
    · cases h
  | 1 =>
    simp only [Typ.s] at h
    split at h
    · rename_i a ha
      injection h with h
      subst h
      refine ⟨set0_ok ha, fun j' hj => ?_⟩
      match j', hj with
      | 0, hj => exact rfl
      | 1, hj => exact absurd rfl hj
      | n + 2, _ => rfl
    · cases h
  | n + 2 => simp [Typ.s] at h
theorem Typ.m_ok (l : List EV) (y : Typ) (h : Typ.m l = some y) : l.length = 2 ∧ ∀ j, j < 2 → ∀ len, Wk (toVs len l j) (toV len (Typ.c y j)) := by
  unfold Typ.m at h
  split at h
  · split at h
    · rename_i h0 h1
      injection h with h
      subst h
      refine ⟨rfl, fun j hj len => ?_⟩
      match j, hj with
      | 0, _ => simp only [toVs]; exact set0_ok h0 len
      | 1, _ => simp only [toVs]; exact set0_ok h1 len
      | n + 2, h => exact absurd h (by omega)
    · cases h
  · cases h

def suCell : (i : Nat) → suD i → Nat → Cell
  | 0, x => fun j => .ev (Inst.c x j)
  | 1, x => fun j => .ev (Edge.c x j)
  | 2, x => fun j => .ev (Term.c x j)
  | 3, x => fun j => .ev (Block.c x j)
  | 4, x => fun j => .ev (Arr.c x j)
  | 5, x => fun j => .ev (Strm.c x j)
  | 6, x => fun j => .ev (Fn.c x j)
  | 7, x => fun j => .ev (Typ.c x j)
  | _ + 8, _ => fun _ => .ev .un
def suSet : (i : Nat) → suD i → Nat → EV → Option (suD i)
  | 0, x => Inst.s x
  | 1, x => Edge.s x
  | 2, x => Term.s x
  | 3, x => Block.s x
  | 4, x => Arr.s x
  | 5, x => Strm.s x
  | 6, x => Fn.s x
  | 7, x => Typ.s x
  | _ + 8, _ => fun _ _ => none
def suMake : (i : Nat) → List EV → Option (suD i)
  | 0 => Inst.m
  | 1 => Edge.m
  | 2 => Term.m
  | 3 => Block.m
  | 4 => Arr.m
  | 5 => Strm.m
  | 6 => Fn.m
  | 7 => Typ.m
  | _ + 8 => fun _ => none
def suFro : Nat → Bool := fun i => Nat.blt i 8
instance : Codes where
  fro := suFro
  cell := suCell
  set := suSet
  setK := fun _ _ _ _ _ _ => none
  make := suMake
  cell_ok := fun i x j hf => match i, x, hf with
    | 0, x, _ => ⟨_, rfl, fun hj len => Inst.c_ok x len j hj⟩
    | 1, x, _ => ⟨_, rfl, fun hj len => Edge.c_ok x len j hj⟩
    | 2, x, _ => ⟨_, rfl, fun hj len => Term.c_ok x len j hj⟩
    | 3, x, _ => ⟨_, rfl, fun hj len => Block.c_ok x len j hj⟩
    | 4, x, _ => ⟨_, rfl, fun hj len => Arr.c_ok x len j hj⟩
    | 5, x, _ => ⟨_, rfl, fun hj len => Strm.c_ok x len j hj⟩
    | 6, x, _ => ⟨_, rfl, fun hj len => Fn.c_ok x len j hj⟩
    | 7, x, _ => ⟨_, rfl, fun hj len => Typ.c_ok x len j hj⟩
    | n + 8, _, hf => absurd (Nat.le_of_ble_eq_true hf) (by omega)
  set_ok := fun i x j v y h => match i, x, y, h with
    | 0, x, y, h => ⟨⟨_, rfl⟩, ⟨_, rfl, (Inst.s_ok x j v y h).1⟩, fun j' hj => congrArg Cell.ev ((Inst.s_ok x j v y h).2 j' hj)⟩
    | 1, x, y, h => ⟨⟨_, rfl⟩, ⟨_, rfl, (Edge.s_ok x j v y h).1⟩, fun j' hj => congrArg Cell.ev ((Edge.s_ok x j v y h).2 j' hj)⟩
    | 2, x, y, h => ⟨⟨_, rfl⟩, ⟨_, rfl, (Term.s_ok x j v y h).1⟩, fun j' hj => congrArg Cell.ev ((Term.s_ok x j v y h).2 j' hj)⟩
    | 3, x, y, h => ⟨⟨_, rfl⟩, ⟨_, rfl, (Block.s_ok x j v y h).1⟩, fun j' hj => congrArg Cell.ev ((Block.s_ok x j v y h).2 j' hj)⟩
    | 4, x, y, h => ⟨⟨_, rfl⟩, ⟨_, rfl, (Arr.s_ok x j v y h).1⟩, fun j' hj => congrArg Cell.ev ((Arr.s_ok x j v y h).2 j' hj)⟩
    | 5, x, y, h => ⟨⟨_, rfl⟩, ⟨_, rfl, (Strm.s_ok x j v y h).1⟩, fun j' hj => congrArg Cell.ev ((Strm.s_ok x j v y h).2 j' hj)⟩
    | 6, x, y, h => ⟨⟨_, rfl⟩, ⟨_, rfl, (Fn.s_ok x j v y h).1⟩, fun j' hj => congrArg Cell.ev ((Fn.s_ok x j v y h).2 j' hj)⟩
    | 7, x, y, h => ⟨⟨_, rfl⟩, ⟨_, rfl, (Typ.s_ok x j v y h).1⟩, fun j' hj => congrArg Cell.ev ((Typ.s_ok x j v y h).2 j' hj)⟩
    | n + 8, _, _, h => by cases h
  setK_ok := fun i x j t e l y h => by cases h
  cell_dat := fun i x j u h => match i, x, h with
    | 0, x, h => by injection h with h; subst h; exact Inst.c_dat x j
    | 1, x, h => by injection h with h; subst h; exact Edge.c_dat x j
    | 2, x, h => by injection h with h; subst h; exact Term.c_dat x j
    | 3, x, h => by injection h with h; subst h; exact Block.c_dat x j
    | 4, x, h => by injection h with h; subst h; exact Arr.c_dat x j
    | 5, x, h => by injection h with h; subst h; exact Strm.c_dat x j
    | 6, x, h => by injection h with h; subst h; exact Fn.c_dat x j
    | 7, x, h => by injection h with h; subst h; exact Typ.c_dat x j
    | n + 8, _, h => by injection h with h; subst h; rfl
  z_own := fun i j t e l h => match i, h with
    | 0, h => by cases h
    | 1, h => by cases h
    | 2, h => by cases h
    | 3, h => by cases h
    | 4, h => by cases h
    | 5, h => by cases h
    | 6, h => by cases h
    | 7, h => by cases h
    | n + 8, h => by cases h
  make_ok := fun i l y h => match i, y, h with
    | 0, y, h => ⟨(Inst.m_ok l y h).1, fun j hj => ⟨_, rfl, (Inst.m_ok l y h).2 j hj⟩⟩
    | 1, y, h => ⟨(Edge.m_ok l y h).1, fun j hj => ⟨_, rfl, (Edge.m_ok l y h).2 j hj⟩⟩
    | 2, y, h => ⟨(Term.m_ok l y h).1, fun j hj => ⟨_, rfl, (Term.m_ok l y h).2 j hj⟩⟩
    | 3, y, h => ⟨(Block.m_ok l y h).1, fun j hj => ⟨_, rfl, (Block.m_ok l y h).2 j hj⟩⟩
    | 4, y, h => ⟨(Arr.m_ok l y h).1, fun j hj => ⟨_, rfl, (Arr.m_ok l y h).2 j hj⟩⟩
    | 5, y, h => ⟨(Strm.m_ok l y h).1, fun j hj => ⟨_, rfl, (Strm.m_ok l y h).2 j hj⟩⟩
    | 6, y, h => ⟨(Fn.m_ok l y h).1, fun j hj => ⟨_, rfl, (Fn.m_ok l y h).2 j hj⟩⟩
    | 7, y, h => ⟨(Typ.m_ok l y h).1, fun j hj => ⟨_, rfl, (Typ.m_ok l y h).2 j hj⟩⟩
    | n + 8, _, h => by cases h
end Go.Abs
