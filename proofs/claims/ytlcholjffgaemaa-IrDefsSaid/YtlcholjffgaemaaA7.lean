/-
The rules, tried one after another: 'run' goes as far as it can.
No statement of the program is proved here.
-/
import Derived.Test.YtlcholjffgaemaaD1
set_option linter.unusedVariables false
set_option linter.unusedSimpArgs false
namespace Go.Abs
open Go

variable {P : Program} {Q : Exit → St → Prop} {st : St} {L : List GOp} {d : Option Tmp} {ty : TypeId} {K : St → Prop}

class Mixed (P : Program) : Prop where
  m : P.follows .mixedOrders = true

theorem prepL_map (all : List Oper) : ∀ l : List Oper, prepL all l = l.map (Oper.gop all)
  | [] => rfl
  | o :: l => by rw [prepL_cons, prepL_map all l]; rfl
theorem prep_map (A : Array Oper) : prep A = (List.range A.size).map (opAt A) := by
  unfold prep
  rw [prepL_map]
  apply List.ext_getElem
  · simp
  · intro i h1 h2
    have h1' : i < A.size := by simpa using h1
    simp [opAt, Array.getD, h1']

/-- A region that draws its order and turns nothing: in the order of the text. -/
theorem SC.drawQ {id : Nat} {A : Array Oper} [m : Mixed P] (hc : chk A [] (List.range A.size) = true) (h : QS P (Q .normal) (prep A) st) : SC P (.region id A true) Q st := by
  refine SC.draw m.m (AnyL.quiet (List.range A.size) hc ?_)
  rw [← prep_map]
  have : ∀ (L : List GOp) (st : St), QS P (Q .normal) L st → QS P (AnyL P A ([] ++ List.range A.size) Q) L st := by
    intro L st h
    induction h with
    | nil h => exact .nil (AnyL.done (by simp [allIn]) h)
    | cons u h k ih => exact .cons u h ih
  exact this _ _ h

theorem St.know {t : Tmp} {v : V} (h : st.env t = v) (hlt : Nat.blt t st.nt = true) : st.put (some t) v = st := by
  obtain ⟨nt, env, heap⟩ := st
  simp only [St.put, St.mk.injEq, true_and, and_true]
  funext x
  cases hb : Nat.beq x t with
  | false => rfl
  | true =>
    obtain rfl := Nat.eq_of_beq_eq_true hb
    have hlt' : Nat.blt x nt = true := hlt
    simp only [cond_true, hlt']
    exact h.symm

/-- A test that is not decided: both ways. -/
theorem QS.split_ (t : Tmp) {b : Bool} (hb : st.env t = .t (.bool b)) (hlt : Nat.blt t st.nt = true) (h1 : b = true → QS P K L (st.put (some t) (.t (.bool true)))) (h2 : b = false → QS P K L (st.put (some t) (.t (.bool false)))) : QS P K L st := by
  cases b with
  | true => have := h1 rfl; rwa [St.know hb hlt] at this
  | false => have := h2 rfl; rwa [St.know hb hlt] at this
theorem SL.split_ (t : Tmp) {b : Bool} (hb : st.env t = .t (.bool b)) (hlt : Nat.blt t st.nt = true) (h1 : b = true → SL P L Q (st.put (some t) (.t (.bool true)))) (h2 : b = false → SL P L Q (st.put (some t) (.t (.bool false)))) : SL P L Q st := by
  cases b with
  | true => have := h1 rfl; rwa [St.know hb hlt] at this
  | false => have := h2 rfl; rwa [St.know hb hlt] at this
/-- The guard says yes. -/
theorem SL.gy {op : Op} {t : Tmp} {want : Bool} (hb : st.env t = .t (.bool want)) (hlt : Nat.blt t st.nt = true) (h : SL P (⟨d, op, ty, none⟩ :: L) Q st) : SL P (⟨d, op, ty, some (some t, want)⟩ :: L) Q st :=
  SL.guard hb hlt (fun _ => h) (fun e => by cases want <;> cases e)
theorem SL.gn {op : Op} {t : Tmp} {want : Bool} (hb : st.env t = .t (.bool (!want))) (hlt : Nat.blt t st.nt = true) (h : SL P L Q (st.put d .und)) : SL P (⟨d, op, ty, some (some t, want)⟩ :: L) Q st :=
  SL.guard hb hlt (fun e => by cases want <;> cases e) (fun _ => h)
theorem QS.splitG {g : GOp} {t : Tmp} {w b : Bool} (hg : g.g = some (some t, w)) (hb : st.env t = .t (.bool b)) (hlt : Nat.blt t st.nt = true) (h1 : b = true → QS P K (g :: L) (st.put (some t) (.t (.bool true)))) (h2 : b = false → QS P K (g :: L) (st.put (some t) (.t (.bool false)))) : QS P K (g :: L) st :=
  QS.split_ t hb hlt h1 h2
theorem SL.splitG {g : GOp} {t : Tmp} {w b : Bool} (hg : g.g = some (some t, w)) (hb : st.env t = .t (.bool b)) (hlt : Nat.blt t st.nt = true) (h1 : b = true → SL P (g :: L) Q (st.put (some t) (.t (.bool true)))) (h2 : b = false → SL P (g :: L) Q (st.put (some t) (.t (.bool false)))) : SL P (g :: L) Q st :=
  SL.split_ t hb hlt h1 h2
theorem QS.splitP {g : GOp} {t : Tmp} {w : Bool} {p : Prop} [Decidable p] (hg : g.g = some (some t, w)) (hb : st.env t = .t (.bool (decide p))) (hlt : Nat.blt t st.nt = true) (h1 : p → QS P K (g :: L) (st.put (some t) (.t (.bool true)))) (h2 : ¬ p → QS P K (g :: L) (st.put (some t) (.t (.bool false)))) : QS P K (g :: L) st :=
  QS.split_ t hb hlt (fun h => h1 (of_decide_eq_true h)) (fun h => h2 (of_decide_eq_false h))
theorem SL.splitP {g : GOp} {t : Tmp} {w : Bool} {p : Prop} [Decidable p] (hg : g.g = some (some t, w)) (hb : st.env t = .t (.bool (decide p))) (hlt : Nat.blt t st.nt = true) (h1 : p → SL P (g :: L) Q (st.put (some t) (.t (.bool true)))) (h2 : ¬ p → SL P (g :: L) Q (st.put (some t) (.t (.bool false)))) : SL P (g :: L) Q st :=
  SL.split_ t hb hlt (fun h => h1 (of_decide_eq_true h)) (fun h => h2 (of_decide_eq_false h))
theorem SC.condP {c : Operand} {x y : Code} {p : Prop} [Decidable p] (hc : st.eval c = .t (.bool (decide p))) (h1 : p → SC P x Q st) (h2 : ¬ p → SC P y Q st) : SC P (.cond c x y) Q st :=
  SC.cond hc (fun h => h1 (of_decide_eq_true h)) (fun h => h2 (of_decide_eq_false h))

/-- The guard says yes: the operation is looked at by itself. -/
theorem QS.gy {op : Op} {t : Tmp} {want : Bool} (hb : st.env t = .t (.bool want)) (hlt : Nat.blt t st.nt = true) (h : QS P K (⟨d, op, ty, none⟩ :: L) st) : QS P K (⟨d, op, ty, some (some t, want)⟩ :: L) st := by
  cases h with
  | cons u h k => exact QS.gq hb hlt h k

/-- A new object, at a number that is written out. -/
def Heap.addAt (H : Heap) (id : Nat) (o : AObj) : Heap := { next := id + 1, slot := fun i => bif Id.beq i ⟨id, []⟩ then .live o else H.slot i, lo := H.lo }
theorem SL.boxA' (id : Nat) {e : TypeId} {x : Operand} {s : Nat} {get : Nat → V} (hid : st.heap.next = id) (hx : st.eval x = .agg s get)
    (hk : SL P L Q ((st.on (st.heap.addAt id (V.boxed e s get))).put d (.ptr ⟨id, []⟩ 0 0 0))) : SL P (⟨d, .box e x, ty, none⟩ :: L) Q st := by
  subst hid; exact SL.boxA hx hk
theorem SL.box1' (id : Nat) {e : TypeId} {x : Operand} {u : V} (hid : st.heap.next = id) (hx : st.eval x = u) (hp : u.one = true)
    (hk : SL P L Q ((st.on (st.heap.addAt id (V.boxed e 1 (fun _ => u)))).put d (.ptr ⟨id, []⟩ 0 0 0))) : SL P (⟨d, .box e x, ty, none⟩ :: L) Q st := by
  subst hid; exact SL.box1 hx hp hk
theorem SL.alloc' (id : Nat) {e : TypeId} {z : Value} [h : TyZero P e z] (hid : st.heap.next = id) (hk : SL P L Q ((st.on (st.heap.addAt id (V.boxed e z.cells.size (fun j => V.cell (z.cells.getD j undef))))).put d (.ptr ⟨id, []⟩ 0 0 0))) :
    SL P (⟨d, .alloc e, ty, none⟩ :: L) Q st := by
  subst hid; exact SL.alloc hk

/-- An index that is a natural number. -/
theorem O.indexFN {t e : TypeId} {s by_ : Nat} [TySlice P t e s by_] {x y : Operand} {n : Nat} {get : Nat → Nat → T} {k : IntKind} {m : Nat}
    (hx : st.eval x = .t (.sl s n get)) (hy : st.eval y = .t (.int k ((m : Nat) : Int))) (h1 : m < n) : QV P ⟨d, .indexAddr t x y, ty, none⟩ (.fp s (get m)) st :=
  O.indexF hx hy (by omega) (by omega)
theorem O.indexSN {t e : TypeId} {s by_ : Nat} [TySlice P t e s by_] {x y : Operand} {id : Id} {ver rr len : Nat} {o : AObj} {k : IntKind} {m : Nat}
    (hx : st.eval x = .sref id ver rr len) (ho : st.heap.slot id = .live o) (hv : ver = o.ver) (hs : o.sz = s) (hy : st.eval y = .t (.int k ((m : Nat) : Int))) (h1 : m < len) :
    QV P ⟨d, .indexAddr t x y, ty, none⟩ (.ptr id ver (m + rr) 0) st := O.indexS hx ho hv hs hy (by omega) (by omega)

/-- Calls of pure functions. -/
theorem QS.call {f : FuncId} [FnOk P f] {args : Array Operand} {ats : Array TypeId} {fargs : List V} {v : V} (h : PC P f fargs v)
    (ha : All2 Frz (args.toList.map (st.only (rds (.call { callee := .value (.func f), args := args, argTypes := ats }))).eval) fargs) (k : QS P K L (st.put d v)) :
    QS P K (⟨d, .call { callee := .value (.func f), args := args, argTypes := ats }, ty, none⟩ :: L) st := QS.q (QO.call h ha) k
theorem SL.callP {f : FuncId} [FnOk P f] {args : Array Operand} {ats : Array TypeId} {fargs : List V} {v : V} (h : PC P f fargs v)
    (ha : All2 Frz (args.toList.map st.eval) fargs) (k : SL P L Q (st.put d v)) :
    SL P (⟨d, .call { callee := .value (.func f), args := args, argTypes := ats }, ty, none⟩ :: L) Q st := SL.q (QO.call h ha) k
theorem QS.callB {f : FuncId} [FnOk P f] {args : Array Operand} {ats : Array TypeId} {fargs : List V} {v : V} (h : PC P f fargs v) (hs : Scal v)
    (ha : All2 (FrzB st.heap) (args.toList.map (st.only (rds (.call { callee := .value (.func f), args := args, argTypes := ats }))).eval) fargs) (k : QS P K L (st.put d v)) :
    QS P K (⟨d, .call { callee := .value (.func f), args := args, argTypes := ats }, ty, none⟩ :: L) st := QS.q (QO.callB h ha hs) k
theorem SL.callB {f : FuncId} [FnOk P f] {args : Array Operand} {ats : Array TypeId} {fargs : List V} {v : V} (h : PC P f fargs v) (hs : Scal v)
    (ha : All2 (FrzB st.heap) (args.toList.map st.eval) fargs) (k : SL P L Q (st.put d v)) :
    SL P (⟨d, .call { callee := .value (.func f), args := args, argTypes := ats }, ty, none⟩ :: L) Q st := SL.q (QO.callB h ha hs) k
/-- The arguments are the data that the contract names. -/
theorem args_ {R : Prop} (h : R := by
    repeat' first
      | exact All2.nil
      | refine All2.cons ?_ ?_
      | exact Frz.t _
      | exact Frz.aggT
      | exact Frz.nils _ _
      | exact Frz.fp _ _) : R := h

theorem is.move {x : Operand} (h : SL P (⟨d, .move x, ty, none⟩ :: L) Q st) : SL P (⟨d, .move x, ty, none⟩ :: L) Q st := h
theorem iq.move {x : Operand} (h : QS P K (⟨d, .move x, ty, none⟩ :: L) st) : QS P K (⟨d, .move x, ty, none⟩ :: L) st := h
theorem is.assign {x : Operand} (h : SL P (⟨d, .assign x, ty, none⟩ :: L) Q st) : SL P (⟨d, .assign x, ty, none⟩ :: L) Q st := h
theorem iq.assign {x : Operand} (h : QS P K (⟨d, .assign x, ty, none⟩ :: L) st) : QS P K (⟨d, .assign x, ty, none⟩ :: L) st := h
theorem is.load {t : TypeId} {x : Operand} (h : SL P (⟨d, .load t x, ty, none⟩ :: L) Q st) : SL P (⟨d, .load t x, ty, none⟩ :: L) Q st := h
theorem iq.load {t : TypeId} {x : Operand} (h : QS P K (⟨d, .load t x, ty, none⟩ :: L) st) : QS P K (⟨d, .load t x, ty, none⟩ :: L) st := h
theorem is.fieldAddr {t : TypeId} {x : Operand} {f : Nat} (h : SL P (⟨d, .fieldAddr t x f, ty, none⟩ :: L) Q st) : SL P (⟨d, .fieldAddr t x f, ty, none⟩ :: L) Q st := h
theorem iq.fieldAddr {t : TypeId} {x : Operand} {f : Nat} (h : QS P K (⟨d, .fieldAddr t x f, ty, none⟩ :: L) st) : QS P K (⟨d, .fieldAddr t x f, ty, none⟩ :: L) st := h
theorem is.len {x : Operand} {t : TypeId} (h : SL P (⟨d, .call { callee := .builtin .len, args := #[x], argTypes := #[t] }, ty, none⟩ :: L) Q st) : SL P (⟨d, .call { callee := .builtin .len, args := #[x], argTypes := #[t] }, ty, none⟩ :: L) Q st := h
theorem iq.len {x : Operand} {t : TypeId} (h : QS P K (⟨d, .call { callee := .builtin .len, args := #[x], argTypes := #[t] }, ty, none⟩ :: L) st) : QS P K (⟨d, .call { callee := .builtin .len, args := #[x], argTypes := #[t] }, ty, none⟩ :: L) st := h
theorem is.unOp {o : UnOp} {t : TypeId} {x : Operand} (h : SL P (⟨d, .unOp o t x, ty, none⟩ :: L) Q st) : SL P (⟨d, .unOp o t x, ty, none⟩ :: L) Q st := h
theorem iq.unOp {o : UnOp} {t : TypeId} {x : Operand} (h : QS P K (⟨d, .unOp o t x, ty, none⟩ :: L) st) : QS P K (⟨d, .unOp o t x, ty, none⟩ :: L) st := h
theorem is.pick {c x y : Operand} (h : SL P (⟨d, .pick c x y, ty, none⟩ :: L) Q st) : SL P (⟨d, .pick c x y, ty, none⟩ :: L) Q st := h
theorem iq.pick {c x y : Operand} (h : QS P K (⟨d, .pick c x y, ty, none⟩ :: L) st) : QS P K (⟨d, .pick c x y, ty, none⟩ :: L) st := h
theorem is.extract {x : Operand} {i : Nat} (h : SL P (⟨d, .extract x i, ty, none⟩ :: L) Q st) : SL P (⟨d, .extract x i, ty, none⟩ :: L) Q st := h
theorem iq.extract {x : Operand} {i : Nat} (h : QS P K (⟨d, .extract x i, ty, none⟩ :: L) st) : QS P K (⟨d, .extract x i, ty, none⟩ :: L) st := h
theorem is.nilCheck {x : Operand} (h : SL P (⟨d, .nilCheck x, ty, none⟩ :: L) Q st) : SL P (⟨d, .nilCheck x, ty, none⟩ :: L) Q st := h
theorem iq.nilCheck {x : Operand} (h : QS P K (⟨d, .nilCheck x, ty, none⟩ :: L) st) : QS P K (⟨d, .nilCheck x, ty, none⟩ :: L) st := h
theorem is.indexAddr {t : TypeId} {x y : Operand} (h : SL P (⟨d, .indexAddr t x y, ty, none⟩ :: L) Q st) : SL P (⟨d, .indexAddr t x y, ty, none⟩ :: L) Q st := h
theorem iq.indexAddr {t : TypeId} {x y : Operand} (h : QS P K (⟨d, .indexAddr t x y, ty, none⟩ :: L) st) : QS P K (⟨d, .indexAddr t x y, ty, none⟩ :: L) st := h
theorem is.index {t : TypeId} {x y : Operand} (h : SL P (⟨d, .index t x y, ty, none⟩ :: L) Q st) : SL P (⟨d, .index t x y, ty, none⟩ :: L) Q st := h
theorem iq.index {t : TypeId} {x y : Operand} (h : QS P K (⟨d, .index t x y, ty, none⟩ :: L) st) : QS P K (⟨d, .index t x y, ty, none⟩ :: L) st := h
theorem is.convert {s t : TypeId} {x : Operand} (h : SL P (⟨d, .convert s t x, ty, none⟩ :: L) Q st) : SL P (⟨d, .convert s t x, ty, none⟩ :: L) Q st := h
theorem iq.convert {s t : TypeId} {x : Operand} (h : QS P K (⟨d, .convert s t x, ty, none⟩ :: L) st) : QS P K (⟨d, .convert s t x, ty, none⟩ :: L) st := h
theorem is.b_add {t t2 : TypeId} {x y : Operand} (h : SL P (⟨d, .binOp .add t x y t2, ty, none⟩ :: L) Q st) : SL P (⟨d, .binOp .add t x y t2, ty, none⟩ :: L) Q st := h
theorem iq.b_add {t t2 : TypeId} {x y : Operand} (h : QS P K (⟨d, .binOp .add t x y t2, ty, none⟩ :: L) st) : QS P K (⟨d, .binOp .add t x y t2, ty, none⟩ :: L) st := h
theorem is.b_sub {t t2 : TypeId} {x y : Operand} (h : SL P (⟨d, .binOp .sub t x y t2, ty, none⟩ :: L) Q st) : SL P (⟨d, .binOp .sub t x y t2, ty, none⟩ :: L) Q st := h
theorem iq.b_sub {t t2 : TypeId} {x y : Operand} (h : QS P K (⟨d, .binOp .sub t x y t2, ty, none⟩ :: L) st) : QS P K (⟨d, .binOp .sub t x y t2, ty, none⟩ :: L) st := h
theorem is.b_mul {t t2 : TypeId} {x y : Operand} (h : SL P (⟨d, .binOp .mul t x y t2, ty, none⟩ :: L) Q st) : SL P (⟨d, .binOp .mul t x y t2, ty, none⟩ :: L) Q st := h
theorem iq.b_mul {t t2 : TypeId} {x y : Operand} (h : QS P K (⟨d, .binOp .mul t x y t2, ty, none⟩ :: L) st) : QS P K (⟨d, .binOp .mul t x y t2, ty, none⟩ :: L) st := h
theorem is.b_eql {t t2 : TypeId} {x y : Operand} (h : SL P (⟨d, .binOp .eql t x y t2, ty, none⟩ :: L) Q st) : SL P (⟨d, .binOp .eql t x y t2, ty, none⟩ :: L) Q st := h
theorem iq.b_eql {t t2 : TypeId} {x y : Operand} (h : QS P K (⟨d, .binOp .eql t x y t2, ty, none⟩ :: L) st) : QS P K (⟨d, .binOp .eql t x y t2, ty, none⟩ :: L) st := h
theorem is.b_neq {t t2 : TypeId} {x y : Operand} (h : SL P (⟨d, .binOp .neq t x y t2, ty, none⟩ :: L) Q st) : SL P (⟨d, .binOp .neq t x y t2, ty, none⟩ :: L) Q st := h
theorem iq.b_neq {t t2 : TypeId} {x y : Operand} (h : QS P K (⟨d, .binOp .neq t x y t2, ty, none⟩ :: L) st) : QS P K (⟨d, .binOp .neq t x y t2, ty, none⟩ :: L) st := h
theorem is.b_lss {t t2 : TypeId} {x y : Operand} (h : SL P (⟨d, .binOp .lss t x y t2, ty, none⟩ :: L) Q st) : SL P (⟨d, .binOp .lss t x y t2, ty, none⟩ :: L) Q st := h
theorem iq.b_lss {t t2 : TypeId} {x y : Operand} (h : QS P K (⟨d, .binOp .lss t x y t2, ty, none⟩ :: L) st) : QS P K (⟨d, .binOp .lss t x y t2, ty, none⟩ :: L) st := h
theorem is.b_leq {t t2 : TypeId} {x y : Operand} (h : SL P (⟨d, .binOp .leq t x y t2, ty, none⟩ :: L) Q st) : SL P (⟨d, .binOp .leq t x y t2, ty, none⟩ :: L) Q st := h
theorem iq.b_leq {t t2 : TypeId} {x y : Operand} (h : QS P K (⟨d, .binOp .leq t x y t2, ty, none⟩ :: L) st) : QS P K (⟨d, .binOp .leq t x y t2, ty, none⟩ :: L) st := h
theorem is.b_gtr {t t2 : TypeId} {x y : Operand} (h : SL P (⟨d, .binOp .gtr t x y t2, ty, none⟩ :: L) Q st) : SL P (⟨d, .binOp .gtr t x y t2, ty, none⟩ :: L) Q st := h
theorem iq.b_gtr {t t2 : TypeId} {x y : Operand} (h : QS P K (⟨d, .binOp .gtr t x y t2, ty, none⟩ :: L) st) : QS P K (⟨d, .binOp .gtr t x y t2, ty, none⟩ :: L) st := h
theorem is.b_geq {t t2 : TypeId} {x y : Operand} (h : SL P (⟨d, .binOp .geq t x y t2, ty, none⟩ :: L) Q st) : SL P (⟨d, .binOp .geq t x y t2, ty, none⟩ :: L) Q st := h
theorem iq.b_geq {t t2 : TypeId} {x y : Operand} (h : QS P K (⟨d, .binOp .geq t x y t2, ty, none⟩ :: L) st) : QS P K (⟨d, .binOp .geq t x y t2, ty, none⟩ :: L) st := h
theorem is.b_and {t t2 : TypeId} {x y : Operand} (h : SL P (⟨d, .binOp .and t x y t2, ty, none⟩ :: L) Q st) : SL P (⟨d, .binOp .and t x y t2, ty, none⟩ :: L) Q st := h
theorem iq.b_and {t t2 : TypeId} {x y : Operand} (h : QS P K (⟨d, .binOp .and t x y t2, ty, none⟩ :: L) st) : QS P K (⟨d, .binOp .and t x y t2, ty, none⟩ :: L) st := h
theorem is.b_or {t t2 : TypeId} {x y : Operand} (h : SL P (⟨d, .binOp .or t x y t2, ty, none⟩ :: L) Q st) : SL P (⟨d, .binOp .or t x y t2, ty, none⟩ :: L) Q st := h
theorem iq.b_or {t t2 : TypeId} {x y : Operand} (h : QS P K (⟨d, .binOp .or t x y t2, ty, none⟩ :: L) st) : QS P K (⟨d, .binOp .or t x y t2, ty, none⟩ :: L) st := h
theorem is.b_xor {t t2 : TypeId} {x y : Operand} (h : SL P (⟨d, .binOp .xor t x y t2, ty, none⟩ :: L) Q st) : SL P (⟨d, .binOp .xor t x y t2, ty, none⟩ :: L) Q st := h
theorem iq.b_xor {t t2 : TypeId} {x y : Operand} (h : QS P K (⟨d, .binOp .xor t x y t2, ty, none⟩ :: L) st) : QS P K (⟨d, .binOp .xor t x y t2, ty, none⟩ :: L) st := h
theorem is.b_andNot {t t2 : TypeId} {x y : Operand} (h : SL P (⟨d, .binOp .andNot t x y t2, ty, none⟩ :: L) Q st) : SL P (⟨d, .binOp .andNot t x y t2, ty, none⟩ :: L) Q st := h
theorem iq.b_andNot {t t2 : TypeId} {x y : Operand} (h : QS P K (⟨d, .binOp .andNot t x y t2, ty, none⟩ :: L) st) : QS P K (⟨d, .binOp .andNot t x y t2, ty, none⟩ :: L) st := h
theorem is.b_shl {t t2 : TypeId} {x y : Operand} (h : SL P (⟨d, .binOp .shl t x y t2, ty, none⟩ :: L) Q st) : SL P (⟨d, .binOp .shl t x y t2, ty, none⟩ :: L) Q st := h
theorem iq.b_shl {t t2 : TypeId} {x y : Operand} (h : QS P K (⟨d, .binOp .shl t x y t2, ty, none⟩ :: L) st) : QS P K (⟨d, .binOp .shl t x y t2, ty, none⟩ :: L) st := h
theorem is.b_shr {t t2 : TypeId} {x y : Operand} (h : SL P (⟨d, .binOp .shr t x y t2, ty, none⟩ :: L) Q st) : SL P (⟨d, .binOp .shr t x y t2, ty, none⟩ :: L) Q st := h
theorem iq.b_shr {t t2 : TypeId} {x y : Operand} (h : QS P K (⟨d, .binOp .shr t x y t2, ty, none⟩ :: L) st) : QS P K (⟨d, .binOp .shr t x y t2, ty, none⟩ :: L) st := h
theorem is.box {e : TypeId} {x : Operand} (h : SL P (⟨d, .box e x, ty, none⟩ :: L) Q st) : SL P (⟨d, .box e x, ty, none⟩ :: L) Q st := h
theorem is.alloc {e : TypeId} (h : SL P (⟨d, .alloc e, ty, none⟩ :: L) Q st) : SL P (⟨d, .alloc e, ty, none⟩ :: L) Q st := h
theorem is.store {t : TypeId} {x y : Operand} (h : SL P (⟨d, .store t x y, ty, none⟩ :: L) Q st) : SL P (⟨d, .store t x y, ty, none⟩ :: L) Q st := h
theorem is.sl {g : GOp} (h : SL P (g :: L) Q st) : SL P (g :: L) Q st := h
theorem iq.qs {g : GOp} (h : QS P K (g :: L) st) : QS P K (g :: L) st := h
theorem is.g {op : Op} {t : Tmp} {w : Bool} (h : SL P (⟨d, op, ty, some (some t, w)⟩ :: L) Q st) : SL P (⟨d, op, ty, some (some t, w)⟩ :: L) Q st := h
theorem iq.g {op : Op} {t : Tmp} {w : Bool} (h : QS P K (⟨d, op, ty, some (some t, w)⟩ :: L) st) : QS P K (⟨d, op, ty, some (some t, w)⟩ :: L) st := h
theorem is.sc {c : Code} (h : SC P c Q st) : SC P c Q st := h
theorem is.cond {c : Operand} {x y : Code} (h : SC P (.cond c x y) Q st) : SC P (.cond c x y) Q st := h
theorem thenQ.n {K : St → Prop} (h : K st) : thenQ K Q .normal st := h
theorem thenQ.r {K : St → Prop} (h : Q .ret st) : thenQ K Q .ret st := h
theorem thenQ.x {K : St → Prop} {id : Nat} (h : Q (.exit id) st) : thenQ K Q (.exit id) st := h
theorem inQ.n {id : Nat} (h : Q .normal st) : inQ id Q .normal st := h
theorem inQ.r {id : Nat} (h : Q .ret st) : inQ id Q .ret st := h
theorem inQ.x {id : Nat} (h : Q .normal st) : inQ id Q (.exit id) st := by simp only [inQ, Nat.beq_refl, cond_true]; exact h
theorem inQ.y {id i : Nat} (hn : Nat.beq i id = false) (h : Q (.exit i) st) : inQ id Q (.exit i) st := by simp only [inQ, hn, cond_false]; exact h

/-- What remains of a goal when the rules have been tried. -/
structure Rest (R : Prop) : Prop where
  mk :: (out : R)
theorem run {G R : Prop} (k : R) (h : Rest R → G := by
    intro k
    repeat first
      | refine thenQ.n ?_
      | refine thenQ.r ?_
      | refine thenQ.x ?_
      | refine inQ.n ?_
      | refine inQ.r ?_
      | refine inQ.x ?_
      | refine inQ.y rfl ?_
      | (refine is.sc ?_; first
          | refine SC.seq' ?_
          | refine SC.region ?_
          | (refine is.cond ?_; first
              | refine SC.cond_true rfl ?_
              | refine SC.cond_false rfl ?_)
          | refine SC.block ?_
          | refine SC.skip ?_
          | refine SC.exit ?_
          | refine SC.ret ?_
          | refine SC.drawQ (by decide +kernel) ?_)
      | refine SL.nil ?_
      | refine QS.nil ?_
      | (refine is.sl ?_; first
          | (refine is.g ?_; first
              | refine SL.gy rfl rfl ?_
              | refine SL.gn rfl rfl ?_)
          | (refine is.move ?_; refine SL.o O.move ?_)
          | (refine is.assign ?_; refine SL.o O.assign ?_)
          | (refine is.load ?_; first
              | refine SL.o (O.loadF rfl rfl) ?_
              | refine SL.o (O.loadFA rfl rfl) ?_
              | refine SL.o (O.loadP rfl rfl rfl (by first | exact Nat.le_of_ble_eq_true rfl | (dsimp only; omega)) (by first | exact Nat.le_of_ble_eq_true rfl | (dsimp only; omega))) ?_
              | refine SL.o (O.loadPA rfl rfl rfl (by first | exact Nat.le_of_ble_eq_true rfl | (dsimp only; omega)) (by first | exact Nat.le_of_ble_eq_true rfl | (dsimp only; omega))) ?_)
          | (refine is.fieldAddr ?_; first
              | refine SL.o (O.fieldF rfl) ?_
              | refine SL.o (O.fieldP rfl rfl rfl) ?_)
          | (refine is.len ?_; first
              | refine SL.o (O.lenF rfl) ?_
              | refine SL.o (O.lenS rfl rfl rfl) ?_
              | refine SL.o (O.lenStr rfl) ?_
              | refine SL.o (O.lenN rfl) ?_)
          | (refine is.unOp ?_; first
              | refine SL.o (O.not rfl) ?_
              | refine SL.o (O.neg rfl (wrap_in (by omega) (by omega))) ?_)
          | (refine is.pick ?_; first
              | refine SL.o (O.pick_true rfl) ?_
              | refine SL.o (O.pick_false rfl) ?_)
          | (refine is.extract ?_; refine SL.o (O.extract rfl rfl) ?_)
          | (refine is.nilCheck ?_; first
              | refine SL.o (O.nilCheckP rfl rfl rfl) ?_
              | refine SL.o (O.nilCheckF rfl) ?_)
          | (refine is.indexAddr ?_; first
              | refine SL.o (O.indexFN rfl rfl (by first | omega | assumption)) ?_
              | refine SL.o (O.indexF rfl rfl (by first | omega | assumption) (by first | omega | assumption)) ?_
              | refine SL.o (O.indexSN rfl rfl rfl rfl rfl (by first | omega | assumption)) ?_
              | refine SL.o (O.indexS rfl rfl rfl rfl rfl (by first | omega | assumption) (by first | omega | assumption)) ?_)
          | (refine is.index ?_; refine SL.o (O.indexStr rfl rfl (by omega) (by omega)) ?_)
          | (refine is.convert ?_; refine SL.o (O.convInt rfl (wrap_in (by omega) (by omega))) ?_)
          | (refine is.b_add ?_; refine SL.o (O.add rfl rfl (wrap_in (by omega) (by omega))) ?_)
          | (refine is.b_sub ?_; refine SL.o (O.sub rfl rfl (wrap_in (by omega) (by omega))) ?_)
          | (refine is.b_mul ?_; refine SL.o (O.mul rfl rfl (wrap_in (by omega) (by omega))) ?_)
          | (refine is.b_eql ?_; refine SL.o (O.eql rfl rfl) ?_)
          | (refine is.b_neq ?_; refine SL.o (O.neq rfl rfl) ?_)
          | (refine is.b_lss ?_; refine SL.o (O.lss rfl rfl) ?_)
          | (refine is.b_leq ?_; refine SL.o (O.leq rfl rfl) ?_)
          | (refine is.b_gtr ?_; refine SL.o (O.gtr rfl rfl) ?_)
          | (refine is.b_geq ?_; refine SL.o (O.geq rfl rfl) ?_)
          | (refine is.b_and ?_; refine SL.o (O.bits rfl rfl rfl) ?_)
          | (refine is.b_or ?_; refine SL.o (O.bits rfl rfl rfl) ?_)
          | (refine is.b_xor ?_; refine SL.o (O.bits rfl rfl rfl) ?_)
          | (refine is.b_andNot ?_; refine SL.o (O.bits rfl rfl rfl) ?_)
          | (refine is.b_shl ?_; refine SL.o (O.shl rfl rfl (by omega)) ?_)
          | (refine is.b_shr ?_; refine SL.o (O.shr rfl rfl (by omega)) ?_)
          | (refine is.box ?_; first
              | refine SL.boxA' 0 rfl rfl ?_
              | refine SL.boxA' 1 rfl rfl ?_
              | refine SL.boxA' 2 rfl rfl ?_
              | refine SL.boxA' 3 rfl rfl ?_
              | refine SL.boxA' 4 rfl rfl ?_
              | refine SL.boxA' 5 rfl rfl ?_
              | refine SL.boxA' 6 rfl rfl ?_
              | refine SL.boxA' 7 rfl rfl ?_
              | refine SL.boxA' 8 rfl rfl ?_
              | refine SL.boxA' 9 rfl rfl ?_
              | refine SL.boxA' 10 rfl rfl ?_
              | refine SL.boxA' 11 rfl rfl ?_
              | refine SL.box1' 0 rfl rfl rfl ?_
              | refine SL.box1' 1 rfl rfl rfl ?_
              | refine SL.box1' 2 rfl rfl rfl ?_
              | refine SL.box1' 3 rfl rfl rfl ?_
              | refine SL.box1' 4 rfl rfl rfl ?_
              | refine SL.box1' 5 rfl rfl rfl ?_
              | refine SL.box1' 6 rfl rfl rfl ?_
              | refine SL.box1' 7 rfl rfl rfl ?_
              | refine SL.box1' 8 rfl rfl rfl ?_
              | refine SL.box1' 9 rfl rfl rfl ?_
              | refine SL.box1' 10 rfl rfl rfl ?_
              | refine SL.box1' 11 rfl rfl rfl ?_)
          | (refine is.alloc ?_; first
              | refine SL.alloc' 0 rfl ?_
              | refine SL.alloc' 1 rfl ?_
              | refine SL.alloc' 2 rfl ?_
              | refine SL.alloc' 3 rfl ?_
              | refine SL.alloc' 4 rfl ?_
              | refine SL.alloc' 5 rfl ?_
              | refine SL.alloc' 6 rfl ?_
              | refine SL.alloc' 7 rfl ?_
              | refine SL.alloc' 8 rfl ?_
              | refine SL.alloc' 9 rfl ?_
              | refine SL.alloc' 10 rfl ?_
              | refine SL.alloc' 11 rfl ?_)
          | (refine is.store ?_; first
              | refine SL.store1 rfl rfl rfl (by first | exact Nat.le_of_ble_eq_true rfl | (dsimp only; omega)) (by first | exact Nat.le_of_ble_eq_true rfl | (dsimp only; omega)) rfl rfl ?_
              | refine SL.storeA rfl rfl rfl (by first | exact Nat.le_of_ble_eq_true rfl | (dsimp only; omega)) (by first | exact Nat.le_of_ble_eq_true rfl | (dsimp only; omega)) rfl ?_))
      | (refine iq.qs ?_; first
          | (refine iq.g ?_; first
              | refine QS.gy rfl rfl ?_
              | refine QS.gn rfl rfl ?_)
          | (refine iq.move ?_; refine QS.o O.move ?_)
          | (refine iq.assign ?_; refine QS.o O.assign ?_)
          | (refine iq.load ?_; first
              | refine QS.o (O.loadF rfl rfl) ?_
              | refine QS.o (O.loadFA rfl rfl) ?_
              | refine QS.o (O.loadP rfl rfl rfl (by first | exact Nat.le_of_ble_eq_true rfl | (dsimp only; omega)) (by first | exact Nat.le_of_ble_eq_true rfl | (dsimp only; omega))) ?_
              | refine QS.o (O.loadPA rfl rfl rfl (by first | exact Nat.le_of_ble_eq_true rfl | (dsimp only; omega)) (by first | exact Nat.le_of_ble_eq_true rfl | (dsimp only; omega))) ?_)
          | (refine iq.fieldAddr ?_; first
              | refine QS.o (O.fieldF rfl) ?_
              | refine QS.o (O.fieldP rfl rfl rfl) ?_)
          | (refine iq.len ?_; first
              | refine QS.o (O.lenF rfl) ?_
              | refine QS.o (O.lenS rfl rfl rfl) ?_
              | refine QS.o (O.lenStr rfl) ?_
              | refine QS.o (O.lenN rfl) ?_)
          | (refine iq.unOp ?_; first
              | refine QS.o (O.not rfl) ?_
              | refine QS.o (O.neg rfl (wrap_in (by omega) (by omega))) ?_)
          | (refine iq.pick ?_; first
              | refine QS.o (O.pick_true rfl) ?_
              | refine QS.o (O.pick_false rfl) ?_)
          | (refine iq.extract ?_; refine QS.o (O.extract rfl rfl) ?_)
          | (refine iq.nilCheck ?_; first
              | refine QS.o (O.nilCheckP rfl rfl rfl) ?_
              | refine QS.o (O.nilCheckF rfl) ?_)
          | (refine iq.indexAddr ?_; first
              | refine QS.o (O.indexFN rfl rfl (by first | omega | assumption)) ?_
              | refine QS.o (O.indexF rfl rfl (by first | omega | assumption) (by first | omega | assumption)) ?_
              | refine QS.o (O.indexSN rfl rfl rfl rfl rfl (by first | omega | assumption)) ?_
              | refine QS.o (O.indexS rfl rfl rfl rfl rfl (by first | omega | assumption) (by first | omega | assumption)) ?_)
          | (refine iq.index ?_; refine QS.o (O.indexStr rfl rfl (by omega) (by omega)) ?_)
          | (refine iq.convert ?_; refine QS.o (O.convInt rfl (wrap_in (by omega) (by omega))) ?_)
          | (refine iq.b_add ?_; refine QS.o (O.add rfl rfl (wrap_in (by omega) (by omega))) ?_)
          | (refine iq.b_sub ?_; refine QS.o (O.sub rfl rfl (wrap_in (by omega) (by omega))) ?_)
          | (refine iq.b_mul ?_; refine QS.o (O.mul rfl rfl (wrap_in (by omega) (by omega))) ?_)
          | (refine iq.b_eql ?_; refine QS.o (O.eql rfl rfl) ?_)
          | (refine iq.b_neq ?_; refine QS.o (O.neq rfl rfl) ?_)
          | (refine iq.b_lss ?_; refine QS.o (O.lss rfl rfl) ?_)
          | (refine iq.b_leq ?_; refine QS.o (O.leq rfl rfl) ?_)
          | (refine iq.b_gtr ?_; refine QS.o (O.gtr rfl rfl) ?_)
          | (refine iq.b_geq ?_; refine QS.o (O.geq rfl rfl) ?_)
          | (refine iq.b_and ?_; refine QS.o (O.bits rfl rfl rfl) ?_)
          | (refine iq.b_or ?_; refine QS.o (O.bits rfl rfl rfl) ?_)
          | (refine iq.b_xor ?_; refine QS.o (O.bits rfl rfl rfl) ?_)
          | (refine iq.b_andNot ?_; refine QS.o (O.bits rfl rfl rfl) ?_)
          | (refine iq.b_shl ?_; refine QS.o (O.shl rfl rfl (by omega)) ?_)
          | (refine iq.b_shr ?_; refine QS.o (O.shr rfl rfl (by omega)) ?_))
    exact k.out) : G := h ⟨k⟩

end Go.Abs
