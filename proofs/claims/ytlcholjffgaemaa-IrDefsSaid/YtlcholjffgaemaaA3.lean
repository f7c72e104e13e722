/-
The rules of single operations over abstract states, part 1: moves, numbers, reading of memory.
No statement of the program is proved here.
-/
import Derived.Test.YtlcholjffgaemaaA2
import Derived.Laws.Strings
set_option linter.unusedVariables false
set_option linter.unusedSimpArgs false
namespace Go.Abs
open Go

variable {P : Program} {st : St} {d : Option Tmp} {ty : TypeId}

/-- An operation that only reckons: its value. -/
def QV (P : Program) (g : GOp) (u : V) (st : St) : Prop := ∀ E ι F a w, Rel E ι F st a w → ∃ v, (execOp a.eval g.oper).run P w = .ok (.value v) w ∧ VRel st.heap ι F w u v

/-! ### Types -/
class TySz (P : Program) (t : TypeId) (agg : outParam Bool) (s : outParam Nat) : Prop where
  d : ∃ d, P.underlying t = some d ∧ d.isRow = agg
  s : (P.info? t).map (·.size) = some s

class TyZero (P : Program) (t : TypeId) (v : outParam Value) : Prop where
  z : (P.info? t).map (·.zero) = some (some v)
  c : v.cells.all (·.oneCell') = true

class TyField (P : Program) (t f : Nat) (off : outParam Nat) (agg : outParam Bool) (s : outParam Nat) : Prop where
  d : ∃ fs fl, P.underlying t = some (.struct fs) ∧ fs[f]? = some fl ∧ fl.offset = off ∧ TySz P fl.type agg s
  s : s ≠ 0

class TySlice (P : Program) (t : TypeId) (e : outParam TypeId) (s bytes : outParam Nat) : Prop where
  d : P.underlying t = some (.slice e)
  s : (P.info? e).map (fun i => (i.size, i.bytes)) = some (s, bytes)

class TyArr (P : Program) (t : TypeId) (n : outParam Nat) (e : outParam TypeId) (s : outParam Nat) : Prop where
  d : P.underlying t = some (.array n e)
  s : (P.info? e).map (·.size) = some s

class TyDesc (P : Program) (t : TypeId) (d : outParam TypeDesc) : Prop where
  d : P.underlying t = some d

/-! ### Moves -/
theorem O.move {x : Operand} : QV P ⟨d, .move x, ty, none⟩ (st.eval x) st :=
  fun E ι F a w r => ⟨_, rfl, r.eval x⟩

/-- Moves of a value that is known. -/
theorem O.moveT {x : Operand} {y : T} (h : st.eval x = .t y) : QV P ⟨d, .move x, ty, none⟩ (.t y) st := h ▸ O.move
theorem O.moveI {x : Operand} {k : IntKind} {n : Int} (h : st.eval x = .t (.int k n)) : QV P ⟨d, .move x, ty, none⟩ (.t (.int k n)) st := h ▸ O.move
theorem O.moveB {x : Operand} {b : Bool} (h : st.eval x = .t (.bool b)) : QV P ⟨d, .move x, ty, none⟩ (.t (.bool b)) st := h ▸ O.move
theorem O.moveS {x : Operand} {id : Id} {ver r n : Nat} (h : st.eval x = .sref id ver r n) : QV P ⟨d, .move x, ty, none⟩ (.sref id ver r n) st := h ▸ O.move
theorem O.moveP {x : Operand} {id : Id} {ver r n : Nat} (h : st.eval x = .ptr id ver r n) : QV P ⟨d, .move x, ty, none⟩ (.ptr id ver r n) st := h ▸ O.move
theorem O.moveA {x : Operand} {n : Nat} {g : Nat → V} (h : st.eval x = .agg n g) : QV P ⟨d, .move x, ty, none⟩ (.agg n g) st := h ▸ O.move
theorem O.moveU {x : Operand} {n : Nat} {g : Nat → V} (h : st.eval x = .tup n g) : QV P ⟨d, .move x, ty, none⟩ (.tup n g) st := h ▸ O.move
theorem O.assign {x : Operand} : QV P ⟨d, .assign x, ty, none⟩ (st.eval x) st :=
  fun E ι F a w r => ⟨_, rfl, r.eval x⟩

theorem O.assignT {x : Operand} {y : T} (h : st.eval x = .t y) : QV P ⟨d, .assign x, ty, none⟩ (.t y) st := h ▸ O.assign
theorem O.assignI {x : Operand} {k : IntKind} {n : Int} (h : st.eval x = .t (.int k n)) : QV P ⟨d, .assign x, ty, none⟩ (.t (.int k n)) st := h ▸ O.assign
theorem O.assignB {x : Operand} {b : Bool} (h : st.eval x = .t (.bool b)) : QV P ⟨d, .assign x, ty, none⟩ (.t (.bool b)) st := h ▸ O.assign
theorem O.assignS {x : Operand} {id : Id} {ver r n : Nat} (h : st.eval x = .sref id ver r n) : QV P ⟨d, .assign x, ty, none⟩ (.sref id ver r n) st := h ▸ O.assign
theorem O.assignP {x : Operand} {id : Id} {ver r n : Nat} (h : st.eval x = .ptr id ver r n) : QV P ⟨d, .assign x, ty, none⟩ (.ptr id ver r n) st := h ▸ O.assign
theorem O.assignA {x : Operand} {n : Nat} {g : Nat → V} (h : st.eval x = .agg n g) : QV P ⟨d, .assign x, ty, none⟩ (.agg n g) st := h ▸ O.assign
theorem O.assignU {x : Operand} {n : Nat} {g : Nat → V} (h : st.eval x = .tup n g) : QV P ⟨d, .assign x, ty, none⟩ (.tup n g) st := h ▸ O.assign
theorem O.pick_true {c x y : Operand} (hc : st.eval c = .t (.bool true)) : QV P ⟨d, .pick c x y, ty, none⟩ (st.eval x) st := fun E ι F a w r => by
  have h := r.eval c
  rw [hc] at h
  have h' : a.eval c = .bool true := h
  exact ⟨a.eval x, by simp [execOp, GOp.oper, h', asBool], r.eval x⟩
theorem O.pick_false {c x y : Operand} (hc : st.eval c = .t (.bool false)) : QV P ⟨d, .pick c x y, ty, none⟩ (st.eval y) st := fun E ι F a w r => by
  have h := r.eval c
  rw [hc] at h
  have h' : a.eval c = .bool false := h
  exact ⟨a.eval y, by simp [execOp, GOp.oper, h', asBool], r.eval y⟩

theorem O.pickT_true {c x y : Operand} {u : T} (hc : st.eval c = .t (.bool true)) (h : st.eval x = .t u) : QV P ⟨d, .pick c x y, ty, none⟩ (.t u) st := h ▸ O.pick_true hc
theorem O.pickT_false {c x y : Operand} {u : T} (hc : st.eval c = .t (.bool false)) (h : st.eval y = .t u) : QV P ⟨d, .pick c x y, ty, none⟩ (.t u) st := h ▸ O.pick_false hc
theorem O.pickI_true {c x y : Operand} {k : IntKind} {n : Int} (hc : st.eval c = .t (.bool true)) (h : st.eval x = .t (.int k n)) : QV P ⟨d, .pick c x y, ty, none⟩ (.t (.int k n)) st := h ▸ O.pick_true hc
theorem O.pickI_false {c x y : Operand} {k : IntKind} {n : Int} (hc : st.eval c = .t (.bool false)) (h : st.eval y = .t (.int k n)) : QV P ⟨d, .pick c x y, ty, none⟩ (.t (.int k n)) st := h ▸ O.pick_false hc
theorem O.pickB_true {c x y : Operand} {b : Bool} (hc : st.eval c = .t (.bool true)) (h : st.eval x = .t (.bool b)) : QV P ⟨d, .pick c x y, ty, none⟩ (.t (.bool b)) st := h ▸ O.pick_true hc
theorem O.pickB_false {c x y : Operand} {b : Bool} (hc : st.eval c = .t (.bool false)) (h : st.eval y = .t (.bool b)) : QV P ⟨d, .pick c x y, ty, none⟩ (.t (.bool b)) st := h ▸ O.pick_false hc

/-! ### Whole numbers -/
theorem int_eval {E : Env} {ι : Id → Option Nat} {F : Nat → Prop} {a : Act} {w : World} (r : Rel E ι F st a w) {x : Operand} {k : IntKind} {n : Int}
    (h : st.eval x = .t (.int k n)) : a.eval x = .int k n := by
  have := r.eval x
  rw [h] at this
  exact this
theorem bool_eval {E : Env} {ι : Id → Option Nat} {F : Nat → Prop} {a : Act} {w : World} (r : Rel E ι F st a w) {x : Operand} {b : Bool}
    (h : st.eval x = .t (.bool b)) : a.eval x = .bool b := by
  have := r.eval x
  rw [h] at this
  exact this

/-- What the machine reckons of two whole numbers of one kind. -/
theorem O.int2 {op : BinOp} {tx tY : TypeId} {x y : Operand} {k : IntKind} {m n : Int} (hx : st.eval x = .t (.int k m)) (hy : st.eval y = .t (.int k n)) (z : T)
    (hz : ∀ w, ∃ v, (binOp op tx (.int k m) (.int k n)).run P w = .ok v w ∧ ∀ F w, Reads F w z v) : QV P ⟨d, .binOp op tx x y tY, ty, none⟩ (.t z) st :=
  fun E ι F a w r => by
    obtain ⟨v, h1, h2⟩ := hz w
    refine ⟨v, ?_, h2 F w⟩
    have hg : (eqGuard op tx x y (.int k m) (.int k n)).run P w = .ok () w := by
      unfold eqGuard; cases op <;> rfl
    simp [execOp, GOp.oper, int_eval r hx, int_eval r hy, hg, h1]

theorem O.add {tx tY : TypeId} {x y : Operand} {k : IntKind} {m n : Int} (hx : st.eval x = .t (.int k m)) (hy : st.eval y = .t (.int k n)) {z : Int} (hz : k.wrap (m + n) = z) : QV P ⟨d, .binOp .add tx x y tY, ty, none⟩ (.t (.int k z)) st :=
  O.int2 hx hy (.int k z) (fun w => ⟨.int k z, by simp [binOp, Op.intArith, hz], fun F w => rfl⟩)

theorem O.sub {tx tY : TypeId} {x y : Operand} {k : IntKind} {m n : Int} (hx : st.eval x = .t (.int k m)) (hy : st.eval y = .t (.int k n)) {z : Int} (hz : k.wrap (m - n) = z) : QV P ⟨d, .binOp .sub tx x y tY, ty, none⟩ (.t (.int k z)) st :=
  O.int2 hx hy (.int k z) (fun w => ⟨.int k z, by simp [binOp, Op.intArith, hz], fun F w => rfl⟩)

theorem O.mul {tx tY : TypeId} {x y : Operand} {k : IntKind} {m n : Int} (hx : st.eval x = .t (.int k m)) (hy : st.eval y = .t (.int k n)) {z : Int} (hz : k.wrap (m * n) = z) : QV P ⟨d, .binOp .mul tx x y tY, ty, none⟩ (.t (.int k z)) st :=
  O.int2 hx hy (.int k z) (fun w => ⟨.int k z, by simp [binOp, Op.intArith, hz], fun F w => rfl⟩)

theorem O.quo {tx tY : TypeId} {x y : Operand} {k : IntKind} {m n : Int} (hx : st.eval x = .t (.int k m)) (hy : st.eval y = .t (.int k n)) (hn : n ≠ 0) {z : Int} (hz : k.wrap (m.tdiv n) = z) : QV P ⟨d, .binOp .quo tx x y tY, ty, none⟩ (.t (.int k z)) st :=
  O.int2 hx hy (.int k z) (fun w => ⟨.int k z, by simp [binOp, Op.intDiv, hn, hz], fun F w => rfl⟩)

theorem O.rem {tx tY : TypeId} {x y : Operand} {k : IntKind} {m n : Int} (hx : st.eval x = .t (.int k m)) (hy : st.eval y = .t (.int k n)) (hn : n ≠ 0) : QV P ⟨d, .binOp .rem tx x y tY, ty, none⟩ (.t (.int k (m.tmod n))) st :=
  O.int2 hx hy (.int k (m.tmod n)) (fun w => ⟨.int k (m.tmod n), by simp [binOp, Op.intDiv, hn], fun F w => rfl⟩)

/-- and, or, xor, and not. -/
def bitOp (op : BinOp) (k : IntKind) (m n : Int) : Int :=
  let a := BitVec.ofInt k.bits m
  let b := BitVec.ofInt k.bits n
  k.wrap ((match op with | .and => a &&& b | .or => a ||| b | .xor => a ^^^ b | _ => a &&& ~~~b : BitVec k.bits).toNat : Int)
theorem O.bits {op : BinOp} {tx tY : TypeId} {x y : Operand} {k : IntKind} {m n : Int} (hx : st.eval x = .t (.int k m)) (hy : st.eval y = .t (.int k n))
    (ho : (match op with | .and | .or | .xor | .andNot => true | _ => false) = true) : QV P ⟨d, .binOp op tx x y tY, ty, none⟩ (.t (.int k (bitOp op k m n))) st :=
  O.int2 hx hy (.int k (bitOp op k m n)) (fun w => by
    cases op <;> first | (exfalso; revert ho; decide) | exact ⟨_, by simp only [binOp, Op.intBits, ne_eq, not_true_eq_false, if_false]; rfl, fun F w => rfl⟩)

theorem O.shl {tx tY : TypeId} {x y : Operand} {k k' : IntKind} {m n : Int} (hx : st.eval x = .t (.int k m)) (hy : st.eval y = .t (.int k' n)) (hn : 0 ≤ n) : QV P ⟨d, .binOp .shl tx x y tY, ty, none⟩ (.t (.int k (k.wrap (m * 2 ^ (min n.toNat k.bits))))) st :=
  fun E ι F a w r => by
    refine ⟨.int k (k.wrap (m * 2 ^ (min n.toNat k.bits))), ?_, rfl⟩
    have hg : (eqGuard .shl tx x y (.int k m) (.int k' n)).run P w = .ok () w := rfl
    have hn' : ¬ n < 0 := by omega
    simp [execOp, GOp.oper, int_eval r hx, int_eval r hy, hg, binOp, Op.shift, hn']

theorem O.shr {tx tY : TypeId} {x y : Operand} {k k' : IntKind} {m n : Int} (hx : st.eval x = .t (.int k m)) (hy : st.eval y = .t (.int k' n)) (hn : 0 ≤ n) : QV P ⟨d, .binOp .shr tx x y tY, ty, none⟩ (.t (.int k (m.fdiv (2 ^ (min n.toNat k.bits))))) st :=
  fun E ι F a w r => by
    refine ⟨.int k (m.fdiv (2 ^ (min n.toNat k.bits))), ?_, rfl⟩
    have hg : (eqGuard .shr tx x y (.int k m) (.int k' n)).run P w = .ok () w := rfl
    have hn' : ¬ n < 0 := by omega
    simp [execOp, GOp.oper, int_eval r hx, int_eval r hy, hg, binOp, Op.shift, hn']

theorem O.lss {tx tY : TypeId} {x y : Operand} {k : IntKind} {m n : Int} (hx : st.eval x = .t (.int k m)) (hy : st.eval y = .t (.int k n)) : QV P ⟨d, .binOp .lss tx x y tY, ty, none⟩ (.t (.bool (decide (m < n)))) st :=
  O.int2 hx hy (.bool (decide (m < n))) (fun w => ⟨.bool (decide (m < n)), by simp [binOp, Op.intCmp], fun F w => rfl⟩)

theorem O.leq {tx tY : TypeId} {x y : Operand} {k : IntKind} {m n : Int} (hx : st.eval x = .t (.int k m)) (hy : st.eval y = .t (.int k n)) : QV P ⟨d, .binOp .leq tx x y tY, ty, none⟩ (.t (.bool (decide (m ≤ n)))) st :=
  O.int2 hx hy (.bool (decide (m ≤ n))) (fun w => ⟨.bool (decide (m ≤ n)), by simp [binOp, Op.intCmp], fun F w => rfl⟩)

theorem O.gtr {tx tY : TypeId} {x y : Operand} {k : IntKind} {m n : Int} (hx : st.eval x = .t (.int k m)) (hy : st.eval y = .t (.int k n)) : QV P ⟨d, .binOp .gtr tx x y tY, ty, none⟩ (.t (.bool (decide (n < m)))) st :=
  O.int2 hx hy (.bool (decide (n < m))) (fun w => ⟨.bool (decide (n < m)), by simp [binOp, Op.intCmp], fun F w => rfl⟩)

theorem O.geq {tx tY : TypeId} {x y : Operand} {k : IntKind} {m n : Int} (hx : st.eval x = .t (.int k m)) (hy : st.eval y = .t (.int k n)) : QV P ⟨d, .binOp .geq tx x y tY, ty, none⟩ (.t (.bool (decide (n ≤ m)))) st :=
  O.int2 hx hy (.bool (decide (n ≤ m))) (fun w => ⟨.bool (decide (n ≤ m)), by simp [binOp, Op.intCmp], fun F w => rfl⟩)

theorem O.eql {tx tY : TypeId} {x y : Operand} {k : IntKind} {m n : Int} (hx : st.eval x = .t (.int k m)) (hy : st.eval y = .t (.int k n)) : QV P ⟨d, .binOp .eql tx x y tY, ty, none⟩ (.t (.bool (decide (m = n)))) st :=
  O.int2 hx hy (.bool (decide (m = n))) (fun w => ⟨.bool (decide (m = n)), by simp [binOp, Op.intCmp]; first | rfl | (congr 1; rw [Bool.eq_iff_iff]; simp), fun F w => rfl⟩)

theorem O.neq {tx tY : TypeId} {x y : Operand} {k : IntKind} {m n : Int} (hx : st.eval x = .t (.int k m)) (hy : st.eval y = .t (.int k n)) : QV P ⟨d, .binOp .neq tx x y tY, ty, none⟩ (.t (.bool (!decide (m = n)))) st :=
  O.int2 hx hy (.bool (!decide (m = n))) (fun w => ⟨.bool (!decide (m = n)), by simp [binOp, Op.intCmp]; first | rfl | (congr 1; rw [Bool.eq_iff_iff]; simp), fun F w => rfl⟩)

theorem O.not {t' : TypeId} {x : Operand} {b : Bool} (hx : st.eval x = .t (.bool b)) : QV P ⟨d, .unOp .not t' x, ty, none⟩ (.t (.bool (!b))) st :=
  fun E ι F a w r => ⟨.bool (!b), by simp [execOp, GOp.oper, bool_eval r hx, Op.unary], rfl⟩

theorem O.neg {t' : TypeId} {x : Operand} {k : IntKind} {n : Int} (hx : st.eval x = .t (.int k n)) {z : Int} (hz : k.wrap (0 - n) = z) : QV P ⟨d, .unOp .neg t' x, ty, none⟩ (.t (.int k z)) st :=
  fun E ι F a w r => ⟨.int k z, by simp [execOp, GOp.oper, int_eval r hx, Op.unary, Op.intArith, ← hz], rfl⟩

theorem O.compl {t' : TypeId} {x : Operand} {k : IntKind} {n : Int} (hx : st.eval x = .t (.int k n)) : QV P ⟨d, .unOp .xor t' x, ty, none⟩ (.t (.int k (bitOp .xor k (if k.signed then -1 else k.max) n))) st :=
  fun E ι F a w r => ⟨_, by simp [execOp, GOp.oper, int_eval r hx, Op.unary, Op.intBits]; rfl, rfl⟩

theorem run_underlying' {t : TypeId} {d : TypeDesc} (h : P.underlying t = some d) (w : World) : (underlying t).run P w = .ok d w := by
  simp [underlying, h]

/-- A conversion between kinds of whole numbers. -/
theorem O.convInt {src dst : TypeId} {x : Operand} {k k' : IntKind} {n : Int} {sd : TypeDesc} [hs : TyDesc P src sd] [hd : TyDesc P dst (.int k')] (hx : st.eval x = .t (.int k n)) {z : Int} (hz : k'.wrap n = z) : QV P ⟨d, .convert src dst x, ty, none⟩ (.t (.int k' z)) st :=
  fun E ι F a w r => ⟨.int k' z, by
    simp [execOp, GOp.oper, int_eval r hx, convert, run_underlying' hs.d, run_underlying' hd.d, Conv.intToInt, hz], rfl⟩

/-! ### Reading -/

theorem isAgg_run {t : TypeId} {agg : Bool} {s : Nat} [h : TySz P t agg s] (w : World) : (isAgg t).run P w = .ok agg w := by
  obtain ⟨d, hd, ha⟩ := h.d
  unfold isAgg
  rw [Sem.run_bind, run_underlying' hd]
  subst ha
  cases d <;> rfl

theorem sizeOf_run {t : TypeId} {agg : Bool} {s : Nat} [h : TySz P t agg s] (w : World) : (sizeOf t).run P w = .ok s w := by
  have hs := h.s
  cases hq : P.info? t with
  | none => simp [hq] at hs
  | some i => simp [hq] at hs; simp [sizeOf, typeInfo, hq, hs]

theorem load_cell_run {t : TypeId} {s : Nat} [h : TySz P t false s] {w : World} {b o : Nat} {c : Value} (hc : w.cell? ⟨b, o, none⟩ = some c) :
    (Instr.loadAt t (.pointer (some ⟨b, o, none⟩))).run P w = .ok c w := by
  simp [Instr.loadAt, Instr.sureAddr, loadVar, isAgg_run (P := P) (t := t), hc]

theorem load_agg_run {t : TypeId} {s : Nat} [h : TySz P t true s] {w : World} {b o : Nat} {cs : List Value} (hl : cs.length = s) (hc : ∀ j v, cs[j]? = some v → w.cell? ⟨b, o + j, none⟩ = some v) :
    (Instr.loadAt t (.pointer (some ⟨b, o, none⟩))).run P w = .ok (.agg cs.toArray) w := by
  obtain ⟨d, hd, ha⟩ := h.d
  exact run_loadAt_mid w b o t cs d hc hd ha (by rw [hl]; exact h.s)

/-- A list of cells out of their places. -/
theorem gather {p : Nat → Value → Prop} : ∀ n, (∀ j, j < n → ∃ c, p j c) → ∃ cs : List Value, cs.length = n ∧ ∀ j v, cs[j]? = some v → p j v
  | 0, _ => ⟨[], rfl, fun j v h => by simp at h⟩
  | n + 1, h => by
    obtain ⟨cs, hl, hp⟩ := gather (p := p) n (fun j hj => h j (by omega))
    obtain ⟨c, hc⟩ := h n (by omega)
    refine ⟨cs ++ [c], by simp [hl], fun j v hv => ?_⟩
    by_cases hj : j < n
    · rw [List.getElem?_append_left (by omega)] at hv
      exact hp j v hv
    · rw [List.getElem?_append_right (by omega)] at hv
      have : j = n := by
        have := (List.getElem?_eq_some_iff.1 hv).1
        simp [hl] at this; omega
      subst this
      simp [hl] at hv
      subst hv; exact hc

/-- A cell that is only read. -/
theorem O.loadF {t : TypeId} {s : Nat} [TySz P t false s] {x : Operand} {m : Nat} {get : Nat → T} (hx : st.eval x = .fp m get) (hm : Nat.blt 0 m = true) : QV P ⟨d, .load t x, ty, none⟩ (.t (get 0)) st :=
  fun E ι F a w r => by
    have h := r.eval x
    rw [hx] at h
    obtain ⟨b, o, h1, h2, h3⟩ := h
    obtain ⟨c, hc1, hc2⟩ := h3 0 (Nat.le_of_ble_eq_true hm)
    exact ⟨c, by simp only [execOp, GOp.oper, h1, Sem.run_bind, load_cell_run (P := P) (t := t) (by simpa using hc1), Result.andThen_ok]; rfl, hc2⟩

/-- A whole struct that is only read. -/
theorem O.loadFA {t : TypeId} {s : Nat} [TySz P t true s] {x : Operand} {m : Nat} {get : Nat → T} (hx : st.eval x = .fp m get) (hm : Nat.ble s m = true) : QV P ⟨d, .load t x, ty, none⟩ (.agg s (fun j => .t (get j))) st :=
  fun E ι F a w r => by
    have h := r.eval x
    rw [hx] at h
    obtain ⟨b, o, h1, h2, h3⟩ := h
    have hm := Nat.le_of_ble_eq_true hm
    obtain ⟨cs, hl, hp⟩ := gather (p := fun j c => w.cell? ⟨b, o + j, none⟩ = some c ∧ Reads F w (get j) c) s (fun j hj => h3 j (by omega))
    refine ⟨.agg cs.toArray, by simp only [execOp, GOp.oper, h1, Sem.run_bind, load_agg_run (P := P) (t := t) hl (fun j v hv => (hp j v hv).1), Result.andThen_ok]; rfl, cs.toArray, rfl, by simp [hl], fun j hj => ?_⟩
    have hj' : j < cs.length := by omega
    have hr := (hp j cs[j] (List.getElem?_eq_getElem hj')).2
    exact ⟨cs[j], by simp [hj'], hr.plain, hr⟩

theorem live_ptr {E : Env} {ι : Id → Option Nat} {F : Nat → Prop} {a : Act} {w : World} (r : Rel E ι F st a w) {x : Operand} {id : Id} {ver rr c : Nat} {o : AObj}
    (hx : st.eval x = .ptr id ver rr c) (ho : st.heap.slot id = .live o) (hv : ver = o.ver) :
    ∃ b, ι id = some b ∧ a.eval x = .pointer (some ⟨b, rr * o.sz + c, none⟩) := by
  have h := r.eval x
  rw [hx] at h
  have h2 := h.2
  rw [ho] at h2
  exact h2.2 hv

theorem obj_cells {E : Env} {ι : Id → Option Nat} {F : Nat → Prop} {H : Heap} {w : World} (r : RelH E ι F H w) {id : Id} {b : Nat} {o : AObj} (ho : H.slot id = .live o) (hb : ι id = some b) :
    ∃ cur, w.heap[b]? = some (.cells cur o.elem (0, 0)) ∧ o.n * o.sz ≤ cur.size ∧ ∀ i, i < o.n → ∀ j, j < o.sz → ∃ c, w.cell? ⟨b, i * o.sz + j, none⟩ = some c ∧ cur[i * o.sz + j]? = some c ∧ c.oneCell' = true ∧ VRel H ι F w (o.get i j) c := by
  have h := (r.obj id o ho).2
  rw [hb] at h
  obtain ⟨cur, h1, h2, h3⟩ := h
  refine ⟨cur, h1, h2, fun i hi j hj => ?_⟩
  obtain ⟨c, a, b, d⟩ := h3 i hi j hj
  exact ⟨c, by simp [World.cell?, h1, a], a, b, d⟩

/-- A cell of an object of the state's own. -/
theorem O.loadP {t : TypeId} {s : Nat} [TySz P t false s] {x : Operand} {id : Id} {ver rr c : Nat} {o : AObj} (hx : st.eval x = .ptr id ver rr c) (ho : st.heap.slot id = .live o)
    (hv : ver = o.ver) (hr : rr < o.n) (hc : c < o.sz) : QV P ⟨d, .load t x, ty, none⟩ (o.get rr c) st :=
  fun E ι F a w r => by
    obtain ⟨b, hb, he⟩ := live_ptr r hx ho hv
    obtain ⟨cur, h1, h2, h3⟩ := obj_cells r.h ho hb
    obtain ⟨u, hu1, hu2, hu3, hu4⟩ := h3 rr hr c hc
    exact ⟨u, by simp only [execOp, GOp.oper, he, Sem.run_bind, load_cell_run (P := P) (t := t) hu1, Result.andThen_ok]; rfl, hu4⟩

/-- Several cells of an object of the state's own. -/
theorem O.loadPA {t : TypeId} {s : Nat} [TySz P t true s] {x : Operand} {id : Id} {ver rr c : Nat} {o : AObj} (hx : st.eval x = .ptr id ver rr c) (ho : st.heap.slot id = .live o)
    (hv : ver = o.ver) (hr : rr < o.n) (hc : c + s ≤ o.sz) : QV P ⟨d, .load t x, ty, none⟩ (.agg s (fun j => o.get rr (j + c))) st :=
  fun E ι F a w r => by
    obtain ⟨b, hb, he⟩ := live_ptr r hx ho hv
    obtain ⟨cur, h1, h2, h3⟩ := obj_cells r.h ho hb
    obtain ⟨cs, hl, hp⟩ := gather (p := fun j u => w.cell? ⟨b, rr * o.sz + c + j, none⟩ = some u ∧ u.oneCell' = true ∧ VRel st.heap ι F w (o.get rr (j + c)) u) s (fun j hj => by
      obtain ⟨u, hu1, hu2, hu3, hu4⟩ := h3 rr hr (j + c) (by omega)
      exact ⟨u, by rw [show rr * o.sz + c + j = rr * o.sz + (j + c) by omega]; exact hu1, hu3, hu4⟩)
    refine ⟨.agg cs.toArray, by simp only [execOp, GOp.oper, he, Sem.run_bind, load_agg_run (P := P) (t := t) hl (fun j v hv => (hp j v hv).1), Result.andThen_ok]; rfl, cs.toArray, rfl, by simp [hl], fun j hj => ?_⟩
    have hj' : j < cs.length := by omega
    have hr := hp j cs[j] (List.getElem?_eq_getElem hj')
    exact ⟨cs[j], by simp [hj'], hr.2.1, hr.2.2⟩

theorem addr_add (b o n : Nat) : (⟨b, o, none⟩ : Addr).add n = ⟨b, o + n, none⟩ := by unfold Addr.add; split <;> simp_all

theorem fieldAt_run {t f off s : Nat} {agg : Bool} [h : TyField P t f off agg s] {w : World} {b o : Nat} :
    (Instr.fieldAt t (.pointer (some ⟨b, o, none⟩)) f).run P w = .ok (.pointer (some ⟨b, o + off, none⟩)) w := by
  obtain ⟨fs, fl, h1, h2, h3, h4⟩ := h.d
  have hs := sizeOf_run (P := P) (t := fl.type) w
  have h0 := h.s
  simp [Instr.fieldAt, run_underlying' h1, h2, Instr.sureAddr, fieldPlace, hs, h0, h3, addr_add]

theorem O.fieldF {t f off s : Nat} {agg : Bool} [TyField P t f off agg s] {x : Operand} {m : Nat} {get : Nat → T} (hx : st.eval x = .fp m get) : QV P ⟨d, .fieldAddr t x f, ty, none⟩ (.fp (m - off) (fun j => get (j + off))) st :=
  fun E ι F a w r => by
    have h := r.eval x
    rw [hx] at h
    obtain ⟨b, o, h1, h2, h3⟩ := h
    refine ⟨_, by simp only [execOp, GOp.oper, h1, Sem.run_bind, fieldAt_run (P := P) (t := t) (f := f), Result.andThen_ok]; rfl, b, o + off, rfl, h2, fun j hj => ?_⟩
    obtain ⟨c, hc1, hc2⟩ := h3 (j + off) (by omega)
    exact ⟨c, by rw [show o + off + j = o + (j + off) by omega]; exact hc1, hc2⟩

theorem O.fieldP {t f off s : Nat} {agg : Bool} [TyField P t f off agg s] {x : Operand} {id : Id} {ver rr c : Nat} {o : AObj} (hx : st.eval x = .ptr id ver rr c) (ho : st.heap.slot id = .live o) (hv : ver = o.ver) : QV P ⟨d, .fieldAddr t x f, ty, none⟩ (.ptr id ver rr (c + off)) st :=
  fun E ι F a w r => by
    obtain ⟨b, hb, he⟩ := live_ptr r hx ho hv
    refine ⟨_, by simp only [execOp, GOp.oper, he, Sem.run_bind, fieldAt_run (P := P) (t := t) (f := f), Result.andThen_ok]; rfl, rfl, ?_⟩
    rw [ho]
    exact ⟨by omega, fun _ => ⟨b, hb, by rw [Nat.add_assoc]⟩⟩

theorem sliceSz {t e : TypeId} {s by_ : Nat} [h : TySlice P t e s by_] (w : World) : (sizeOf e).run P w = .ok s w := by
  have hs := h.s
  cases hq : P.info? e with
  | none => simp [hq] at hs
  | some i => simp [hq] at hs; simp [sizeOf, typeInfo, hq, hs.1]

theorem indexAt_run {t e : TypeId} {s by_ : Nat} [h : TySlice P t e s by_] {w : World} {b o n cap : Nat} {k : IntKind} {i : Int} (h0 : 0 ≤ i) (h1 : i < n) :
    (Instr.indexAt t (.slice (some ⟨b, o, none⟩) n cap) (.int k i)).run P w = .ok (.pointer (some ⟨b, o + i.toNat * s, none⟩)) w := by
  simp [Instr.indexAt, asIntOf, run_underlying' h.d, h0, h1, sliceSz (P := P) (t := t), addr_add]

theorem O.indexF {t e : TypeId} {s by_ : Nat} [TySlice P t e s by_] {x y : Operand} {n : Nat} {get : Nat → Nat → T} {k : IntKind} {i : Int}
    (hx : st.eval x = .t (.sl s n get)) (hy : st.eval y = .t (.int k i)) (h0 : 0 ≤ i) (h1 : i < n) : QV P ⟨d, .indexAddr t x y, ty, none⟩ (.fp s (get i.toNat)) st :=
  fun E ι F a w r => by
    have h := r.eval x
    rw [hx] at h
    obtain ⟨A, cap, g1, g2, g3, g4⟩ := h
    obtain ⟨b, o, rfl, hb, hc⟩ := g4 (by omega)
    refine ⟨_, by simp only [execOp, GOp.oper, g1, int_eval r hy, Sem.run_bind, indexAt_run (P := P) (t := t) h0 h1, Result.andThen_ok]; rfl, b, _, rfl, hb, fun j hj => ?_⟩
    obtain ⟨c, hc1, hc2⟩ := hc i.toNat (by omega) j hj
    exact ⟨c, by rw [Nat.add_assoc]; exact hc1, hc2⟩

theorem live_sref {E : Env} {ι : Id → Option Nat} {F : Nat → Prop} {a : Act} {w : World} (r : Rel E ι F st a w) {x : Operand} {id : Id} {ver rr len : Nat} {o : AObj}
    (hx : st.eval x = .sref id ver rr len) (ho : st.heap.slot id = .live o) (hv : ver = o.ver) :
    rr + len ≤ o.n ∧ ∃ A cap, a.eval x = .slice A len cap ∧ len ≤ cap ∧
          (0 < cap → ∃ b cur, ι id = some b ∧ A = some ⟨b, rr * o.sz, none⟩ ∧ w.heap[b]? = some (.cells cur o.elem (0, 0)) ∧ rr * o.sz + cap * o.sz ≤ cur.size) := by
  have h := r.eval x
  rw [hx] at h
  have h2 := h.2
  rw [ho] at h2
  exact h2.2 hv

theorem O.indexS {t e : TypeId} {s by_ : Nat} [TySlice P t e s by_] {x y : Operand} {id : Id} {ver rr len : Nat} {o : AObj} {k : IntKind} {i : Int}
    (hx : st.eval x = .sref id ver rr len) (ho : st.heap.slot id = .live o) (hv : ver = o.ver) (hs : o.sz = s) (hy : st.eval y = .t (.int k i)) (h0 : 0 ≤ i) (h1 : i < len) : QV P ⟨d, .indexAddr t x y, ty, none⟩ (.ptr id ver (i.toNat + rr) 0) st :=
  fun E ι F a w r => by
    obtain ⟨g0, A, cap, g1, g2, g4⟩ := live_sref r hx ho hv
    obtain ⟨b, cur, hb, rfl, hh, hsz⟩ := g4 (by omega)
    refine ⟨_, by simp only [execOp, GOp.oper, g1, int_eval r hy, Sem.run_bind, indexAt_run (P := P) (t := t) h0 h1, Result.andThen_ok]; rfl, rfl, ?_⟩
    rw [ho]
    refine ⟨by omega, fun _ => ⟨b, hb, ?_⟩⟩
    rw [hs, Nat.add_mul, Nat.add_zero, Nat.add_comm]

/-- A byte of a string. -/
theorem O.indexStr {t : TypeId} [h : TyDesc P t .string] {x y : Operand} {s : ByteArray} {k : IntKind} {i : Int}
    (hx : st.eval x = .t (.str s)) (hy : st.eval y = .t (.int k i)) (h0 : 0 ≤ i) (h1 : i.toNat < s.size) : QV P ⟨d, .index t x y, ty, none⟩ (.t (.int .u8 ((s[i.toNat]'h1).toNat : Int))) st :=
  fun E ι F a w r => by
    have hr := r.eval x
    rw [hx] at hr
    have e : s[i.toNat]? = some (s[i.toNat]'h1) := by simp [h1]
    exact ⟨_, by simp [execOp, GOp.oper, hr.1, int_eval r hy, Instr.index, asIntOf, run_underlying' h.d, h0, e], rfl⟩

/-! ### len, extract, nil checks -/
theorem O.lenF {t : TypeId} {e : TypeId} {s by_ : Nat} [h : TySlice P t e s by_] {x : Operand} {sz n : Nat} {get : Nat → Nat → T} (hx : st.eval x = .t (.sl sz n get)) :
    QV P ⟨d, .call { callee := .builtin .len, args := #[x], argTypes := #[t] }, ty, none⟩ (.t (.int .i64 n)) st := fun E ι F a w r => by
  have hr := r.eval x
  rw [hx] at hr
  obtain ⟨A, cap, g1, g2, g3, g4⟩ := hr
  exact ⟨_, by simp [execOp, GOp.oper, resolve, invoke, builtin, Builtin.len_, run_underlying' h.d, g1, goInt], rfl⟩
theorem O.lenN {t : TypeId} {e : TypeId} {s by_ : Nat} [h : TySlice P t e s by_] {x : Operand} (hx : st.eval x = .nils) :
    QV P ⟨d, .call { callee := .builtin .len, args := #[x], argTypes := #[t] }, ty, none⟩ (.t (.int .i64 0)) st := fun E ι F a w r => by
  have hr := r.eval x
  rw [hx] at hr
  have hr' : a.eval x = .slice none 0 0 := hr
  exact ⟨_, by simp [execOp, GOp.oper, resolve, invoke, builtin, Builtin.len_, run_underlying' h.d, hr', goInt], rfl⟩
theorem O.lenS {t : TypeId} {e : TypeId} {s by_ : Nat} [h : TySlice P t e s by_] {x : Operand} {id : Id} {ver rr len : Nat} {o : AObj} (hx : st.eval x = .sref id ver rr len) (ho : st.heap.slot id = .live o) (hv : ver = o.ver) :
    QV P ⟨d, .call { callee := .builtin .len, args := #[x], argTypes := #[t] }, ty, none⟩ (.t (.int .i64 len)) st := fun E ι F a w r => by
  obtain ⟨g0, A, cap, g1, g2, g4⟩ := live_sref r hx ho hv
  exact ⟨_, by simp [execOp, GOp.oper, resolve, invoke, builtin, Builtin.len_, run_underlying' h.d, g1, goInt], rfl⟩
theorem O.lenStr {t : TypeId} [h : TyDesc P t .string] {x : Operand} {s : ByteArray} (hx : st.eval x = .t (.str s)) :
    QV P ⟨d, .call { callee := .builtin .len, args := #[x], argTypes := #[t] }, ty, none⟩ (.t (.int .i64 s.size)) st := fun E ι F a w r => by
  have hr := r.eval x
  rw [hx] at hr
  exact ⟨_, by simp [execOp, GOp.oper, resolve, invoke, builtin, Builtin.len_, run_underlying' h.d, hr.1, goInt], rfl⟩

theorem O.extract {x : Operand} {i n : Nat} {get : Nat → V} (hx : st.eval x = .tup n get) (hi : Nat.blt i n = true) : QV P ⟨d, .extract x i, ty, none⟩ (get i) st :=
  fun E ι F a w r => by
    have hr := r.eval x
    rw [hx] at hr
    obtain ⟨cs, h1, h2, h3⟩ := hr
    obtain ⟨c, hc1, hc2⟩ := h3 i (Nat.le_of_ble_eq_true hi)
    exact ⟨c, by simp [execOp, GOp.oper, h1, Instr.extract, hc1], hc2⟩

theorem O.nilCheckP {x : Operand} {id : Id} {ver rr c : Nat} {o : AObj} (hx : st.eval x = .ptr id ver rr c) (ho : st.heap.slot id = .live o) (hv : ver = o.ver) : QV P ⟨d, .nilCheck x, ty, none⟩ (.ptr id ver rr c) st :=
  fun E ι F a w r => by
    obtain ⟨b, hb, he⟩ := live_ptr r hx ho hv
    have hr := r.eval x
    rw [hx] at hr
    exact ⟨a.eval x, by simp [execOp, GOp.oper, he], hr⟩

theorem O.nilCheckF {x : Operand} {m : Nat} {get : Nat → T} (hx : st.eval x = .fp m get) : QV P ⟨d, .nilCheck x, ty, none⟩ (.fp m get) st :=
  fun E ι F a w r => by
    have hr := r.eval x
    rw [hx] at hr
    have hr2 := hr
    obtain ⟨b, o, h1, h2, h3⟩ := hr
    exact ⟨a.eval x, by simp [execOp, GOp.oper, h1], hr2⟩

/-- A field of a struct that is no variable. -/
theorem O.field1 {t f off s : Nat} [h : TyField P t f off false s] {x : Operand} {n : Nat} {get : Nat → V} (hx : st.eval x = .agg n get) (hn : Nat.blt off n = true) : QV P ⟨d, .field t x f, ty, none⟩ (get off) st :=
  fun E ι F a w r => by
    have hr := r.eval x
    rw [hx] at hr
    obtain ⟨cs, h1, h2, h3⟩ := hr
    obtain ⟨c, hc1, hc2, hc3⟩ := h3 off (Nat.le_of_ble_eq_true hn)
    obtain ⟨fs, fl, g1, g2, g3, g4⟩ := h.d
    exact ⟨c, by simp [execOp, GOp.oper, h1, Instr.field, run_underlying' g1, g2, g3, asAgg, part, isAgg_run (P := P) (t := fl.type), hc1], hc3⟩

end Go.Abs
