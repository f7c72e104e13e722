/-
An evaluator of operations and code over abstract states: what it asks for is enough for the rules.
No statement of the program is proved here.
-/
import Derived.Test.YtlcholjffgaemaaB1
set_option linter.unusedVariables false
set_option linter.unusedSimpArgs false
namespace Go.Abs
open Go

variable {P : Program} {Q : Exit → St → Prop} {st : St} {L : List GOp} {d : Option Tmp} {ty : TypeId} {K : St → Prop}

/-! ### What is known of a type -/
structure TyC where
  agg : Bool := false
  sz : Nat := 0
  fields : List (Nat × Bool × Nat) := []
  sl : Option (TypeId × Nat × Nat) := none
  desc : Option TypeDesc := none
  zero : Option Value := none

def nth {α : Type} : List α → Nat → Option α
  | [], _ => none
  | a :: _, 0 => some a
  | _ :: l, n + 1 => nth l n

structure TyC.Ok (P : Program) (t : TypeId) (c : TyC) : Prop where
  sz : Nat.blt 0 c.sz = true → TySz P t c.agg c.sz
  fld : ∀ f off a s, nth c.fields f = some (off, a, s) → TyField P t f off a s
  sl : ∀ e s b, c.sl = some (e, s, b) → TySlice P t e s b
  desc : ∀ x, c.desc = some x → TyDesc P t x
  zero : ∀ v, c.zero = some v → TyZero P t v

class Tys (P : Program) where
  c : TypeId → TyC
  ok : ∀ t, TyC.Ok P t (c t)

/-! ### Marks at which the evaluator stops -/
def needB (b : Bool) (A : Prop) : Prop := match b with
  | true => A
  | false => False
def splitB (b : Bool) (A B : Prop) : Prop := match b with
  | true => A
  | false => B
structure NeedP (p A : Prop) : Prop where
  p : p
  k : A
structure IxG (m : Int) (n : Nat) (K : Nat → Prop) : Prop where
  p : 0 ≤ m ∧ m < n
  k : K m.toNat
structure WrapG (k : IntKind) (z : Int) (K : Int → Prop) : Prop where
  out : K (k.wrap z)
def kindEq : IntKind → IntKind → Bool
  | .i8, .i8 => true
  | .i16, .i16 => true
  | .i32, .i32 => true
  | .i64, .i64 => true
  | .u8, .u8 => true
  | .u16, .u16 => true
  | .u32, .u32 => true
  | .u64, .u64 => true
  | _, _ => false
theorem kindEq_eq {a b : IntKind} (h : kindEq a b = true) : a = b := by cases a <;> cases b <;> first | rfl | cases h

theorem needB_out {b : Bool} {A : Prop} (h : needB b A) : b = true ∧ A := by
  cases b
  · exact h.elim
  · exact ⟨rfl, h⟩
theorem needB_in {b : Bool} {A : Prop} (h : b = true) (k : A) : needB b A := by subst h; exact k
theorem needB_lt {m n : Nat} {A : Prop} (h : m < n) (k : A) : needB (Nat.blt m n) A := needB_in (Nat.ble_eq_true_of_le h) k
theorem splitB_in {b : Bool} {A B : Prop} (h1 : b = true → A) (h2 : b = false → B) : splitB b A B := by
  cases b
  · exact h2 rfl
  · exact h1 rfl
theorem splitB_out {b : Bool} {A B : Prop} (h : splitB b A B) : (b = true → A) ∧ (b = false → B) := by
  cases b
  · exact ⟨fun e => (by cases e), fun _ => h⟩
  · exact ⟨fun _ => h, fun e => (by cases e)⟩
theorem splitB_dec {p : Prop} [Decidable p] {A B : Prop} (h1 : p → A) (h2 : ¬ p → B) : splitB (decide p) A B :=
  splitB_in (fun h => h1 (of_decide_eq_true h)) (fun h => h2 (of_decide_eq_false h))
theorem splitB_not {b : Bool} {A B : Prop} (h : splitB b B A) : splitB (!b) A B := by
  cases b <;> exact h
theorem WrapG.in {z : Int} {K : Int → Prop} (h1 : -9223372036854775808 ≤ z) (h2 : z ≤ 9223372036854775807) (k : K z) : WrapG .i64 z K := ⟨by rw [wrap_in h1 h2]; exact k⟩

/-! ### The head of a value is laid open -/
def fT (y : T) (K : V → Prop) : Prop := match y with
  | .int k n => K (.t (.int k n))
  | .bool b => K (.t (.bool b))
  | .str s => K (.t (.str s))
  | .any => K (.t y)
  | .sl _ _ _ => K (.t y)
  | .nilI => K (.t .nilI)
  | .ifc t v => K (.t (.ifc t v))
theorem fT_out {y : T} {K : V → Prop} (h : fT y K) : K (.t y) := by cases y <;> exact h
def fV (u : V) (K : V → Prop) : Prop := match u with
  | .un => K .un
  | .und => K .und
  | .t y => fT y K
  | .nils => K .nils
  | .nilp => K .nilp
  | .nilm => K .nilm
  | .nilf => K .nilf
  | .ptr id ver r c => K (.ptr id ver r c)
  | .fp m g => K (.fp m g)
  | .sref id ver r n => K (.sref id ver r n)
  | .mref id => K (.mref id)
  | .fn f n c => K (.fn f n c)
  | .agg n g => K (.agg n g)
  | .tup n g => K (.tup n g)
theorem fV_out {u : V} {K : V → Prop} (h : fV u K) : K u := by
  cases u with
  | t y => exact fT_out h
  | _ => exact h
/-- A small number is laid open. -/
def litN (n : Nat) (K : Nat → Prop) : Prop := match n with
  | 0 => K 0
  | 1 => K 1
  | 2 => K 2
  | 3 => K 3
  | 4 => K 4
  | 5 => K 5
  | 6 => K 6
  | 7 => K 7
  | 8 => K 8
  | 9 => K 9
  | 10 => K 10
  | 11 => K 11
  | 12 => K 12
  | 13 => K 13
  | 14 => K 14
  | 15 => K 15
  | n + 16 => K (n + 16)
theorem litN_out {n : Nat} {K : Nat → Prop} (h : litN n K) : K n := by
  unfold litN at h
  split at h <;> exact h

/-! ### Operations that only reckon -/
def evCmp (op : BinOp) (m n : Int) (K : V → Prop) : Prop := match op with
  | .eql => K (.t (.bool (decide (m = n))))
  | .neq => K (.t (.bool (!decide (m = n))))
  | .lss => K (.t (.bool (decide (m < n))))
  | .leq => K (.t (.bool (decide (m ≤ n))))
  | .gtr => K (.t (.bool (decide (n < m))))
  | .geq => K (.t (.bool (decide (n ≤ m))))
  | _ => False
def evInt (op : BinOp) (k : IntKind) (m n : Int) (K : V → Prop) : Prop := match op with
  | .add => WrapG k (m + n) fun z => K (.t (.int k z))
  | .sub => WrapG k (m - n) fun z => K (.t (.int k z))
  | .mul => WrapG k (m * n) fun z => K (.t (.int k z))
  | .quo => NeedP (n ≠ 0) (WrapG k (m.tdiv n) fun z => K (.t (.int k z)))
  | .rem => NeedP (n ≠ 0) (K (.t (.int k (m.tmod n))))
  | .and => K (.t (.int k (bitOp .and k m n)))
  | .or => K (.t (.int k (bitOp .or k m n)))
  | .xor => K (.t (.int k (bitOp .xor k m n)))
  | .andNot => K (.t (.int k (bitOp .andNot k m n)))
  | op => evCmp op m n K
def evBin [Tys P] (op : BinOp) (tx : TypeId) (u v : V) (K : V → Prop) : Prop := match u, v with
  | .t (.int k m), .t (.int k' n) => match op with
    | .shl => NeedP (0 ≤ n) (K (.t (.int k (k.wrap (m * 2 ^ (min n.toNat k.bits))))))
    | .shr => NeedP (0 ≤ n) (K (.t (.int k (m.fdiv (2 ^ (min n.toNat k.bits))))))
    | op => bif kindEq k k' then evInt op k m n K else False
  | .t (.bool p), .t (.bool q) => match (Tys.c P tx).desc with
    | some .bool => match op with
      | .eql => K (.t (.bool (p == q)))
      | .neq => K (.t (.bool (!(p == q))))
      | _ => False
    | _ => False
  | .t (.str s), .t (.str s') => match op with
    | .eql => K (.t (.bool (s.toList == s'.toList)))
    | .neq => K (.t (.bool (!(s.toList == s'.toList))))
    | _ => False
  | _, _ => False
def evLoad [Tys P] (H : Heap) (t : TypeId) (a : V) (K : V → Prop) : Prop := match a with
  | .fp m get => bif Nat.blt 0 (Tys.c P t).sz then (bif (Tys.c P t).agg then (bif Nat.ble (Tys.c P t).sz m then K (.agg (Tys.c P t).sz fun j => .t (get j)) else False) else (bif Nat.blt 0 m then fT (get 0) K else False)) else False
  | .ptr id ver r c => match H.slot id with
    | .live o => bif Nat.blt 0 (Tys.c P t).sz then (bif Nat.beq ver o.ver then needB (Nat.blt r o.n)
        (bif (Tys.c P t).agg then (bif Nat.ble (c + (Tys.c P t).sz) o.sz then K (.agg (Tys.c P t).sz fun j => o.get r (j + c)) else False) else (bif Nat.blt c o.sz then fV (o.get r c) K else False)) else False) else False
    | _ => False
  | _ => False
def evField [Tys P] (H : Heap) (t f : Nat) (a : V) (K : V → Prop) : Prop := match nth (Tys.c P t).fields f with
  | some (off, _, _) => match a with
    | .fp m get => K (.fp (m - off) (fun j => get (j + off)))
    | .ptr id ver r c => match H.slot id with
      | .live o => bif Nat.beq ver o.ver then litN (c + off) fun c' => K (.ptr id ver r c') else False
      | _ => False
    | _ => False
  | none => False
def evIndex [Tys P] (H : Heap) (t : TypeId) (a i : V) (K : V → Prop) : Prop := match (Tys.c P t).sl with
  | some (_, s, _) => match i with
    | .t (.int _ m) => match a with
      | .t (.sl sz n get) => bif Nat.beq sz s then IxG m n fun i => K (.fp sz (fun j => get i j)) else False
      | .sref id ver r len => match H.slot id with
        | .live o => bif Nat.beq ver o.ver then (bif Nat.beq o.sz s then IxG m len fun i => K (.ptr id ver (i + r) 0) else False) else False
        | _ => False
      | _ => False
    | _ => False
  | none => False
def evLen [Tys P] (H : Heap) (t : TypeId) (a : V) (K : V → Prop) : Prop := match a with
  | .t (.sl _ n _) => match (Tys.c P t).sl with
    | some _ => K (.t (.int .i64 n))
    | none => False
  | .nils => match (Tys.c P t).sl with
    | some _ => K (.t (.int .i64 0))
    | none => False
  | .sref id ver _ len => match (Tys.c P t).sl with
    | some _ => match H.slot id with
      | .live o => bif Nat.beq ver o.ver then K (.t (.int .i64 len)) else False
      | _ => False
    | none => False
  | .t (.str s) => match (Tys.c P t).desc with
    | some .string => K (.t (.int .i64 s.size))
    | _ => False
  | _ => False
def evCall [Tys P] (ev : Operand → V) (H : Heap) (b : Builtin) (args : List Operand) (ts : List TypeId) (K : V → Prop) : Prop := match b with
  | .len => match args, ts with
    | [x], [t] => evLen (P := P) H t (ev x) K
    | _, _ => False
  | .min => match args with
    | [x, y] => match ev x, ev y with
      | .t (.int k m), .t (.int k' n) => bif kindEq k k' then K (.t (.int k (if n < m then n else m))) else False
      | _, _ => False
    | _ => False
  | .max => match args with
    | [x, y] => match ev x, ev y with
      | .t (.int k m), .t (.int k' n) => bif kindEq k k' then K (.t (.int k (if n > m then n else m))) else False
      | _, _ => False
    | _ => False
  | _ => False
def strAt (s : ByteArray) (i : Nat) : Int := ((s.data.toList.getD i 0).toNat : Int)
def evO (P : Program) [Tys P] (ev : Operand → V) (H : Heap) (op : Op) (K : V → Prop) : Prop := match op with
  | .move x => fV (ev x) K
  | .assign x => fV (ev x) K
  | .pick c a b => match ev c with
    | .t (.bool v) => splitB v (fV (ev a) K) (fV (ev b) K)
    | _ => False
  | .load t a => evLoad (P := P) H t (ev a) K
  | .fieldAddr t x f => evField (P := P) H t f (ev x) K
  | .indexAddr t x y => evIndex (P := P) H t (ev x) (ev y) K
  | .binOp o tx x y _ => evBin (P := P) o tx (ev x) (ev y) K
  | .unOp o _ x => match o, ev x with
    | .not, .t (.bool b) => K (.t (.bool (!b)))
    | .neg, .t (.int k n) => WrapG k (0 - n) fun z => K (.t (.int k z))
    | .xor, .t (.int k n) => K (.t (.int k (bitOp .xor k (if k.signed then -1 else k.max) n)))
    | _, _ => False
  | .convert src dst x => match (Tys.c P src).desc, (Tys.c P dst).desc, ev x with
    | some _, some (.int k'), .t (.int _ n) => WrapG k' n fun z => K (.t (.int k' z))
    | _, _, _ => False
  | .extract x i => match ev x with
    | .tup n get => bif Nat.blt i n then fV (get i) K else False
    | _ => False
  | .nilCheck x => match ev x with
    | .fp m g => K (.fp m g)
    | .ptr id ver r c => match H.slot id with
      | .live o => bif Nat.beq ver o.ver then K (.ptr id ver r c) else False
      | _ => False
    | _ => False
  | .field t x f => match nth (Tys.c P t).fields f, ev x with
    | some (off, false, _), .agg n get => bif Nat.blt off n then fV (get off) K else False
    | _, _ => False
  | .index t x y => match (Tys.c P t).desc, ev x, ev y with
    | some .string, .t (.str s), .t (.int _ m) => IxG m s.size fun i => K (.t (.int .u8 (strAt s i)))
    | _, _, _ => False
  | .call c => match c.callee with
    | .builtin b => evCall (P := P) ev H b c.args.toList c.argTypes.toList K
    | _ => False
  | _ => False

/-! ### It is sound -/
theorem QV.ex {op : Op} {u : V} {K : V → Prop} (h : ∀ (d : Option Tmp) (ty : TypeId), QV P ⟨d, op, ty, none⟩ u st) (k : K u) : ∃ u, (∀ d ty, QV P ⟨d, op, ty, none⟩ u st) ∧ K u := ⟨u, h, k⟩
theorem kindEq_refl (k : IntKind) : kindEq k k = true := by cases k <;> rfl
theorem cond_out {b : Bool} {A : Prop} (h : bif b then A else False) : b = true ∧ A := by
  cases b
  · exact h.elim
  · exact ⟨rfl, h⟩
theorem O.min' {ats : Array TypeId} {x y : Operand} {k : IntKind} {m n : Int} (hx : st.eval x = .t (.int k m)) (hy : st.eval y = .t (.int k n)) :
    QV P ⟨d, .call { callee := .builtin .min, args := #[x, y], argTypes := ats }, ty, none⟩ (.t (.int k (if n < m then n else m))) st := fun E ι F a w r =>
  ⟨_, by simp [execOp, GOp.oper, resolve, invoke, builtin, Builtin.min_, Builtin.min2, int_eval r hx, int_eval r hy], rfl⟩
theorem O.max' {ats : Array TypeId} {x y : Operand} {k : IntKind} {m n : Int} (hx : st.eval x = .t (.int k m)) (hy : st.eval y = .t (.int k n)) :
    QV P ⟨d, .call { callee := .builtin .max, args := #[x, y], argTypes := ats }, ty, none⟩ (.t (.int k (if n > m then n else m))) st := fun E ι F a w r =>
  ⟨_, by simp [execOp, GOp.oper, resolve, invoke, builtin, Builtin.max_, Builtin.max2, int_eval r hx, int_eval r hy], rfl⟩
theorem str_eval' {E : Env} {ι : Id → Option Nat} {F : Nat → Prop} {a : Act} {w : World} (r : Rel E ι F st a w) {x : Operand} {s : ByteArray} (h : st.eval x = .t (.str s)) : a.eval x = .string s := by
  have := r.eval x
  rw [h] at this
  exact this.1
theorem O.eqlB' {tx tY : TypeId} [ht : TyDesc P tx .bool] {x y : Operand} {m n : Bool} (hx : st.eval x = .t (.bool m)) (hy : st.eval y = .t (.bool n)) : QV P ⟨d, .binOp .eql tx x y tY, ty, none⟩ (.t (.bool (m == n))) st := fun E ι F a w r => by
  refine ⟨.bool (m == n), ?_, rfl⟩
  have hg : (eqGuard .eql tx x y (.bool m) (.bool n)).run P w = .ok () w := by unfold eqGuard; rfl
  simp [execOp, GOp.oper, bool_eval r hx, bool_eval r hy, hg, run_eql_bool w _ _ _ ht.d]
theorem O.neqB' {tx tY : TypeId} [ht : TyDesc P tx .bool] {x y : Operand} {m n : Bool} (hx : st.eval x = .t (.bool m)) (hy : st.eval y = .t (.bool n)) : QV P ⟨d, .binOp .neq tx x y tY, ty, none⟩ (.t (.bool (!(m == n)))) st := fun E ι F a w r => by
  refine ⟨.bool (!(m == n)), ?_, rfl⟩
  have hg : (eqGuard .neq tx x y (.bool m) (.bool n)).run P w = .ok () w := by unfold eqGuard; rfl
  simp [execOp, GOp.oper, bool_eval r hx, bool_eval r hy, hg, run_neq_bool w _ _ _ ht.d]
theorem O.eqlStr' {tx tY : TypeId} {x y : Operand} {m n : ByteArray} (hx : st.eval x = .t (.str m)) (hy : st.eval y = .t (.str n)) : QV P ⟨d, .binOp .eql tx x y tY, ty, none⟩ (.t (.bool (m.toList == n.toList))) st := fun E ι F a w r => by
  refine ⟨.bool (m.toList == n.toList), ?_, rfl⟩
  have hg : (eqGuard .eql tx x y (.string m) (.string n)).run P w = .ok () w := by unfold eqGuard; rfl
  simp [execOp, GOp.oper, str_eval' r hx, str_eval' r hy, hg, binOp_string_eql]
theorem O.neqStr' {tx tY : TypeId} {x y : Operand} {m n : ByteArray} (hx : st.eval x = .t (.str m)) (hy : st.eval y = .t (.str n)) : QV P ⟨d, .binOp .neq tx x y tY, ty, none⟩ (.t (.bool (!(m.toList == n.toList)))) st := fun E ι F a w r => by
  refine ⟨.bool (!(m.toList == n.toList)), ?_, rfl⟩
  have hg : (eqGuard .neq tx x y (.string m) (.string n)).run P w = .ok () w := by unfold eqGuard; rfl
  simp [execOp, GOp.oper, str_eval' r hx, str_eval' r hy, hg, binOp_string_neq]
theorem strAt_eq {s : ByteArray} {i : Nat} (h : i < s.size) : ((s[i]'h).toNat : Int) = strAt s i := by
  have hs : i < s.data.toList.length := by simpa using h
  have : s.data.toList.getD i 0 = s[i] := by
    rw [List.getD_eq_getElem?_getD, List.getElem?_eq_getElem hs]; rfl
  rw [strAt, this]
theorem TySz.of [T : Tys P] {t : TypeId} (h : Nat.blt 0 (Tys.c P t).sz = true) : TySz P t (Tys.c P t).agg (Tys.c P t).sz := (T.ok t).sz h
theorem TySz.of' [T : Tys P] {t : TypeId} {a : Bool} (h : Nat.blt 0 (Tys.c P t).sz = true) (e : (Tys.c P t).agg = a) : TySz P t a (Tys.c P t).sz := e ▸ (T.ok t).sz h
theorem natBeq {a b : Nat} (h : Nat.beq a b = true) : a = b := Nat.eq_of_beq_eq_true h

theorem evLoad_sound [Tys P] {t : TypeId} {a : Operand} {K : V → Prop} (h : evLoad (P := P) st.heap t (st.eval a) K) : ∃ u, (∀ d ty, QV P ⟨d, .load t a, ty, none⟩ u st) ∧ K u := by
  unfold evLoad at h
  split at h
  · rename_i m get hx
    obtain ⟨h0, h⟩ := cond_out h
    cases ha : (Tys.c P t).agg with
    | true =>
      rw [ha] at h
      obtain ⟨h1, h⟩ := cond_out h
      have := TySz.of' h0 ha
      exact QV.ex (fun d ty => O.loadFA hx h1) h
    | false =>
      rw [ha] at h
      obtain ⟨h1, h⟩ := cond_out h
      have := TySz.of' h0 ha
      exact QV.ex (fun d ty => O.loadF hx h1) (fT_out h)
  · rename_i id ver r c hx
    split at h
    · rename_i o ho
      obtain ⟨h0, h⟩ := cond_out h
      obtain ⟨h1, h⟩ := cond_out h
      obtain ⟨h2, h⟩ := needB_out h
      cases ha : (Tys.c P t).agg with
      | true =>
        rw [ha] at h
        obtain ⟨h3, h⟩ := cond_out h
        have := TySz.of' h0 ha
        exact QV.ex (fun d ty => O.loadPA hx ho (natBeq h1) (Nat.le_of_ble_eq_true h2) (Nat.le_of_ble_eq_true h3)) h
      | false =>
        rw [ha] at h
        obtain ⟨h3, h⟩ := cond_out h
        have := TySz.of' h0 ha
        exact QV.ex (fun d ty => O.loadP hx ho (natBeq h1) (Nat.le_of_ble_eq_true h2) (Nat.le_of_ble_eq_true h3)) (fV_out h)
    · exact h.elim
  · exact h.elim

theorem evField_sound [T : Tys P] {t f : Nat} {x : Operand} {K : V → Prop} (h : evField (P := P) st.heap t f (st.eval x) K) : ∃ u, (∀ d ty, QV P ⟨d, .fieldAddr t x f, ty, none⟩ u st) ∧ K u := by
  unfold evField at h
  split at h
  · rename_i off ag s hf
    have := (T.ok t).fld f off ag s hf
    split at h
    · rename_i hx; exact QV.ex (fun d ty => O.fieldF hx) h
    · rename_i hx
      split at h
      · rename_i ho
        obtain ⟨h1, h⟩ := cond_out h
        exact QV.ex (fun d ty => O.fieldP hx ho (natBeq h1)) (litN_out h)
      · exact h.elim
    · exact h.elim
  · exact h.elim

theorem evIndex_sound [T : Tys P] {t : Nat} {x y : Operand} {K : V → Prop} (h : evIndex (P := P) st.heap t (st.eval x) (st.eval y) K) : ∃ u, (∀ d ty, QV P ⟨d, .indexAddr t x y, ty, none⟩ u st) ∧ K u := by
  unfold evIndex at h
  split at h
  · rename_i e s b hs
    have := (T.ok t).sl e s b hs
    split at h
    · rename_i k m hy
      split at h
      · rename_i sz n get hx
        obtain ⟨h2, h3⟩ := cond_out h
        clear h
        obtain rfl := natBeq h2
        exact QV.ex (fun d ty => O.indexF hx hy h3.p.1 h3.p.2) h3.k
      · rename_i hx
        split at h
        · rename_i ho
          obtain ⟨h1, h⟩ := cond_out h
          obtain ⟨h2, h⟩ := cond_out h
          exact QV.ex (fun d ty => O.indexS hx ho (natBeq h1) (natBeq h2) hy h.p.1 h.p.2) h.k
        · exact h.elim
      · exact h.elim
    · exact h.elim
  · exact h.elim

theorem evLen_sound [T : Tys P] {t : Nat} {x : Operand} {K : V → Prop} (h : evLen (P := P) st.heap t (st.eval x) K) : ∃ u, (∀ d ty, QV P ⟨d, .call { callee := .builtin .len, args := #[x], argTypes := #[t] }, ty, none⟩ u st) ∧ K u := by
  unfold evLen at h
  split at h
  · rename_i hx
    split at h
    · rename_i z hs
      obtain ⟨e, s, b⟩ := z
      have := (T.ok t).sl e s b hs
      exact QV.ex (fun d ty => O.lenF hx) h
    · exact h.elim
  · rename_i hx
    split at h
    · rename_i z hs
      obtain ⟨e, s, b⟩ := z
      have := (T.ok t).sl e s b hs
      exact QV.ex (fun d ty => O.lenN hx) h
    · exact h.elim
  · rename_i hx
    split at h
    · rename_i z hs
      obtain ⟨e, s, b⟩ := z
      have := (T.ok t).sl e s b hs
      split at h
      · rename_i ho
        obtain ⟨h1, h⟩ := cond_out h
        exact QV.ex (fun d ty => O.lenS hx ho (natBeq h1)) h
      · exact h.elim
    · exact h.elim
  · rename_i hx
    split at h
    · rename_i hd
      have := (T.ok t).desc _ hd
      exact QV.ex (fun d ty => O.lenStr hx) h
    · exact h.elim
  · exact h.elim

theorem evCmp_sound {o : BinOp} {tx tY : TypeId} {x y : Operand} {k : IntKind} {m n : Int} {K : V → Prop} (hx : st.eval x = .t (.int k m)) (hy : st.eval y = .t (.int k n)) (h : evCmp o m n K) : ∃ u, (∀ d ty, QV P ⟨d, .binOp o tx x y tY, ty, none⟩ u st) ∧ K u := by
  cases o <;> first
    | exact h.elim
    | exact QV.ex (fun d ty => O.eql hx hy) h
    | exact QV.ex (fun d ty => O.neq hx hy) h
    | exact QV.ex (fun d ty => O.lss hx hy) h
    | exact QV.ex (fun d ty => O.leq hx hy) h
    | exact QV.ex (fun d ty => O.gtr hx hy) h
    | exact QV.ex (fun d ty => O.geq hx hy) h

theorem evInt_sound {o : BinOp} {tx tY : TypeId} {x y : Operand} {k : IntKind} {m n : Int} {K : V → Prop} (hx : st.eval x = .t (.int k m)) (hy : st.eval y = .t (.int k n)) (h : evInt o k m n K) : ∃ u, (∀ d ty, QV P ⟨d, .binOp o tx x y tY, ty, none⟩ u st) ∧ K u := by
  cases o <;> first
    | exact evCmp_sound hx hy h
    | exact QV.ex (fun d ty => O.add hx hy rfl) h.out
    | exact QV.ex (fun d ty => O.sub hx hy rfl) h.out
    | exact QV.ex (fun d ty => O.mul hx hy rfl) h.out
    | exact QV.ex (fun d ty => O.quo hx hy h.p rfl) h.k.out
    | exact QV.ex (fun d ty => O.rem hx hy h.p) h.k
    | exact QV.ex (fun d ty => O.bits hx hy rfl) h

theorem evBin_sound [T : Tys P] {o : BinOp} {tx tY : TypeId} {x y : Operand} {K : V → Prop} (h : evBin (P := P) o tx (st.eval x) (st.eval y) K) : ∃ u, (∀ d ty, QV P ⟨d, .binOp o tx x y tY, ty, none⟩ u st) ∧ K u := by
  unfold evBin at h
  split at h
  · rename_i k m k' n hx hy
    split at h
    · exact QV.ex (fun d ty => O.shl hx hy h.p) h.k
    · exact QV.ex (fun d ty => O.shr hx hy h.p) h.k
    · obtain ⟨h1, h3⟩ := cond_out h
      clear h
      have := kindEq_eq h1
      subst this
      exact evInt_sound hx hy h3
  · rename_i p q hx hy
    split at h
    · rename_i hd
      have := (T.ok tx).desc _ hd
      split at h
      · exact QV.ex (fun d ty => O.eqlB' hx hy) h
      · exact QV.ex (fun d ty => O.neqB' hx hy) h
      · exact h.elim
    · exact h.elim
  · rename_i hx hy
    split at h
    · exact QV.ex (fun d ty => O.eqlStr' hx hy) h
    · exact QV.ex (fun d ty => O.neqStr' hx hy) h
    · exact h.elim
  · exact h.elim

theorem toList_eq {α : Type} {a : Array α} {l : List α} (h : a.toList = l) : a = l.toArray := by subst h; simp

theorem evCall_sound [T : Tys P] {b : Builtin} {args : Array Operand} {ats : Array TypeId} {K : V → Prop} (h : evCall (P := P) st.eval st.heap b args.toList ats.toList K) :
    ∃ u, (∀ d ty, QV P ⟨d, .call { callee := .builtin b, args := args, argTypes := ats }, ty, none⟩ u st) ∧ K u := by
  unfold evCall at h
  split at h
  · split at h
    · rename_i h1 h2
      rw [toList_eq h1, toList_eq h2]
      exact evLen_sound h
    · exact h.elim
  · split at h
    · rename_i h1
      rw [toList_eq h1]
      split at h
      · rename_i hx hy
        obtain ⟨h2, h3⟩ := cond_out h
        clear h
        have := kindEq_eq h2
        subst this
        exact QV.ex (fun d ty => O.min' hx hy) h3
      · exact h.elim
    · exact h.elim
  · split at h
    · rename_i h1
      rw [toList_eq h1]
      split at h
      · rename_i hx hy
        obtain ⟨h2, h3⟩ := cond_out h
        clear h
        have := kindEq_eq h2
        subst this
        exact QV.ex (fun d ty => O.max' hx hy) h3
      · exact h.elim
    · exact h.elim
  · exact h.elim

theorem evO_sound [T : Tys P] {op : Op} {K : V → Prop} (h : evO P st.eval st.heap op K) : ∃ u, (∀ d ty, QV P ⟨d, op, ty, none⟩ u st) ∧ K u := by
  unfold evO at h
  split at h
  · exact QV.ex (fun d ty => O.move) (fV_out h)
  · exact QV.ex (fun d ty => O.assign) (fV_out h)
  · split at h
    · rename_i v hc
      cases v with
      | true => exact QV.ex (fun d ty => O.pick_true hc) (fV_out h)
      | false => exact QV.ex (fun d ty => O.pick_false hc) (fV_out h)
    · exact h.elim
  · exact evLoad_sound h
  · exact evField_sound h
  · exact evIndex_sound h
  · exact evBin_sound h
  · split at h
    · rename_i hx; exact QV.ex (fun d ty => O.not hx) h
    · rename_i hx; exact QV.ex (fun d ty => O.neg hx rfl) h.out
    · rename_i hx; exact QV.ex (fun d ty => O.compl hx) h
    · exact h.elim
  · split at h
    · rename_i hs hd hx
      have := (T.ok _).desc _ hs
      have := (T.ok _).desc _ hd
      exact QV.ex (fun d ty => O.convInt hx rfl) h.out
    · exact h.elim
  · split at h
    · rename_i hx
      obtain ⟨h1, h⟩ := cond_out h
      exact QV.ex (fun d ty => O.extract hx h1) (fV_out h)
    · exact h.elim
  · split at h
    · rename_i hx; exact QV.ex (fun d ty => O.nilCheckF hx) h
    · rename_i hx
      split at h
      · rename_i ho
        obtain ⟨h1, h⟩ := cond_out h
        exact QV.ex (fun d ty => O.nilCheckP hx ho (natBeq h1)) h
      · exact h.elim
    · exact h.elim
  · split at h
    · rename_i hf hx
      have := (T.ok _).fld _ _ _ _ hf
      obtain ⟨h1, h⟩ := cond_out h
      exact QV.ex (fun d ty => O.field1 hx h1) (fV_out h)
    · exact h.elim
  · split at h
    · rename_i hd hx hy
      have := (T.ok _).desc _ hd
      obtain ⟨⟨p1, p2⟩, k⟩ := h
      have hlt := (Int.toNat_lt p1).2 p2
      exact QV.ex (fun d ty => strAt_eq hlt ▸ O.indexStr hx hy p1 hlt) k
    · exact h.elim
  · rename_i c
    obtain ⟨callee, args, ats⟩ := c
    split at h
    · rename_i hc
      simp only at hc
      subst hc
      exact evCall_sound h
    · exact h.elim
  · exact h.elim
end Go.Abs
