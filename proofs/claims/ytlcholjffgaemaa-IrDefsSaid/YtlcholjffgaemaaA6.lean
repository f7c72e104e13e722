/-
Operations that only read, calls of pure functions, and regions that draw their order, over abstract states.
No statement of the program is proved here.
-/
import Derived.Test.YtlcholjffgaemaaA5
set_option linter.unusedVariables false
set_option linter.unusedSimpArgs false
namespace Go.Abs
open Go

variable {P : Program} {Q : Exit → St → Prop} {st : St} {L : List GOp} {d : Option Tmp} {ty : TypeId}

/-- The world has grown; nothing old has turned. -/
structure Grow (w : World) (F : Nat → Prop) (w' : World) (F' : Nat → Prop) : Prop where
  os : w'.os = w.os
  tape : w'.tape = w.tape
  output : w'.output = w.output
  size : w.heap.size ≤ w'.heap.size
  kept : ∀ b, b < w.heap.size → w'.heap[b]? = w.heap[b]?
  up : ∀ b, F b → F' b
  inn : ∀ b, F' b → F b ∨ w.heap.size ≤ b
  lt : ∀ b, F' b → b < w'.heap.size

theorem RelH.grown {E : Env} {ι : Id → Option Nat} {F F' : Nat → Prop} {H : Heap} {w w' : World} (r : RelH E ι F H w) (g : Grow w F w' F') : RelH E ι F' H w' ∧ Ext H ι F w H ι F' w' :=
  r.grow g.os g.tape g.output g.size g.kept g.up g.inn g.lt

/-- An operation that turns nothing: its value. -/
def QO (P : Program) (g : GOp) (u : V) (st : St) : Prop := ∀ E ι F a w, Rel E ι F st a w →
  g.oper.wp P a w (fun a' w' => ∃ c F', a' = a.put g.dst c ∧ Grow w F w' F' ∧ VRel st.heap ι F' w' u c) (fun _ _ _ => False)

theorem QO.of {g : GOp} {u : V} (h : QV P g u st) : QO P g u st := fun E ι F a w r => by
  obtain ⟨v, h1, h2⟩ := h E ι F a w r
  simp only [Oper.wp, h1, Oper.upon]
  exact ⟨v, F, rfl, ⟨rfl, rfl, rfl, Nat.le_refl _, fun _ _ => rfl, fun _ h => h, fun _ h => .inl h, r.h.frlt⟩, h2⟩

theorem wp_anyQ {o : Oper} {a : Act} {w : World} {K : Act → World → Prop} {Q : Exit → Act → World → Prop} (h : o.wp P a w K (fun _ _ _ => False)) : o.wp P a w K Q := by
  unfold Oper.wp at h ⊢
  generalize (execOp a.eval o).run P w = res at h ⊢
  cases res with
  | ok n w' =>
    cases n <;> simp only [Oper.upon] at h ⊢ <;> first | exact h | exact Calls.mono h (fun e w'' he => by cases e <;> first | exact he | exact he.elim | (obtain ⟨a, w, he⟩ := he; exact he.elim))
  | halt x w' => cases x <;> simp only [Oper.upon] at h ⊢

theorem call_exec {f : FuncId} [FnOk P f] {args : Array Operand} {ats : Array TypeId} (a : Act) (w : World) :
    (execOp a.eval (GOp.oper ⟨d, .call { callee := .value (.func f), args := args, argTypes := ats }, ty, none⟩)).run P w = .ok (.enter f (args.map a.eval)) w := by
  simp [execOp, GOp.oper, resolve, Deferred.ofValue, invoke, Act.eval, callFunc_run]

theorem args_rel {E : Env} {ι : Id → Option Nat} {F : Nat → Prop} {a : Act} {w : World} (r : Rel E ι F st a w) (args : Array Operand) (j : Nat) (hj : j < (args.toList.map st.eval).length) :
    VRel st.heap ι F w ((args.toList.map st.eval).getD j .un) ((args.map a.eval).getD j undef) := by
  have hj' : j < args.size := by simpa using hj
  have e1 : (args.toList.map st.eval).getD j .un = st.eval args[j] := by simp [hj']
  have e2 : (args.map a.eval).getD j undef = a.eval args[j] := by simp [Array.getD, hj']
  rw [e1, e2]
  exact r.eval _

/-- A pure function is called with data. -/
theorem QO.call {f : FuncId} [FnOk P f] {args : Array Operand} {ats : Array TypeId} {fargs : List V} {v : V} (h : PC P f fargs v) (ha : All2 Frz (args.toList.map st.eval) fargs) :
    QO P ⟨d, .call { callee := .value (.func f), args := args, argTypes := ats }, ty, none⟩ v st := fun E ι F a w r => by
  simp only [Oper.wp, call_exec, Oper.upon]
  obtain ⟨hll, hat⟩ := ha.at_
  refine (h.out F w (args.map a.eval) r.h.frlt (by rw [← hll]; simp) (fun j hj => hat j (by omega) _ _ _ _ _ (args_rel r args j (by omega)))).mono fun e w' ⟨cv, F', h1, h2, h3, h4, h5, h6, h7, h8, h9, h10⟩ => ?_
  subst h1
  exact ⟨cv, F', rfl, ⟨h2, h3, h4, h5, h6, h7, h8, h9⟩, h10.of_none⟩

/-- A pure function is called with the state's own memory. -/
theorem QO.callB {f : FuncId} [FnOk P f] {args : Array Operand} {ats : Array TypeId} {fargs : List V} {v : V} (h : PC P f fargs v) (ha : All2 (FrzB st.heap) (args.toList.map st.eval) fargs) (hs : Scal v) :
    QO P ⟨d, .call { callee := .value (.func f), args := args, argTypes := ats }, ty, none⟩ v st := fun E ι F a w r => by
  simp only [Oper.wp, call_exec, Oper.upon]
  obtain ⟨hll, hat⟩ := ha.at_
  refine (h.out (With F st.heap ι) w (args.map a.eval) (fun b hb => ?_) (by rw [← hll]; simp) (fun j hj => hat j (by omega) _ _ _ _ _ r.h (args_rel r args j (by omega)))).mono fun e w' ⟨cv, F', h1, h2, h3, h4, h5, h6, h7, h8, h9, h10⟩ => ?_
  · rcases hb with hb | ⟨id, h1, h2⟩
    · exact r.h.frlt b hb
    · exact r.h.lt id b h1 h2
  · subst h1
    exact ⟨cv, F, rfl, ⟨h2, h3, h4, h5, h6, fun _ h => h, fun _ h => .inl h, fun b hb => Nat.lt_of_lt_of_le (r.h.frlt b hb) h5⟩, hs _ _ _ h10 _ _ _ _⟩

/-- In a list of operations. -/
theorem SL.q {op : Op} {u : V} (h : QO P ⟨d, op, ty, none⟩ u st) (k : SL P L Q (st.put d u)) : SL P (⟨d, op, ty, none⟩ :: L) Q st :=
  ⟨fun E ι F a w r => by
    have hw : GOp.wanted ⟨d, op, ty, none⟩ a.tmps = true := rfl
    simp only [lwp, hw, if_true]
    have h1 := h E ι F a w r
    refine Oper.wp_mono (K := fun a' w' => ∃ c F', a' = a.put d c ∧ Grow w F w' F' ∧ VRel st.heap ι F' w' u c) (fun a' w' ⟨c, F', e, g, v⟩ => ?_) (wp_anyQ h1)
    subst e
    obtain ⟨r2, x2⟩ := r.h.grown g
    exact k.out E ι F' _ _ (r.put r2 x2 d v)⟩
theorem SL.o {op : Op} {u : V} (h : QV P ⟨d, op, ty, none⟩ u st) (k : SL P L Q (st.put d u)) : SL P (⟨d, op, ty, none⟩ :: L) Q st := SL.q (QO.of h) k

/-! ### Regions that draw their order -/
def memT : List Tmp → Tmp → Bool
  | [], _ => false
  | x :: l, t => Nat.beq t x || memT l t
def St.only (st : St) (xs : List Tmp) : St := { st with env := fun t => bif memT xs t then st.env t else .un }
def rdOperand : Operand → List Tmp
  | .tmp t => [t]
  | _ => []
def rds (op : Op) : List Tmp := op.operands.toList.flatMap rdOperand

theorem memT_iff (l : List Tmp) (t : Tmp) : memT l t = true ↔ t ∈ l := by
  induction l with
  | nil => simp [memT]
  | cons x l ih =>
    simp only [memT, Bool.or_eq_true, ih, List.mem_cons]
    constructor
    · rintro (h | h)
      · exact .inl (Nat.eq_of_beq_eq_true h)
      · exact .inr h
    · rintro (h | h)
      · subst h; simp
      · exact .inr h

/-- What one operation does in the order of the text: its value, its guard looked at. -/
def QG (P : Program) (g : GOp) (u : V) (st : St) : Prop :=
  match g.g with
  | none => QO P ⟨g.dst, g.op, g.type, none⟩ u (st.only (rds g.op))
  | some (some t, want) => (Nat.blt t st.nt = true ∧ ∃ b, st.env t = .t (.bool b) ∧ (b = want → QO P ⟨g.dst, g.op, g.type, none⟩ u (st.only (rds g.op))) ∧ (b = !want → u = .und)) ∨ (st.env t = .und ∧ u = .und)
  | some (none, _) => False

/-- Operations that turn nothing, in the order of the text. -/
inductive QS (P : Program) (K : St → Prop) : List GOp → St → Prop where
  | nil {st : St} (h : K st) : QS P K [] st
  | cons {g : GOp} {L : List GOp} {st : St} (u : V) (h : QG P g u st) (k : QS P K L (st.put g.dst u)) : QS P K (g :: L) st

variable {K : St → Prop}
theorem QS.q {op : Op} {u : V} (h : QO P ⟨d, op, ty, none⟩ u (st.only (rds op))) (k : QS P K L (st.put d u)) : QS P K (⟨d, op, ty, none⟩ :: L) st := .cons u h k
theorem QS.o {op : Op} {u : V} (h : QV P ⟨d, op, ty, none⟩ u (st.only (rds op))) (k : QS P K L (st.put d u)) : QS P K (⟨d, op, ty, none⟩ :: L) st := .cons u (QO.of h) k
/-- The guard says yes. -/
theorem QS.gq {op : Op} {u : V} {t : Tmp} {want : Bool} (hb : st.env t = .t (.bool want)) (hlt : Nat.blt t st.nt = true) (h : QO P ⟨d, op, ty, none⟩ u (st.only (rds op))) (k : QS P K L (st.put d u)) :
    QS P K (⟨d, op, ty, some (some t, want)⟩ :: L) st := .cons u (.inl ⟨hlt, want, hb, fun _ => h, fun e => by cases want <;> cases e⟩) k
theorem QS.go {op : Op} {u : V} {t : Tmp} {want : Bool} (hb : st.env t = .t (.bool want)) (hlt : Nat.blt t st.nt = true) (h : QV P ⟨d, op, ty, none⟩ u (st.only (rds op))) (k : QS P K L (st.put d u)) :
    QS P K (⟨d, op, ty, some (some t, want)⟩ :: L) st := QS.gq hb hlt (QO.of h) k
/-- The guard says no. -/
theorem QS.gn {op : Op} {t : Tmp} {want : Bool} (hb : st.env t = .t (.bool (!want))) (hlt : Nat.blt t st.nt = true) (k : QS P K L (st.put d .und)) :
    QS P K (⟨d, op, ty, some (some t, want)⟩ :: L) st := .cons .und (by
    refine .inl ⟨hlt, !want, hb, fun e => ?_, fun _ => rfl⟩
    cases want <;> cases e) k
theorem QS.gu {op : Op} {t : Tmp} {want : Bool} (hb : st.env t = .und) (k : QS P K L (st.put d .und)) :
    QS P K (⟨d, op, ty, some (some t, want)⟩ :: L) st := .cons .und (.inr ⟨hb, rfl⟩) k

/-- All orders, from where the operations D have been done. -/
structure AnyL (P : Program) (A : Array Oper) (D : List Nat) (Q : Exit → St → Prop) (st : St) : Prop where
  mk :: (out : ∀ E ι F a w fuel (listed : Array Bool), Rel E ι F st a w → listed.size = A.size → (∀ k, k < A.size → listed.getD k true = D.contains k) → D.Nodup → (∀ k ∈ D, k < A.size) →
    A.size ≤ fuel + D.length → wpAny P .any A (conc E Q) fuel listed a w)

theorem SC.draw {id : Nat} {A : Array Oper} (hm : P.follows .mixedOrders = true) (h : AnyL P A [] Q st) : SC P (.region id A true) Q st :=
  ⟨fun E ι F a w r => wp_region_any hm (by
    obtain ⟨r1, x1⟩ := r.h.same (w' := { w with drawn := w.drawn + 1 }) rfl rfl rfl rfl
    exact h.out E ι F a _ A.size _ ⟨r1, fun t => x1 _ _ (r.env t), r.nt, r.defers⟩ (by simp) (fun k hk => by simp [hk]) List.nodup_nil (fun k hk => by cases hk) (by simp))⟩

def allIn (n : Nat) (D : List Nat) : Bool := (List.range n).all fun k => D.contains k

theorem AnyL.done {A : Array Oper} {D : List Nat} (hc : allIn A.size D = true) (h : Q .normal st) : AnyL P A D Q st :=
  ⟨fun E ι F a w fuel listed r hs hl _ _ _ => wpAny_done (by
    cases hr : Region.ready .any A listed with
    | nil => rfl
    | cons x xs =>
      have hx : x ∈ Region.ready .any A listed := by rw [hr]; exact List.mem_cons_self
      obtain ⟨h0, o, ho, _⟩ := mem_ready.1 hx
      have hlt := (Array.getElem?_eq_some_iff.1 ho).1
      have := hl x hlt
      rw [h0] at this
      simp only [allIn, List.all_eq_true, List.mem_range] at hc
      rw [hc x hlt] at this; cases this) ⟨ι, F, st, r, h⟩ fuel⟩

/-- The edges that bind. -/
def edges (A : Array Oper) (k : Nat) : List Nat := match A[k]? with
  | none => []
  | some o => (o.after.toList.filter (Region.binds .any)).map (·.on)

/-- What must be done ahead: a table of bits. -/
def anc (A : Array Oper) (k : Nat) : Nat := (Region.before A).getD k 0

/-- T is closed downward. -/
def Closed (A : Array Oper) (T : Nat → Prop) : Prop := ∀ i, T i → ∀ e ∈ edges A i, T e

def befStep (acc : Array Nat) (o : Oper) : Array Nat :=
  acc.push (o.after.foldl (fun s e => if Region.binds .any e then s ||| 2 ^ e.on ||| acc.getD e.on 0 else s) 0)

theorem bef_inner (l : List Edge) (acc : Array Nat) (T : Nat → Prop) (hacc : ∀ j x, (acc.getD j 0).testBit x = true → T j → T x) (hT : ∀ e ∈ l, Region.binds .any e = true → T e.on) :
    ∀ s : Nat, (∀ x, s.testBit x = true → T x) → ∀ x, (l.foldl (fun s e => if Region.binds .any e then s ||| 2 ^ e.on ||| acc.getD e.on 0 else s) s).testBit x = true → T x := by
  induction l with
  | nil => exact fun s hs x hx => hs x hx
  | cons e l ih =>
    intro s hs x hx
    simp only [List.foldl_cons] at hx
    refine ih (fun e he => hT e (List.mem_cons_of_mem _ he)) _ ?_ x hx
    intro y hy
    split at hy
    · rename_i hb
      rw [Nat.testBit_or, Nat.testBit_or, Bool.or_eq_true, Bool.or_eq_true] at hy
      have he := hT e List.mem_cons_self hb
      rcases hy with (hy | hy) | hy
      · exact hs y hy
      · rw [Nat.testBit_two_pow] at hy
        have : e.on = y := by simpa using hy
        exact this ▸ he
      · exact hacc _ _ hy he
    · exact hs y hy

theorem bef_spec (A : Array Oper) (T : Nat → Prop) (hT : Closed A T) : ∀ (l : List Oper) (acc : Array Nat), A.toList.drop acc.size = l → (∀ j x, (acc.getD j 0).testBit x = true → (∀ e ∈ edges A j, T e) → T x) →
    ∀ j x, (((l.foldl befStep acc)).getD j 0).testBit x = true → (∀ e ∈ edges A j, T e) → T x
  | [], acc, hd, hacc, j, x, h, he => hacc j x h he
  | o :: l, acc, hd, hacc, j, x, h, he => by
    have ho : A[acc.size]? = some o := by
      have := congrArg (·[0]?) hd
      simpa using this
    refine bef_spec A T hT l (befStep acc o) ?_ ?_ j x h he
    · have := congrArg (·.drop 1) hd
      simpa [befStep, List.drop_drop, Nat.add_comm] using this
    · intro j x hx he
      simp only [befStep, Array.getD_eq_getD_getElem?, Array.getElem?_push] at hx
      split at hx
      · rename_i hj
        simp only [Option.getD_some] at hx
        rw [← Array.foldl_toList] at hx
        refine bef_inner o.after.toList acc T (fun j' y hy hj' => hacc j' y hy (hT j' hj')) (fun e hel hb => ?_) 0 (fun x hx => by simp at hx) x (by simpa only [Array.getD_eq_getD_getElem?] using hx)
        refine he e.on ?_
        subst hj
        simp only [edges, ho]
        exact List.mem_map.2 ⟨e, List.mem_filter.2 ⟨hel, hb⟩, rfl⟩
      · exact hacc j x (by rw [Array.getD_eq_getD_getElem?]; exact hx) he

theorem anc_spec {A : Array Oper} {T : Nat → Prop} (hT : Closed A T) {j x : Nat} (h : (anc A j).testBit x = true) (he : ∀ e ∈ edges A j, T e) : T x := by
  have e : Region.before A = A.toList.foldl befStep #[] := by
    unfold Region.before
    rw [← Array.foldl_toList]
    rfl
  unfold anc at h
  rw [e] at h
  refine bef_spec A T hT A.toList #[] rfl (fun j x h => ?_) j x h he
  simp at h

def dstOf (A : Array Oper) (k : Nat) : Option Tmp := (A[k]?).bind (·.dst)
def looks (A : Array Oper) (k : Nat) : List Tmp := match A[k]? with
  | none => []
  | some o => rds o.op ++ match o.guard with
    | none => []
    | some (j, _) => match (A[j]?).bind (·.dst) with | some t => [t] | none => []

def clash (A : Array Oper) (j i : Nat) : Bool := match dstOf A j with
  | none => false
  | some t => memT (looks A i) t

def sameDst (A : Array Oper) (i j : Nat) : Bool := match dstOf A i, dstOf A j with
  | some s, some t => Nat.beq s t
  | _, _ => false

/-- May the operations X go in any order? -/
def chkSeq (A : Array Oper) (ab : Array Nat) : List Nat → List Nat → Bool
  | _, [] => true
  | early, i :: late =>
    (early.all fun j => (!clash A j i || (ab.getD i 0).testBit j) && !sameDst A i j && !(Nat.beq i j)) &&
    (late.all fun j => (!clash A j i || (ab.getD j 0).testBit i)) && chkSeq A ab (early ++ [i]) late

def chkTop (A : Array Oper) (D : List Nat) : List Nat → List Nat → Bool
  | _, [] => true
  | early, i :: late => ((edges A i).all fun e => D.contains e || early.contains e) && chkTop A D (early ++ [i]) late

def chk (A : Array Oper) (D X : List Nat) : Bool :=
  let ab := Region.before A
  (X.all fun i => Nat.blt i A.size && !D.contains i) &&
  (D.all fun k => (edges A k).all fun e => D.contains e) &&
  ((List.range A.size).all fun k => D.contains k || X.contains k || X.all fun x => (ab.getD k 0).testBit x) &&
  chkSeq A ab [] X && chkTop A D [] X

def opAt (A : Array Oper) (i : Nat) : GOp := Oper.gop A.toList (A.getD i default)

def puts (A : Array Oper) (us : Nat → V) : List Nat → St → St
  | [], st => st
  | i :: X, st => puts A us X (st.put (opAt A i).dst (us i))

theorem put_heap (st : St) (d : Option Tmp) (u : V) : (st.put d u).heap = st.heap := by cases d <;> rfl
theorem put_nt (st : St) (d : Option Tmp) (u : V) : (st.put d u).nt = st.nt := by cases d <;> rfl
theorem puts_heap (A : Array Oper) (us : Nat → V) (X : List Nat) : ∀ st : St, (puts A us X st).heap = st.heap := by
  induction X with
  | nil => exact fun st => rfl
  | cons i X ih => intro st; rw [puts, ih, put_heap]
theorem puts_nt (A : Array Oper) (us : Nat → V) (X : List Nat) : ∀ st : St, (puts A us X st).nt = st.nt := by
  induction X with
  | nil => exact fun st => rfl
  | cons i X ih => intro st; rw [puts, ih, put_nt]

theorem put_env_ne (st : St) (d : Option Tmp) (u : V) (t : Tmp) (h : d ≠ some t) : (st.put d u).env t = st.env t := by
  cases d with
  | none => rfl
  | some d =>
    have : Nat.beq t d = false := by
      cases hb : Nat.beq t d with
      | false => rfl
      | true => exact absurd (by rw [Nat.eq_of_beq_eq_true hb]) h
    simp [St.put, this]
theorem put_env_eq (st : St) (u : V) (t : Tmp) : (st.put (some t) u).env t = bif Nat.blt t st.nt then u else .un := by simp [St.put]

theorem puts_not (A : Array Oper) (us : Nat → V) (t : Tmp) (X : List Nat) : ∀ st : St, (∀ i ∈ X, (opAt A i).dst ≠ some t) → (puts A us X st).env t = st.env t := by
  induction X with
  | nil => exact fun st _ => rfl
  | cons i X ih =>
    intro st h
    rw [puts, ih _ (fun j hj => h j (List.mem_cons_of_mem _ hj)), put_env_ne _ _ _ _ (h i List.mem_cons_self)]

/-- Each slot is written once. -/
def OneDst (A : Array Oper) (X : List Nat) : Prop := ∀ i ∈ X, ∀ j ∈ X, ∀ t, (opAt A i).dst = some t → (opAt A j).dst = some t → i = j

theorem puts_mem (A : Array Oper) (us : Nat → V) (t : Tmp) (i : Nat) (hi : (opAt A i).dst = some t) (X : List Nat) : ∀ st : St, OneDst A X → X.Nodup → i ∈ X → (puts A us X st).env t = bif Nat.blt t st.nt then us i else .un := by
  induction X with
  | nil => intro st _ _ h; cases h
  | cons k X ih =>
    intro st h1 hnd hm
    rw [puts]
    by_cases hk : i = k
    · subst hk
      have hni : i ∉ X := (List.nodup_cons.1 hnd).1
      rw [puts_not _ _ _ _ _ (fun j hj e => hni (by have := h1 i List.mem_cons_self j (List.mem_cons_of_mem _ hj) t hi e; rw [this]; exact hj)), hi, put_env_eq]
    · have hm' : i ∈ X := by
        rcases List.mem_cons.1 hm with h | h
        · exact absurd h hk
        · exact h
      rw [ih _ (fun a ha b hb => h1 a (List.mem_cons_of_mem _ ha) b (List.mem_cons_of_mem _ hb)) (List.nodup_cons.1 hnd).2 hm', put_nt]

theorem QS.split {A : Array Oper} {K : St → Prop} : ∀ (X : List Nat) (st : St), X.Nodup → QS P K (X.map (opAt A)) st →
    ∃ us : Nat → V, (∀ p i s, X = p ++ i :: s → QG P (opAt A i) (us i) (puts A us p st)) ∧ K (puts A us X st)
  | [], st, _, h => by
    cases h with
    | nil h =>
      refine ⟨fun _ => .un, ?_, h⟩
      intro p i s e
      cases p <;> cases e
  | i :: X, st, hnd, h => by
    cases h with
    | cons u hu k =>
      obtain ⟨us, h1, h2⟩ := QS.split X _ (List.nodup_cons.1 hnd).2 k
      have hni : i ∉ X := (List.nodup_cons.1 hnd).1
      have hus : ∀ (Y : List Nat), (∀ j ∈ Y, j ∈ X) → ∀ st', puts A (fun j => if j = i then u else us j) Y st' = puts A us Y st' := by
        intro Y
        induction Y with
        | nil => exact fun _ _ => rfl
        | cons j Y ih =>
          intro hY st'
          have hji : j ≠ i := fun e => hni (e ▸ hY j List.mem_cons_self)
          simp only [puts, if_neg hji]
          exact ih (fun x hx => hY x (List.mem_cons_of_mem _ hx)) _
      refine ⟨fun j => if j = i then u else us j, fun p j s e => ?_, ?_⟩
      · cases p with
        | nil =>
          simp only [List.nil_append, List.cons.injEq] at e
          obtain ⟨rfl, rfl⟩ := e
          simp only [if_true, puts]; exact hu
        | cons q p =>
          simp only [List.cons_append, List.cons.injEq] at e
          obtain ⟨rfl, rfl⟩ := e
          have hj : j ∈ p ++ j :: s := by simp
          have hji : j ≠ i := fun e => hni (e ▸ hj)
          simp only [puts, if_true, if_neg hji]
          rw [hus p (fun x hx => by simp [hx])]
          exact h1 p j s rfl
      · simp only [puts, if_true]
        rw [hus X (fun _ h => h)]
        exact h2

theorem Rel.congr {E : Env} {ι : Id → Option Nat} {F : Nat → Prop} {st st' : St} {a : Act} {w : World} (h : Rel E ι F st a w) (hh : st'.heap = st.heap) (hn : st'.nt = st.nt) (he : ∀ t, st'.env t = st.env t ∨ st'.env t = .un) : Rel E ι F st' a w := by
  refine ⟨hh ▸ h.h, fun t => ?_, by rw [hn]; exact h.nt, h.defers⟩
  rcases he t with e | e
  · rw [e, hh]; exact h.env t
  · rw [e]; exact trivial

theorem nodup_len : ∀ (n : Nat) (T : List Nat), T.Nodup → (∀ k ∈ T, k < n) → T.length ≤ n
  | 0, T, _, h => by
    cases T with
    | nil => exact Nat.le_refl _
    | cons x T => exact absurd (h x List.mem_cons_self) (Nat.not_lt_zero _)
  | n + 1, T, hnd, h => by
    have h1 := nodup_len n (T.erase n) (hnd.erase n) (fun k hk => by
      have hk' := List.mem_of_mem_erase hk
      have := h k hk'
      have hne : k ≠ n := fun e => by
        subst e
        exact absurd hk (hnd.not_mem_erase)
      omega)
    by_cases hm : n ∈ T
    · rw [List.length_erase_of_mem hm] at h1; omega
    · rw [List.erase_of_not_mem hm] at h1; omega

/-- A hearing of 'listed' as a list. -/
def Hears (A : Array Oper) (listed : Array Bool) (T : List Nat) : Prop := listed.size = A.size ∧ ∀ k, k < A.size → listed.getD k true = T.contains k

theorem Hears.getF {A : Array Oper} {listed : Array Bool} {T : List Nat} (h : Hears A listed T) {k : Nat} (hk : listed.getD k false = true) : k < A.size ∧ k ∈ T := by
  have hlt : k < listed.size := by
    rcases Nat.lt_or_ge k listed.size with h | h
    · exact h
    · rw [Array.getD_eq_getD_getElem?, Array.getElem?_eq_none h] at hk; cases hk
  have hlt' : k < A.size := h.1 ▸ hlt
  refine ⟨hlt', ?_⟩
  have := h.2 k hlt'
  rw [Array.getD_eq_getD_getElem?, Array.getElem?_eq_getElem hlt] at this hk
  simp only [Option.getD_some] at this hk
  rw [hk] at this
  simpa using this.symm

theorem Hears.ready {A : Array Oper} {listed : Array Bool} {T : List Nat} (h : Hears A listed T) {k : Nat} (hk : k ∈ Region.ready .any A listed) : k < A.size ∧ k ∉ T ∧ ∀ e ∈ edges A k, e ∈ T := by
  obtain ⟨h0, o, ho, he⟩ := mem_ready.1 hk
  have hlt := (Array.getElem?_eq_some_iff.1 ho).1
  refine ⟨hlt, ?_, fun e hm => ?_⟩
  · have := h.2 k hlt
    rw [h0] at this
    intro hc
    rw [List.contains_iff_mem.2 hc] at this; cases this
  · simp only [edges, ho, List.mem_map, List.mem_filter] at hm
    obtain ⟨e', ⟨h1, h2⟩, rfl⟩ := hm
    exact (h.getF (he e' (by simpa using h1) h2)).2

theorem Hears.toReady {A : Array Oper} {listed : Array Bool} {T : List Nat} (h : Hears A listed T) {k : Nat} (hlt : k < A.size) (hT : k ∉ T) (he : ∀ e ∈ edges A k, e ∈ T ∧ e < A.size) : k ∈ Region.ready .any A listed := by
  refine mem_ready.2 ⟨?_, A[k], Array.getElem?_eq_getElem hlt, fun e hm hb => ?_⟩
  · rw [h.2 k hlt]
    cases hc : T.contains k with
    | false => rfl
    | true => exact absurd (List.contains_iff_mem.1 hc) hT
  · have hmem : e.on ∈ edges A k := by
      simp only [edges, Array.getElem?_eq_getElem hlt]
      exact List.mem_map.2 ⟨e, List.mem_filter.2 ⟨by simpa using hm, hb⟩, rfl⟩
    obtain ⟨h1, h2⟩ := he _ hmem
    have h3 := h.2 e.on h2
    rw [List.contains_iff_mem.2 h1] at h3
    have hsz : e.on < listed.size := by rw [h.1]; exact h2
    rw [Array.getD_eq_getD_getElem?, Array.getElem?_eq_getElem hsz] at h3 ⊢
    exact h3

theorem Hears.set {A : Array Oper} {listed : Array Bool} {T : List Nat} (h : Hears A listed T) (i : Nat) : Hears A (listed.setIfInBounds i true) (T ++ [i]) := by
  refine ⟨by simp [h.1], fun k hk => ?_⟩
  have hk' : k < listed.size := by rw [h.1]; exact hk
  by_cases hik : i = k
  · subst hik
    rw [Array.getD_eq_getD_getElem?, Array.getElem?_setIfInBounds_self_of_lt hk']
    simp
  · rw [Array.getD_eq_getD_getElem?, Array.getElem?_setIfInBounds_ne hik, ← Array.getD_eq_getD_getElem?, h.2 k hk]
    have : (k == i) = false := by simp; exact fun e => hik e.symm
    simp [List.contains_eq_any_beq, List.any_append, this]
    intro h; exact absurd h.symm hik

theorem chkSeq_nodup {A : Array Oper} {ab : Array Nat} : ∀ (late early : List Nat), chkSeq A ab early late = true → late.Nodup ∧ ∀ x ∈ late, x ∉ early
  | [], early, _ => ⟨List.nodup_nil, fun x hx => by cases hx⟩
  | k :: late, early, h => by
    simp only [chkSeq, Bool.and_eq_true, List.all_eq_true, Bool.not_eq_true'] at h
    obtain ⟨⟨h1, h2⟩, h3⟩ := h
    obtain ⟨g1, g2⟩ := chkSeq_nodup late (early ++ [k]) h3
    refine ⟨List.nodup_cons.2 ⟨fun hk => g2 k hk (by simp), g1⟩, fun x hx hxe => ?_⟩
    rcases List.mem_cons.1 hx with h | h
    · subst h
      have := (h1 x hxe).2
      simp at this
    · exact g2 x h (List.mem_append_left _ hxe)

theorem nodup_sub : ∀ (S X : List Nat), S.Nodup → (∀ x ∈ S, x ∈ X) → S.length ≤ X.length
  | [], X, _, _ => Nat.zero_le _
  | a :: S, X, hn, h => by
    have ha := h a List.mem_cons_self
    have h1 := nodup_sub S (X.erase a) (List.nodup_cons.1 hn).2 (fun x hx => by
      have hne : x ≠ a := fun e => (List.nodup_cons.1 hn).1 (e ▸ hx)
      exact (List.mem_erase_of_ne hne).2 (h x (List.mem_cons_of_mem _ hx)))
    rw [List.length_erase_of_mem ha] at h1
    have := List.length_pos_of_mem ha
    simp only [List.length_cons]; omega

theorem nodup_full {S X : List Nat} (hn : S.Nodup) (h : ∀ x ∈ S, x ∈ X) (hl : X.length ≤ S.length) : ∀ x ∈ X, x ∈ S := fun x hx => Classical.byContradiction fun hxS => by
  have := nodup_sub (x :: S) X (List.nodup_cons.2 ⟨hxS, hn⟩) (fun y hy => by
    rcases List.mem_cons.1 hy with e | e
    · exact e ▸ hx
    · exact h y e)
  simp only [List.length_cons] at this; omega

theorem chkSeq_spec {A : Array Oper} {ab : Array Nat} : ∀ (late early : List Nat), chkSeq A ab early late = true → ∀ p i s, late = p ++ i :: s →
    (∀ j ∈ early ++ p, (clash A j i = true → (ab.getD i 0).testBit j = true) ∧ sameDst A i j = false ∧ i ≠ j) ∧ (∀ j ∈ s, clash A j i = true → (ab.getD j 0).testBit i = true)
  | [], early, _, p, i, s, e => by cases p <;> cases e
  | k :: late, early, h, p, i, s, e => by
    simp only [chkSeq, Bool.and_eq_true, List.all_eq_true, Bool.or_eq_true, Bool.not_eq_true'] at h
    obtain ⟨⟨h1, h2⟩, h3⟩ := h
    cases p with
    | nil =>
      simp only [List.nil_append, List.cons.injEq] at e
      obtain ⟨rfl, rfl⟩ := e
      refine ⟨fun j hj => ?_, fun j hj hc => ?_⟩
      · obtain ⟨⟨g1, g2⟩, g3⟩ := h1 j (by simpa using hj)
        refine ⟨fun hc => ?_, g2, fun e => ?_⟩
        · rcases g1 with g | g
          · rw [g] at hc; cases hc
          · exact g
        · subst e; simp at g3
      · rcases h2 j hj with g | g
        · rw [g] at hc; cases hc
        · exact g
    | cons q p =>
      simp only [List.cons_append, List.cons.injEq] at e
      obtain ⟨rfl, rfl⟩ := e
      have := chkSeq_spec (p ++ i :: s) (early ++ [k]) h3 p i s rfl
      simpa using this

theorem chkTop_spec {A : Array Oper} {D : List Nat} : ∀ (late early : List Nat), chkTop A D early late = true → ∀ p i s, late = p ++ i :: s → ∀ e ∈ edges A i, e ∈ D ∨ e ∈ early ++ p
  | [], early, _, p, i, s, e => by cases p <;> cases e
  | k :: late, early, h, p, i, s, e => by
    simp only [chkTop, Bool.and_eq_true, List.all_eq_true, Bool.or_eq_true] at h
    obtain ⟨h1, h3⟩ := h
    cases p with
    | nil =>
      simp only [List.nil_append, List.cons.injEq] at e
      obtain ⟨rfl, rfl⟩ := e
      intro x hx
      simpa using h1 x hx
    | cons q p =>
      simp only [List.cons_append, List.cons.injEq] at e
      obtain ⟨rfl, rfl⟩ := e
      have := chkTop_spec (p ++ i :: s) (early ++ [k]) h3 p i s rfl
      simpa using this

theorem opAt_dst (A : Array Oper) (i : Nat) (hi : i < A.size) : (opAt A i).dst = dstOf A i := by
  simp [opAt, Oper.gop, dstOf, Array.getD, hi]

theorem split_mem {X : List Nat} {i : Nat} (h : i ∈ X) : ∃ p s, X = p ++ i :: s := List.append_of_mem h

theorem wp_gop (P : Program) {o : Oper} {all : List Oper} {a : Act} {w : World} {K : Act → World → Prop} {Q : Exit → Act → World → Prop}
    (h : (GOp.oper ⟨(Oper.gop all o).dst, (Oper.gop all o).op, (Oper.gop all o).type, none⟩).wp P a w K Q) : o.wp P a w K Q := wp_oper P o none a w K Q h

/-- OPERATIONS THAT TURN NOTHING, IN WHATEVER ORDER: reckoned in the order of the text. -/
theorem AnyL.quiet {A : Array Oper} {D : List Nat} (X : List Nat) (hc : chk A D X = true) (h : QS P (AnyL P A (D ++ X) Q) (X.map (opAt A)) st) : AnyL P A D Q st := by
  simp only [chk, Bool.and_eq_true, List.all_eq_true, Bool.or_eq_true, List.mem_range, Bool.not_eq_true'] at hc
  obtain ⟨⟨⟨⟨c1, c2⟩, c3⟩, c4⟩, c5⟩ := hc
  have hXD : ∀ i ∈ X, i < A.size ∧ i ∉ D := fun i hi => ⟨Nat.le_of_ble_eq_true (c1 i hi).1, fun hm => by have := (c1 i hi).2; rw [List.contains_iff_mem.2 hm] at this; cases this⟩
  have hnd : X.Nodup := (chkSeq_nodup X [] c4).1
  have hsp := fun p i s e => chkSeq_spec X [] c4 p i s e
  have hdst : ∀ i ∈ X, (opAt A i).dst = dstOf A i := fun i hi => opAt_dst A i (hXD i hi).1
  have hone : OneDst A X := by
    intro i hi j hj t h1 h2
    rw [hdst i hi] at h1
    rw [hdst j hj] at h2
    have key : ∀ a b, a ∈ X → b ∈ X → dstOf A a = some t → dstOf A b = some t → ∀ p s, X = p ++ a :: s → b ∉ p := by
      intro a b ha hb e1 e2 p s e hm
      have := ((hsp p a s e).1 b (by simpa using hm)).2.1
      simp [sameDst, e1, e2] at this
    obtain ⟨p, s, e⟩ := split_mem hi
    have hjX := hj
    rw [e] at hj
    rcases List.mem_append.1 hj with hj | hj
    · exact absurd hj (key i j hi hjX h1 h2 p s e)
    · rcases List.mem_cons.1 hj with hj | hj
      · exact hj.symm
      · obtain ⟨p', s', e'⟩ := split_mem hj
        exact absurd (show i ∈ p ++ i :: p' by simp) (key j i hjX hi h2 h1 (p ++ i :: p') s' (by rw [e, e']; simp))
  obtain ⟨us, hus, hK⟩ := QS.split X st hnd h
  refine ⟨fun E ι F a w fuel listed r hs hl hDn hDlt hfuel => ?_⟩
  have main : ∀ (m : Nat) (S : List Nat), X.length - S.length = m → S.Nodup → (∀ x ∈ S, x ∈ X) → Closed A (fun k => k ∈ D ∨ k ∈ S) → ∀ (F : Nat → Prop) (a : Act) (w : World) (fuel : Nat) (listed : Array Bool),
      Rel E ι F (puts A us (X.filter (S.contains ·)) st) a w → Hears A listed (D ++ S) → A.size ≤ fuel + D.length + S.length → wpAny P .any A (conc E Q) fuel listed a w := by
    intro m
    induction m with
    | zero =>
      intro S hm hSn hSX hcl F a w fuel listed r hh hf
      have hlen : S.length ≤ X.length := nodup_sub S X hSn hSX
      have hXS : ∀ x ∈ X, x ∈ S := nodup_full hSn hSX (by omega)
      have hfil : X.filter (S.contains ·) = X := List.filter_eq_self.2 fun x hx => List.contains_iff_mem.2 (hXS x hx)
      rw [hfil] at r
      refine hK.out E ι F a w fuel listed r hh.1 (fun k hk => ?_) ?_ (fun k hk => ?_) (by rw [List.length_append]; omega)
      · rw [hh.2 k hk]
        have e1 : (D ++ S).contains k = true ↔ (D ++ X).contains k = true := by
          rw [List.contains_iff_mem, List.contains_iff_mem, List.mem_append, List.mem_append]
          exact ⟨fun h => h.imp id (hSX k), fun h => h.imp id (hXS k)⟩
        cases h1 : (D ++ S).contains k <;> cases h2 : (D ++ X).contains k <;> simp_all
      · exact List.nodup_append.2 ⟨hDn, hnd, fun x hx y hy e => (hXD y hy).2 (e ▸ hx)⟩
      · rcases List.mem_append.1 hk with h | h
        · exact hDlt k h
        · exact (hXD k h).1
    | succ m ih =>
      intro S hm hSn hSX hcl F a w fuel listed r hh hf
      -- an operation that has not been done, the first one
      have hex : ∃ p i s, X = p ++ i :: s ∧ i ∉ S ∧ ∀ x ∈ p, x ∈ S := by
        have : ∀ (Y : List Nat), (∃ x ∈ Y, x ∉ S) → ∃ p i s, Y = p ++ i :: s ∧ i ∉ S ∧ ∀ x ∈ p, x ∈ S := by
          intro Y
          induction Y with
          | nil => rintro ⟨x, hx, _⟩; cases hx
          | cons y Y ihY =>
            rintro ⟨x, hx, hxS⟩
            by_cases hy : y ∈ S
            · have : x ∈ Y := by
                rcases List.mem_cons.1 hx with h | h
                · exact absurd (h ▸ hy) hxS
                · exact h
              obtain ⟨p, i, s, e, h1, h2⟩ := ihY ⟨x, this, hxS⟩
              exact ⟨y :: p, i, s, by rw [e]; rfl, h1, fun z hz => by
                rcases List.mem_cons.1 hz with h | h
                · exact h ▸ hy
                · exact h2 z h⟩
            · exact ⟨[], y, Y, rfl, hy, fun z hz => by cases hz⟩
        refine this X ?_
        by_cases hall : ∀ x ∈ X, x ∈ S
        · have := nodup_sub X S hnd hall
          omega
        · exact Classical.byContradiction fun hno => hall fun x hx => Classical.byContradiction fun hxS => hno ⟨x, hx, hxS⟩
      obtain ⟨p0, i0, s0, e0, hi0S, hp0⟩ := hex
      have hi0X : i0 ∈ X := by rw [e0]; simp
      have hTn : (D ++ S).Nodup := List.nodup_append.2 ⟨hDn, hSn, fun x hx y hy e => (hXD y (hSX y hy)).2 (e ▸ hx)⟩
      have hTlt : ∀ k ∈ D ++ S, k < A.size := fun k hk => by
        rcases List.mem_append.1 hk with h | h
        · exact hDlt k h
        · exact (hXD k (hSX k h)).1
      have hi0T : i0 ∉ D ++ S := fun h => by
        rcases List.mem_append.1 h with h | h
        · exact (hXD i0 hi0X).2 h
        · exact hi0S h
      have hlen : (D ++ S).length + 1 ≤ A.size := by
        have := nodup_len A.size (i0 :: (D ++ S)) (List.nodup_cons.2 ⟨hi0T, hTn⟩) (fun k hk => by
          rcases List.mem_cons.1 hk with h | h
          · exact h ▸ (hXD i0 hi0X).1
          · exact hTlt k h)
        simpa using this
      rw [List.length_append] at hlen
      obtain ⟨fuel, rfl⟩ : ∃ f, fuel = f + 1 := ⟨fuel - 1, by omega⟩
      have hrdy0 : i0 ∈ Region.ready .any A listed := hh.toReady (hXD i0 hi0X).1 hi0T (fun e he => by
        have hm : e ∈ D ++ S := by
          rcases chkTop_spec X [] c5 p0 i0 s0 e0 e he with h | h
          · exact List.mem_append_left _ h
          · exact List.mem_append_right _ (hp0 e (by simpa using h))
        exact ⟨hm, hTlt e hm⟩)
      refine ⟨fun hno => (by rw [hno] at hrdy0; cases hrdy0), fun i hi => ?_⟩
      obtain ⟨hilt, hiT, hiE⟩ := hh.ready hi
      have hiE' : ∀ e ∈ edges A i, e ∈ D ∨ e ∈ S := fun e he => List.mem_append.1 (hiE e he)
      have hiX : i ∈ X := by
        rcases c3 i hilt with (h | h) | h
        · exact absurd (List.mem_append_left _ (List.contains_iff_mem.1 h)) hiT
        · exact List.contains_iff_mem.1 h
        · exfalso
          have := anc_spec hcl (h i0 hi0X) hiE'
          rcases this with h | h
          · exact (hXD i0 hi0X).2 h
          · exact hi0S h
      have hiS : i ∉ S := fun h => hiT (List.mem_append_right _ h)
      obtain ⟨p, s, e⟩ := split_mem hiX
      obtain ⟨hearly, hlate⟩ := hsp p i s e
      have hQG := hus p i s e
      have hndp : (p ++ i :: s).Nodup := e ▸ hnd
      have hip : i ∉ p := fun h => by
        have := (List.nodup_append.1 hndp).2.2 i h i List.mem_cons_self
        exact this rfl
      have hpX : ∀ x ∈ p, x ∈ X := fun x hx => by rw [e]; exact List.mem_append_left _ hx
      have hpn : p.Nodup := (List.nodup_append.1 hndp).1
      have hfX : ∀ x ∈ X.filter (S.contains ·), x ∈ X := fun x hx => (List.mem_filter.1 hx).1
      have hfn : (X.filter (S.contains ·)).Nodup := hnd.filter _
      have hfS : ∀ x, x ∈ X.filter (S.contains ·) ↔ x ∈ S := fun x => by
        rw [List.mem_filter, List.contains_iff_mem]
        exact ⟨fun h => h.2, fun h => ⟨hSX x h, h⟩⟩
      have sub : ∀ Y : List Nat, (∀ x ∈ Y, x ∈ X) → OneDst A Y := fun Y hY a ha b hb => hone a (hY a ha) b (hY b hb)
      -- what the operation looks at stands as in the order of the text
      have hsame : ∀ t ∈ looks A i, (puts A us p st).env t = (puts A us (X.filter (S.contains ·)) st).env t := by
        intro t ht
        by_cases hj : ∃ j ∈ X, (opAt A j).dst = some t
        · obtain ⟨j, hjX, hjt⟩ := hj
          have hcl' : clash A j i = true := by
            unfold clash
            rw [← hdst j hjX, hjt]
            exact (memT_iff _ _).2 ht
          have hjX' := hjX
          rw [e] at hjX'
          have hjS : j ∈ p ↔ j ∈ S := by
            constructor
            · intro hjp
              have hb := (hearly j (by simpa using hjp)).1 hcl'
              rcases anc_spec hcl hb hiE' with h | h
              · exact absurd h (hXD j hjX).2
              · exact h
            · intro hjS
              rcases List.mem_append.1 hjX' with h | h
              · exact h
              · rcases List.mem_cons.1 h with h | h
                · exact absurd (h ▸ hjS) hiS
                · exfalso
                  have hb := hlate j h hcl'
                  rcases anc_spec hcl hb (hcl j (.inr hjS)) with h | h
                  · exact (hXD i hiX).2 h
                  · exact hiS h
          by_cases hjp : j ∈ p
          · rw [puts_mem A us t j hjt p st (sub p hpX) hpn hjp, puts_mem A us t j hjt _ st (sub _ hfX) hfn ((hfS j).2 (hjS.1 hjp))]
          · rw [puts_not A us t p st (fun x hx ex => hjp (by have := hone x (hpX x hx) j hjX t ex hjt; rw [← this]; exact hx)),
              puts_not A us t _ st (fun x hx ex => hjp (hjS.2 (by have := hone x (hfX x hx) j hjX t ex hjt; rw [← this]; exact (hfS x).1 hx)))]
        · rw [puts_not A us t p st (fun x hx ex => hj ⟨x, hpX x hx, ex⟩), puts_not A us t _ st (fun x hx ex => hj ⟨x, hfX x hx, ex⟩)]
      -- the state behind it
      have hset := hh.set i
      have hassoc : (D ++ S) ++ [i] = D ++ (S ++ [i]) := by simp
      rw [hassoc] at hset
      have hnext : ∀ (F' : Nat → Prop) (a' : Act) (w' : World), Rel E ι F' ((puts A us (X.filter (S.contains ·)) st).put (opAt A i).dst (us i)) a' w' → wpAny P .any A (conc E Q) fuel (listed.setIfInBounds i true) a' w' := by
        intro F' a' w' r'
        refine ih (S ++ [i]) (by simp; omega) (List.nodup_append.2 ⟨hSn, by simp, fun x hx y hy exy => by
          have : y = i := by simpa using hy
          exact hiS (this ▸ exy ▸ hx)⟩) (fun x hx => ?_) ?_ F' a' w' fuel _ ?_ hset (by simp; omega)
        · rcases List.mem_append.1 hx with h | h
          · exact hSX x h
          · have : x = i := by simpa using h
            exact this ▸ hiX
        · intro k hk e' he'
          rcases hk with hk | hk
          · rcases hcl k (.inl hk) e' he' with h | h
            · exact .inl h
            · exact .inr (List.mem_append_left _ h)
          · rcases List.mem_append.1 hk with hk | hk
            · rcases hcl k (.inr hk) e' he' with h | h
              · exact .inl h
              · exact .inr (List.mem_append_left _ h)
            · have : k = i := by simpa using hk
              subst this
              rcases hiE' e' he' with h | h
              · exact .inl h
              · exact .inr (List.mem_append_left _ h)
        · have hfX2 : ∀ x ∈ X.filter ((S ++ [i]).contains ·), x ∈ X := fun x hx => (List.mem_filter.1 hx).1
          have hfS2 : ∀ x, x ∈ X.filter ((S ++ [i]).contains ·) ↔ x ∈ S ∨ x = i := fun x => by
            rw [List.mem_filter, List.contains_iff_mem, List.mem_append]
            constructor
            · rintro ⟨_, h | h⟩
              · exact .inl h
              · exact .inr (by simpa using h)
            · rintro (h | h)
              · exact ⟨hSX x h, .inl h⟩
              · exact ⟨h ▸ hiX, .inr (by simpa using h)⟩
          refine r'.congr (by rw [puts_heap, put_heap, puts_heap]) (by rw [puts_nt, put_nt, puts_nt]) (fun t => .inl ?_)
          by_cases hit : (opAt A i).dst = some t
          · rw [puts_mem A us t i hit _ st (sub _ hfX2) (hnd.filter _) ((hfS2 i).2 (.inr rfl)), hit, put_env_eq, puts_nt]
          · rw [put_env_ne _ _ _ _ hit]
            by_cases hj : ∃ j ∈ S, (opAt A j).dst = some t
            · obtain ⟨j, hjS, hjt⟩ := hj
              rw [puts_mem A us t j hjt _ st (sub _ hfX2) (hnd.filter _) ((hfS2 j).2 (.inl hjS)), puts_mem A us t j hjt _ st (sub _ hfX) hfn ((hfS j).2 hjS)]
            · rw [puts_not A us t _ st (fun x hx ex => ?_), puts_not A us t _ st (fun x hx ex => hj ⟨x, (hfS x).1 hx, ex⟩)]
              rcases (hfS2 x).1 hx with h | h
              · exact hj ⟨x, h, ex⟩
              · exact hit (h ▸ ex)
      have hAi : A[i]? = some (A.getD i default) := by simp [Array.getD, hilt]
      unfold wpOp
      rw [hAi]
      simp only
      rw [← wanted_prep A (A.getD i default) a.tmps]
      have hop : Oper.gop A.toList (A.getD i default) = opAt A i := rfl
      rw [hop]
      have hreads : ∀ t ∈ rds (opAt A i).op, t ∈ looks A i := fun t ht => by
        simp only [looks, hAi]
        exact List.mem_append_left _ ht
      have hrun : QO P ⟨(opAt A i).dst, (opAt A i).op, (opAt A i).type, none⟩ (us i) ((puts A us p st).only (rds (opAt A i).op)) → (A.getD i default).wp P a w (wpAny P .any A (conc E Q) fuel (listed.setIfInBounds i true)) (conc E Q) := by
        intro hq
        have hrel : Rel E ι F ((puts A us p st).only (rds (opAt A i).op)) a w := r.congr (by simp only [St.only]; rw [puts_heap, puts_heap]) (by simp only [St.only]; rw [puts_nt, puts_nt]) (fun t => by
          simp only [St.only]
          cases hm : memT (rds (opAt A i).op) t with
          | false => exact .inr rfl
          | true => exact .inl (hsame t (hreads t ((memT_iff _ _).1 hm))))
        have h1 := hq E ι F a w hrel
        refine wp_gop P (all := A.toList) ?_
        have h2 := Oper.wp_mono (K' := wpAny P .any A (conc E Q) fuel (listed.setIfInBounds i true)) (fun a' w' ⟨c, F', ea, g, v⟩ => by
          obtain ⟨r2, x2⟩ := r.h.grown g
          have v' : VRel (puts A us (X.filter (S.contains ·)) st).heap ι F' w' (us i) c := by
            rw [puts_heap]; simp only [St.only] at v; rw [puts_heap] at v; exact v
          subst ea
          exact hnext F' _ w' (r.put r2 x2 _ v')) h1
        exact wp_anyQ h2
      -- the guard
      cases hg : (opAt A i).g with
      | none =>
        have hw : (opAt A i).wanted a.tmps = true := by unfold GOp.wanted; rw [hg]
        rw [hw, if_pos rfl]
        unfold QG at hQG
        rw [hg] at hQG
        exact .inl (hrun hQG)
      | some gw =>
        obtain ⟨gt, want⟩ := gw
        unfold QG at hQG
        rw [hg] at hQG
        cases gt with
        | none => exact hQG.elim
        | some t =>
          have hlk : t ∈ looks A i := by
            simp only [looks, hAi]
            refine List.mem_append_right _ ?_
            simp only [opAt, Oper.gop] at hg
            cases hgd : (A.getD i default).guard with
            | none => rw [hgd] at hg; cases hg
            | some jw =>
              obtain ⟨j, w0⟩ := jw
              rw [hgd] at hg
              simp only [gtmp, Option.some.injEq, Prod.mk.injEq, Array.getElem?_toList] at hg
              simp only [hg.1]
              exact List.mem_cons_self
          rcases hQG with ⟨hlt, b, hb, hy, hn⟩ | ⟨hb, hn⟩
          rotate_left
          · rw [hsame t hlk] at hb
            have hv := r.env t
            rw [hb] at hv
            have hw : (opAt A i).wanted a.tmps = false := by
              have hv : a.tmps.getD t undef = undef := hv
              unfold GOp.wanted
              simp only [hg]
              rw [Array.getD_eq_getD_getElem?] at hv
              cases he : a.tmps[t]? with
              | none => rfl
              | some v =>
                rw [he, Option.getD_some] at hv
                subst hv; rfl
            rw [hw, if_neg (by decide)]
            refine hnext F _ w ?_
            rw [hn]
            exact r.put_same _ (u := .und) (v := undef) rfl
          · rw [hsame t hlk] at hb
            have hv := r.env t
            rw [hb] at hv
            have hlt' : t < a.tmps.size := by rw [r.nt, puts_nt]; rw [puts_nt] at hlt; exact Nat.le_of_ble_eq_true hlt
            have he' : a.tmps[t]? = some (.bool b) := by
              have : a.tmps.getD t undef = .bool b := hv
              rw [Array.getD_eq_getD_getElem?, Array.getElem?_eq_getElem hlt', Option.getD_some] at this
              rw [Array.getElem?_eq_getElem hlt', this]
            have hw : (opAt A i).wanted a.tmps = (b == want) := by unfold GOp.wanted; simp only [hg, he']
            rw [hw]
            by_cases hbw : b = want
            · subst hbw
              rw [beq_self_eq_true, if_pos rfl]
              exact .inl (hrun (hy rfl))
            · have hb2 : b = !want := by cases b <;> cases want <;> simp_all
              have : (b == want) = false := by simpa using hbw
              rw [this, if_neg (by decide)]
              refine hnext F _ w ?_
              rw [hn hb2]
              exact r.put_same _ (u := .und) (v := undef) rfl
  exact main X.length [] (by simp) List.nodup_nil (fun x hx => by cases hx) (fun i hi e he => by
    rcases hi with hi | hi
    · exact .inl (List.contains_iff_mem.1 (c2 i hi e he))
    · cases hi) F a w fuel listed (by
      have : X.filter (([] : List Nat).contains ·) = [] := by simp
      rw [this]; exact r) ⟨hs, fun k hk => by rw [List.append_nil]; exact hl k hk⟩ (by simpa using hfuel)

def chk1 (A : Array Oper) (D : List Nat) (e : Nat) : Bool :=
  let ab := Region.before A
  Nat.blt e A.size && !D.contains e && (D.all fun k => (edges A k).all fun e => D.contains e) && ((edges A e).all fun x => D.contains x) &&
  (List.range A.size).all fun k => D.contains k || Nat.beq k e || (ab.getD k 0).testBit e

theorem wpOp_some {A : Array Oper} {Q : Exit → Act → World → Prop} {i : Nat} {o : Oper} {K : Act → World → Prop} {a : Act} {w : World} (h : A[i]? = some o) :
    wpOp P A Q i K a w = if Region.wanted o (yielded A a.tmps) then o.wp P a w K Q ∨ (o.asks P a w ∧ LetsOut Q) else K (a.put o.dst undef) w := by
  unfold wpOp; rw [h]

def normalQ (K : St → Prop) : Exit → St → Prop
  | .normal, st => K st
  | _, _ => False

/-- AN OPERATION THAT MAY TURN MEMORY: all others come before it or behind it. -/
theorem AnyL.step {A : Array Oper} {D : List Nat} (e : Nat) (hc : chk1 A D e = true) (h : SL P [opAt A e] (normalQ (AnyL P A (D ++ [e]) Q)) st) : AnyL P A D Q st := by
  simp only [chk1, Bool.and_eq_true, List.all_eq_true, Bool.or_eq_true, List.mem_range, Bool.not_eq_true'] at hc
  obtain ⟨⟨⟨⟨c1, c2⟩, c3⟩, c4⟩, c5⟩ := hc
  have helt : e < A.size := Nat.le_of_ble_eq_true c1
  have heD : e ∉ D := fun hm => by rw [List.contains_iff_mem.2 hm] at c2; cases c2
  refine ⟨fun E ι F a w fuel listed r hs hl hDn hDlt hfuel => ?_⟩
  have hh : Hears A listed D := ⟨hs, hl⟩
  have hrdy : e ∈ Region.ready .any A listed := hh.toReady helt heD (fun x hx => ⟨List.contains_iff_mem.1 (c4 x hx), hDlt x (List.contains_iff_mem.1 (c4 x hx))⟩)
  have hlen : D.length + 1 ≤ A.size := by
    have := nodup_len A.size (e :: D) (List.nodup_cons.2 ⟨heD, hDn⟩) (fun k hk => by
      rcases List.mem_cons.1 hk with h | h
      · exact h ▸ helt
      · exact hDlt k h)
    simpa using this
  obtain ⟨fuel, rfl⟩ : ∃ f, fuel = f + 1 := ⟨fuel - 1, by omega⟩
  refine ⟨fun hno => (by rw [hno] at hrdy; cases hrdy), fun i hi => ?_⟩
  obtain ⟨hilt, hiD, hiE⟩ := hh.ready hi
  have hie : i = e := by
    rcases c5 i hilt with (h | h) | h
    · exact absurd (List.contains_iff_mem.1 h) hiD
    · exact Nat.eq_of_beq_eq_true h
    · exact absurd (anc_spec (T := fun k => k ∈ D) (fun k hk x hx => List.contains_iff_mem.1 (c3 k hk x hx)) h hiE) heD
  subst hie
  have h1 := h.out E ι F a w r
  have hAi : A[i]? = some (A.getD i default) := by simp [Array.getD, hilt]
  have hnext : ∀ a' w', conc E (normalQ (AnyL P A (D ++ [i]) Q)) .normal a' w' → wpAny P .any A (conc E Q) fuel (listed.setIfInBounds i true) a' w' := by
    rintro a' w' ⟨ι', F', st', r', hk⟩
    have hset := hh.set i
    exact hk.out E ι' F' a' w' fuel _ r' hset.1 hset.2 (List.nodup_append.2 ⟨hDn, by simp, fun x hx y hy exy => by
      have : y = i := by simpa using hy
      exact hiD (this ▸ exy ▸ hx)⟩) (fun k hk => by
        rcases List.mem_append.1 hk with h | h
        · exact hDlt k h
        · have : k = i := by simpa using h
          exact this ▸ hilt) (by simp; omega)
  rw [wpOp_some hAi]
  rw [← wanted_prep A (A.getD i default) a.tmps]
  have hop : Oper.gop A.toList (A.getD i default) = opAt A i := rfl
  rw [hop]
  simp only [lwp] at h1
  by_cases hw : (opAt A i).wanted a.tmps = true
  · rw [if_pos hw] at h1 ⊢
    have h2 : (GOp.oper ⟨(opAt A i).dst, (opAt A i).op, (opAt A i).type, none⟩).wp P a w (wpAny P .any A (conc E Q) fuel (listed.setIfInBounds i true)) (conc E (normalQ (AnyL P A (D ++ [i]) Q))) := Oper.wp_mono hnext h1
    refine .inl (wp_gop P (all := A.toList) (wp_anyQ ?_))
    have h3 : ∀ (o : Oper) (K : Act → World → Prop), o.wp P a w K (conc E (normalQ (AnyL P A (D ++ [i]) Q))) → o.wp P a w K (fun _ _ _ => False) := by
      intro o K hk
      unfold Oper.wp at hk ⊢
      generalize (execOp a.eval o).run P w = res at hk ⊢
      cases res with
      | ok n w' =>
        cases n <;> simp only [Oper.upon] at hk ⊢ <;> first | exact hk | exact Calls.mono hk (fun e w'' he => by cases e <;> first | exact he | exact he.elim | (obtain ⟨a, w, he⟩ := he; exact he.elim))
      | halt x w' => cases x <;> simp only [Oper.upon] at hk ⊢ <;> exact hk
    exact h3 _ _ h2
  · rw [if_neg hw] at h1 ⊢
    exact hnext _ _ h1

end Go.Abs
