/-
Calls over abstract states: contracts of functions, pure ones and others.
No statement of the program is proved here.
-/
import Derived.Test.YtlcholjffgaemaaA4
set_option linter.unusedVariables false
set_option linter.unusedSimpArgs false
namespace Go.Abs
open Go

variable {P : Program} {Q : Exit → St → Prop} {st : St} {L : List GOp} {d : Option Tmp} {ty : TypeId}

def Heap.none : Heap := ⟨0, fun _ => .unborn, 0⟩
def noι : Id → Option Nat := fun _ => Option.none

/-- The blocks of the objects. -/
def Blocks (H : Heap) (ι : Id → Option Nat) (b : Nat) : Prop := ∃ id, (H.slot id).is ∧ ι id = some b
def With (F : Nat → Prop) (H : Heap) (ι : Id → Option Nat) (b : Nat) : Prop := F b ∨ Blocks H ι b

theorem VRel.of_none {H : Heap} {ι : Id → Option Nat} {F : Nat → Prop} {w : World} {u : V} {v : Value} (h : VRel Heap.none noι F w u v) : VRel H ι F w u v :=
  Ext.of (H := Heap.none) (ι := noι) (fun _ h => h) (fun _ _ => rfl) (fun id => by unfold SlotOk Heap.none; trivial) u v h

/-- The world has grown, nothing old has turned. -/
theorem RelH.grow {E : Env} {ι : Id → Option Nat} {F F' : Nat → Prop} {H : Heap} {w w' : World} (r : RelH E ι F H w) (hos : w'.os = w.os) (htape : w'.tape = w.tape) (hout : w'.output = w.output)
    (hsz : w.heap.size ≤ w'.heap.size) (hk : ∀ b, b < w.heap.size → w'.heap[b]? = w.heap[b]?) (hF : ∀ b, F b → F' b) (hF' : ∀ b, F' b → F b ∨ w.heap.size ≤ b) (hlt : ∀ b, F' b → b < w'.heap.size) :
    RelH E ι F' H w' ∧ Ext H ι F w H ι F' w' := by
  have hlive : ∀ i k, (H.slot i).is → ι i = some k → w'.heap[k]? = w.heap[k]? := fun i k hi hk' => hk k (r.lt i k hi hk')
  have hx : Ext H ι F w H ι F' w' := Ext.of hF (fun b hb => hk b (r.frlt b hb)) fun i => by
    unfold SlotOk
    cases hs : H.slot i with
    | unborn => trivial
    | dead => rfl
    | mp s g => exact .inr ⟨⟨s, g, rfl⟩, rfl⟩
    | live o => exact .inr ⟨o, rfl, Nat.le_refl _, fun _ => ⟨rfl, rfl, Nat.le_refl _, rfl, fun b cur hb hc => ⟨cur, by rw [hlive i b (by rw [hs]; trivial) hb]; exact hc, rfl⟩⟩⟩
  refine ⟨⟨hos.trans r.os, htape.trans r.tape, hout.trans r.output, Nat.le_trans r.size hsz, fun k hk' hW => by rw [hk k (Nat.lt_of_lt_of_le hk' r.size)]; exact r.kept k hk' hW, fun i o hi => ?_, fun i s g hi => ?_, r.inj, fun i k hi hk' hf => ?_, r.own,
    fun i k hi hk' => Nat.lt_of_lt_of_le (r.lt i k hi hk') hsz, hlt, fun k hf => ?_, r.next, r.ext.trans hx, r.lo⟩, hx⟩
  · obtain ⟨h1, h2⟩ := r.obj i o hi
    refine ⟨h1, ?_⟩
    cases hk' : ι i with
    | none => rw [hk'] at h2; exact h2
    | some k =>
      rw [hk'] at h2
      obtain ⟨cur, g1, g2, g3⟩ := h2
      exact ⟨cur, by rw [hlive i k (by rw [hi]; trivial) hk']; exact g1, g2, fun i hi j hj => by obtain ⟨c, a, b, d⟩ := g3 i hi j hj; exact ⟨c, a, b, hx _ _ d⟩⟩
  · obtain ⟨k, es, clock, g1, g2, g3, g4⟩ := r.mapo i s g hi
    refine ⟨k, es, clock, g1, by rw [hlive i k (by rw [hi]; trivial) g1]; exact g2, g3, fun key hkey => ?_⟩
    have := g4 key hkey
    cases hg : g key with
    | none => rw [hg] at this; exact this
    | some u => rw [hg] at this; obtain ⟨n, e, a, b, c⟩ := this; exact ⟨n, e, a, b, hx _ _ c⟩
  · rcases hF' k hf with h | h
    · exact r.nofr i k hi hk' h
    · have := r.lt i k hi hk'; omega
  · rcases hF' k hf with h | h
    · exact r.frin k h
    · right; right; exact Nat.le_trans r.size h

/-- A contract: what a call with these arguments comes to, over abstract memory. -/
structure CA (P : Program) (f : FuncId) (args : List V) (H : Heap) (K : V → Heap → Prop) : Prop where
  mk :: (out : ∀ E ι F w (cargs : Array Value), RelH E ι F H w → args.length = cargs.size → (∀ j, j < args.length → VRel H ι F w (args.getD j .un) (cargs.getD j undef)) →
    Calls P f cargs w fun e w' => ∃ v ι' F' H' cv, e = .returned cv ∧ RelH E ι' F' H' w' ∧ Ext H ι F w H' ι' F' w' ∧ VRel H' ι' F' w' v cv ∧ K v H')

theorem CA.mono {f : FuncId} {args : List V} {H : Heap} {K K' : V → Heap → Prop} (h : CA P f args H K) (hk : ∀ v H', K v H' → K' v H') : CA P f args H K' :=
  ⟨fun E ι F w cargs r hl ha => (h.out E ι F w cargs r hl ha).mono fun e w' ⟨v, ι', F', H', cv, h1, h2, h3, h4, h5⟩ => ⟨v, ι', F', H', cv, h1, h2, h3, h4, hk _ _ h5⟩⟩

/-- A contract of a function that only reads what it gets, and hands back data. -/
structure PC (P : Program) (f : FuncId) (args : List V) (v : V) : Prop where
  mk :: (out : ∀ (F : Nat → Prop) w (cargs : Array Value), (∀ b, F b → b < w.heap.size) → args.length = cargs.size → (∀ j, j < args.length → VRel Heap.none noι F w (args.getD j .un) (cargs.getD j undef)) →
    Calls P f cargs w fun e w' => ∃ cv F', e = .returned cv ∧ w'.os = w.os ∧ w'.tape = w.tape ∧ w'.output = w.output ∧ w.heap.size ≤ w'.heap.size ∧ (∀ b, b < w.heap.size → w'.heap[b]? = w.heap[b]?) ∧
      (∀ b, F b → F' b) ∧ (∀ b, F' b → F b ∨ w.heap.size ≤ b) ∧ (∀ b, F' b → b < w'.heap.size) ∧ VRel Heap.none noι F' w' v cv)

/-- A function with a body. -/
class FnOk (P : Program) (f : FuncId) : Prop where
  ok : ∃ fn, P.funcs[f]? = some fn ∧ (fn.name == "runtime.NumGoroutine") = false ∧ fn.body.isNone = false

theorem callFunc_run {f : FuncId} [h : FnOk P f] (args : Array Value) (w : World) : (callFunc f args).run P w = .ok (.enter f args) w := by
  obtain ⟨fn, h1, h2, h3⟩ := h.ok
  have h2' : ¬ fn.name = "runtime.NumGoroutine" := by simpa using h2
  have h3' : ¬ fn.body = none := fun e => by rw [e] at h3; cases h3
  simp [callFunc, h1, h2', h3']

/-- An operation that calls a function. -/
theorem SL.enter {g : GOp} (hg : g.g = none) {f : FuncId} {args : List V}
    (h : ∀ E ι F a w, Rel E ι F st a w → ∃ cargs, (execOp a.eval g.oper).run P w = .ok (.enter f cargs) w ∧ args.length = cargs.size ∧ ∀ j, j < args.length → VRel st.heap ι F w (args.getD j .un) (cargs.getD j undef))
    (hk : CA P f args st.heap (fun v H' => SL P L Q ((st.on H').put g.dst v))) : SL P (g :: L) Q st :=
  ⟨fun E ι F a w r => by
    obtain ⟨cargs, h1, h2, h3⟩ := h E ι F a w r
    have hw : g.wanted a.tmps = true := by unfold GOp.wanted; rw [hg]
    simp only [lwp, hw, if_true, Oper.wp, h1, Oper.upon]
    refine (hk.out E ι F w cargs r.h h2 h3).mono fun e w' ⟨v, ι', F', H', cv, k1, k2, k3, k4, k5⟩ => ?_
    subst k1
    exact k5.out E ι' F' _ _ (r.put k2 k3 g.dst k4)⟩

/-- A call of a function by its name. -/
theorem SL.call {f : FuncId} [FnOk P f] {args : Array Operand} {ats : Array TypeId} (hk : CA P f (args.toList.map st.eval) st.heap (fun v H' => SL P L Q ((st.on H').put d v))) :
    SL P (⟨d, .call { callee := .value (.func f), args := args, argTypes := ats }, ty, none⟩ :: L) Q st :=
  SL.enter rfl (fun E ι F a w r => ⟨args.map a.eval, by simp [execOp, GOp.oper, resolve, Deferred.ofValue, invoke, Act.eval, callFunc_run], by simp, fun j hj => by
    have hj' : j < args.size := by simpa using hj
    have e1 : (args.toList.map st.eval).getD j .un = st.eval args[j] := by simp [hj']
    have e2 : (args.map a.eval).getD j undef = a.eval args[j] := by simp [Array.getD, hj']
    rw [e1, e2]
    exact r.eval _⟩) hk

/-- A call of a function value. -/
theorem SL.callV {f : FuncId} [FnOk P f] {x : Operand} {n : Nat} {cap : Nat → V} {args : Array Operand} {ats : Array TypeId} (hx : st.eval x = .fn f n cap)
    (hk : CA P f (args.toList.map st.eval ++ (List.range n).map cap) st.heap (fun v H' => SL P L Q ((st.on H').put d v))) :
    SL P (⟨d, .call { callee := .value x, args := args, argTypes := ats }, ty, none⟩ :: L) Q st :=
  SL.enter rfl (fun E ι F a w r => by
    have hr := r.eval x
    rw [hx] at hr
    obtain ⟨cs, h1, h2, h3⟩ := hr
    refine ⟨args.map a.eval ++ cs, by simp [execOp, GOp.oper, resolve, h1, Deferred.ofValue, invoke, callFunc_run], by simp [h2], fun j hj => ?_⟩
    by_cases hj' : j < args.size
    · have e1 : (args.toList.map st.eval ++ (List.range n).map cap).getD j .un = st.eval args[j] := by
        rw [List.getD_eq_getElem?_getD, List.getElem?_append_left (by simpa using hj')]; simp [hj']
      have e2 : (args.map a.eval ++ cs).getD j undef = a.eval args[j] := by
        rw [Array.getD_eq_getD_getElem?, Array.getElem?_append_left (by simpa using hj')]; simp [hj']
      rw [e1, e2]
      exact r.eval _
    · have hjn : j - args.size < n := by simp at hj; omega
      obtain ⟨c, g1, g2⟩ := h3 (j - args.size) hjn
      have e1 : (args.toList.map st.eval ++ (List.range n).map cap).getD j .un = cap (j - args.size) := by
        rw [List.getD_eq_getElem?_getD, List.getElem?_append_right (by simpa using Nat.le_of_not_lt hj')]; simp [hjn]
      have e2 : (args.map a.eval ++ cs).getD j undef = c := by
        rw [Array.getD_eq_getD_getElem?, Array.getElem?_append_right (by simpa using Nat.le_of_not_lt hj')]; simp [g1]
      rw [e1, e2]
      exact g2) hk

/-! ### Arguments as data -/
/-- What the first is related to, the second is related to, memory of the state's own left out. -/
def Frz (u u' : V) : Prop := ∀ H ι F w c, VRel H ι F w u c → VRel Heap.none noι F w u' c
/-- The same, the state's own memory taken as data. -/
def FrzB (H : Heap) (u u' : V) : Prop := ∀ E ι F w c, RelH E ι F H w → VRel H ι F w u c → VRel Heap.none noι (With F H ι) w u' c

theorem Frz.t (x : T) : Frz (.t x) (.t x) := fun H ι F w c h => h
theorem Frz.un (u : V) : Frz u .un := fun H ι F w c h => trivial
theorem Frz.nils (sz : Nat) (get : Nat → Nat → T) : Frz .nils (.t (.sl sz 0 get)) := fun H ι F w c h => ⟨none, 0, h, Nat.le_refl _, by simp [LEN], fun h => absurd h (Nat.lt_irrefl _)⟩
theorem Frz.fp (m : Nat) (get : Nat → T) : Frz (.fp m get) (.fp m get) := fun H ι F w c h => h
theorem Frz.agg {n : Nat} {g g' : Nat → V} (h : ∀ j, j < n → Frz (g j) (g' j)) : Frz (.agg n g) (.agg n g') := fun H ι F w c ⟨cs, h1, h2, h3⟩ =>
  ⟨cs, h1, h2, fun j hj => by obtain ⟨c, a, b, d⟩ := h3 j hj; exact ⟨c, a, b, h j hj H ι F w c d⟩⟩
theorem Frz.tup {n : Nat} {g g' : Nat → V} (h : ∀ j, j < n → Frz (g j) (g' j)) : Frz (.tup n g) (.tup n g') := fun H ι F w c ⟨cs, h1, h2, h3⟩ =>
  ⟨cs, h1, h2, fun j hj => by obtain ⟨c, a, d⟩ := h3 j hj; exact ⟨c, a, h j hj H ι F w c d⟩⟩
theorem Frz.sl {sz n : Nat} {g g' : Nat → Nat → T} (h : ∀ i, i < n → ∀ j, j < sz → g i j = g' i j) : Frz (.t (.sl sz n g)) (.t (.sl sz n g')) := fun H ι F w c ⟨A, cap, h1, h2, h3, h4⟩ =>
  ⟨A, cap, h1, h2, h3, fun hn => by
    obtain ⟨b, o, hA, hb, hc⟩ := h4 hn
    exact ⟨b, o, hA, hb, fun i hi j hj => by obtain ⟨c, a, d⟩ := hc i hi j hj; exact ⟨c, a, by rw [← h i hi j hj]; exact d⟩⟩⟩
theorem Frz.trans {u v x : V} (h : Frz u v) (k : Frz v x) : Frz u x := fun H ι F w c hc => k _ _ F w c (h H ι F w c hc)
theorem Frz.of_eq {u v : V} (h : Frz v v) (e : u = v) : Frz u v := e ▸ h

theorem VRel.monoF {u : V} {F F' : Nat → Prop} {w : World} {c : Value} (hF : ∀ b, F b → F' b) (h : VRel Heap.none noι F w u c) : VRel Heap.none noι F' w u c :=
  Ext.of (H := Heap.none) (ι := noι) hF (fun _ _ => rfl) (fun id => by unfold SlotOk Heap.none; trivial) u c h

theorem FrzB.of {H : Heap} {u u' : V} (h : Frz u u') : FrzB H u u' := fun E ι F w c r hc => VRel.monoF (fun b hb => .inl hb) (h H ι F w c hc)
theorem FrzB.agg {H : Heap} {n : Nat} {g g' : Nat → V} (h : ∀ j, j < n → FrzB H (g j) (g' j)) : FrzB H (.agg n g) (.agg n g') := fun E ι F w c r ⟨cs, h1, h2, h3⟩ =>
  ⟨cs, h1, h2, fun j hj => by obtain ⟨c, a, b, d⟩ := h3 j hj; exact ⟨c, a, b, h j hj E ι F w c r d⟩⟩
theorem FrzB.tup {H : Heap} {n : Nat} {g g' : Nat → V} (h : ∀ j, j < n → FrzB H (g j) (g' j)) : FrzB H (.tup n g) (.tup n g') := fun E ι F w c r ⟨cs, h1, h2, h3⟩ =>
  ⟨cs, h1, h2, fun j hj => by obtain ⟨c, a, d⟩ := h3 j hj; exact ⟨c, a, h j hj E ι F w c r d⟩⟩
theorem FrzB.trans {H : Heap} {u v x : V} (h : FrzB H u v) (k : Frz v x) : FrzB H u x := fun E ι F w c r hc => k _ _ _ w c (h E ι F w c r hc)

/-- A slice of the state's own, as data. -/
theorem FrzB.sref {H : Heap} {id : Id} {ver rr len : Nat} {o : AObj} {get : Nat → Nat → T} (ho : H.slot id = .live o) (hv : ver = o.ver) {sz : Nat} (hsz : o.sz = sz)
    (h : ∀ i, i < len → ∀ j, j < sz → FrzB H (o.get (i + rr) j) (.t (get i j))) : FrzB H (.sref id ver rr len) (.t (.sl sz len get)) := fun E ι F w c r hc => by
  subst hsz
  have h2 := hc.2
  rw [ho] at h2
  obtain ⟨h3, A, cap, hA, hlc, hx⟩ := h2.2 hv
  obtain ⟨hn, hobj⟩ := r.obj id o ho
  refine ⟨A, cap, hA, hlc, by omega, fun hlen => ?_⟩
  obtain ⟨b, cur, hb, rfl, hh, hsz⟩ := hx (by omega)
  refine ⟨b, rr * o.sz, rfl, .inr ⟨id, by rw [ho]; trivial, hb⟩, fun i hi j hj => ?_⟩
  obtain ⟨cur', g1, g2, g3⟩ := obj_cells r ho hb
  obtain ⟨u, q1, q2, q3, q4⟩ := g3 (i + rr) (by omega) j hj
  refine ⟨u, ?_, h i hi j hj E ι F w u r q4⟩
  rw [show rr * o.sz + (i * o.sz + j) = (i + rr) * o.sz + j by rw [Nat.add_mul]; omega]
  exact q1

/-- A pointer to a struct of the state's own, as data. -/
theorem FrzB.ptr {H : Heap} {id : Id} {ver rr c m : Nat} {o : AObj} {get : Nat → T} (ho : H.slot id = .live o) (hv : ver = o.ver) (hr : rr < o.n) (hm : c + m ≤ o.sz) (hm0 : 0 < m)
    (h : ∀ j, j < m → FrzB H (o.get rr (j + c)) (.t (get j))) : FrzB H (.ptr id ver rr c) (.fp m get) := fun E ι F w v r hc => by
  have h2 := hc.2
  rw [ho] at h2
  obtain ⟨b, hb, rfl⟩ := h2.2 hv
  obtain ⟨cur', g1, g2, g3⟩ := obj_cells r ho hb
  refine ⟨b, _, rfl, .inr ⟨id, by rw [ho]; trivial, hb⟩, fun j hj => ?_⟩
  obtain ⟨u, q1, q2, q3, q4⟩ := g3 rr hr (j + c) (by omega)
  refine ⟨u, ?_, h j hj E ι F w u r q4⟩
  rw [show rr * o.sz + c + j = rr * o.sz + (j + c) by omega]
  exact q1

/-- Values that hang on no memory. -/
def Scal (v : V) : Prop := ∀ F w c, VRel Heap.none noι F w v c → ∀ H ι F' w', VRel H ι F' w' v c
theorem Scal.bool (b : Bool) : Scal (.t (.bool b)) := fun F w c h H ι F' w' => h
theorem Scal.int (k : IntKind) (n : Int) : Scal (.t (.int k n)) := fun F w c h H ι F' w' => h
theorem Scal.str (s : ByteArray) : Scal (.t (.str s)) := fun F w c h H ι F' w' => h
theorem Scal.nilI : Scal (.t .nilI) := fun F w c h H ι F' w' => h
theorem Scal.tup {n : Nat} {g : Nat → V} (h : ∀ j, j < n → Scal (g j)) : Scal (.tup n g) := fun F w c ⟨cs, h1, h2, h3⟩ H ι F' w' =>
  ⟨cs, h1, h2, fun j hj => by obtain ⟨c, a, d⟩ := h3 j hj; exact ⟨c, a, h j hj F w c d H ι F' w'⟩⟩
theorem Scal.agg {n : Nat} {g : Nat → V} (h : ∀ j, j < n → Scal (g j)) : Scal (.agg n g) := fun F w c ⟨cs, h1, h2, h3⟩ H ι F' w' =>
  ⟨cs, h1, h2, fun j hj => by obtain ⟨c, a, b, d⟩ := h3 j hj; exact ⟨c, a, b, h j hj F w c d H ι F' w'⟩⟩

inductive All2 (R : V → V → Prop) : List V → List V → Prop where
  | nil : All2 R [] []
  | cons {a b : V} {l m : List V} (h : R a b) (t : All2 R l m) : All2 R (a :: l) (b :: m)

theorem All2.at_ {R : V → V → Prop} {l m : List V} (h : All2 R l m) : l.length = m.length ∧ ∀ j, j < l.length → R (l.getD j .un) (m.getD j .un) := by
  induction h with
  | nil => exact ⟨rfl, fun j hj => absurd hj (Nat.not_lt_zero _)⟩
  | cons h t ih =>
    refine ⟨by simp [ih.1], fun j hj => ?_⟩
    cases j with
    | zero => simpa using h
    | succ j => simpa using ih.2 j (by simpa using hj)

/-- A pure function is called with data. -/
theorem CA.pure {f : FuncId} {args fargs : List V} {v : V} {H : Heap} {K : V → Heap → Prop} (h : PC P f fargs v) (ha : All2 Frz args fargs) (hk : K v H) : CA P f args H K :=
  ⟨fun E ι F w cargs r hl hargs => by
    obtain ⟨hll, hat⟩ := ha.at_
    refine (h.out F w cargs r.frlt (by omega) (fun j hj => hat j (by omega) _ _ _ _ _ (hargs j (by omega)))).mono fun e w' ⟨cv, F', h1, h2, h3, h4, h5, h6, h7, h8, h9, h10⟩ => ?_
    obtain ⟨g1, g2⟩ := r.grow h2 h3 h4 h5 h6 h7 h8 h9
    exact ⟨v, ι, F', H, cv, h1, g1, g2, h10.of_none, hk⟩⟩

/-- A pure function is called with the state's own memory, and hands back what hangs on no memory. -/
theorem CA.borrow {f : FuncId} {args fargs : List V} {v : V} {H : Heap} {K : V → Heap → Prop} (h : PC P f fargs v) (ha : All2 (FrzB H) args fargs) (hs : Scal v) (hk : K v H) : CA P f args H K :=
  ⟨fun E ι F w cargs r hl hargs => by
    obtain ⟨hll, hat⟩ := ha.at_
    refine (h.out (With F H ι) w cargs (fun b hb => ?_) (by omega) (fun j hj => hat j (by omega) _ _ _ _ _ r (hargs j (by omega)))).mono fun e w' ⟨cv, F', h1, h2, h3, h4, h5, h6, h7, h8, h9, h10⟩ => ?_
    · rcases hb with hb | ⟨id, h1, h2⟩
      · exact r.frlt b hb
      · exact r.lt id b h1 h2
    · obtain ⟨g1, g2⟩ := r.grow (F' := F) h2 h3 h4 h5 h6 (fun _ h => h) (fun _ h => .inl h) (fun b hb => Nat.lt_of_lt_of_le (r.frlt b hb) h5)
      exact ⟨v, ι, F, H, cv, h1, g1, g2, hs _ _ _ h10 _ _ _ _, hk⟩⟩

/-! ### Results -/
/-- The reading of a result variable. -/
def rvSem (tmps : Array Value) : ResultVar → Sem Value
  | .tmp t => Pure.pure (tmps.getD t undef)
  | .cell ad t => do loadVar t (← asAddr (tmps.getD ad undef))

theorem results_eq (fn : Func) (tmps : Array Value) : results fn tmps = (do let vs ← fn.results.mapM (rvSem tmps); Pure.pure (if h : vs.size = 1 then vs[0] else .tuple vs)) := by
  unfold results
  congr 1

/-- What a result variable holds at the end. -/
def RV (P : Program) (st : St) (rv : ResultVar) (u : V) : Prop := ∀ E ι F a w, Rel E ι F st a w → ∃ c, (rvSem a.tmps rv).run P w = .ok c w ∧ VRel st.heap ι F w u c

theorem RV.tmp (t : Tmp) : RV P st (.tmp t) (st.env t) := fun E ι F a w r => ⟨_, rfl, r.env t⟩
theorem RV.cell1 {t : TypeId} {s : Nat} [TySz P t false s] {ad : Tmp} {id : Id} {ver rr c : Nat} {o : AObj} (hx : st.env ad = .ptr id ver rr c) (ho : st.heap.slot id = .live o) (hv : ver = o.ver) (hr : rr < o.n) (hc : c < o.sz) :
    RV P st (.cell ad t) (o.get rr c) := fun E ι F a w r => by
  obtain ⟨b, hb, he⟩ := live_ptr (x := .tmp ad) r hx ho hv
  obtain ⟨cur, h1, h2, h3⟩ := obj_cells r.h ho hb
  obtain ⟨u, hu1, hu2, hu3, hu4⟩ := h3 rr hr c hc
  have he' : a.tmps.getD ad undef = .pointer (some ⟨b, rr * o.sz + c, none⟩) := he
  have hl := load_cell_run (P := P) (t := t) hu1
  simp only [Instr.loadAt, Instr.sureAddr, Sem.run_bind, Sem.run_pure, Result.andThen_ok] at hl
  exact ⟨u, by simp only [rvSem, he', asAddr, Sem.run_bind, Sem.run_pure, Result.andThen_ok]; exact hl, hu4⟩
theorem RV.cellA {t : TypeId} {s : Nat} [TySz P t true s] {ad : Tmp} {id : Id} {ver rr c : Nat} {o : AObj} (hx : st.env ad = .ptr id ver rr c) (ho : st.heap.slot id = .live o) (hv : ver = o.ver) (hr : rr < o.n) (hc : c + s ≤ o.sz) :
    RV P st (.cell ad t) (.agg s (fun j => o.get rr (j + c))) := fun E ι F a w r => by
  obtain ⟨b, hb, he⟩ := live_ptr (x := .tmp ad) r hx ho hv
  obtain ⟨cur, h1, h2, h3⟩ := obj_cells r.h ho hb
  obtain ⟨cs, hl, hp⟩ := gather (p := fun j u => w.cell? ⟨b, rr * o.sz + c + j, none⟩ = some u ∧ u.oneCell' = true ∧ VRel st.heap ι F w (o.get rr (j + c)) u) s (fun j hj => by
    obtain ⟨u, hu1, hu2, hu3, hu4⟩ := h3 rr hr (j + c) (by omega)
    exact ⟨u, by rw [show rr * o.sz + c + j = rr * o.sz + (j + c) by omega]; exact hu1, hu3, hu4⟩)
  have he' : a.tmps.getD ad undef = .pointer (some ⟨b, rr * o.sz + c, none⟩) := he
  have hl2 := load_agg_run (P := P) (t := t) hl (fun j v hv => (hp j v hv).1)
  simp only [Instr.loadAt, Instr.sureAddr, Sem.run_bind, Sem.run_pure, Result.andThen_ok] at hl2
  refine ⟨.agg cs.toArray, by simp only [rvSem, he', asAddr, Sem.run_bind, Sem.run_pure, Result.andThen_ok]; exact hl2, cs.toArray, rfl, by simp [hl], fun j hj => ?_⟩
  have hj' : j < cs.length := by omega
  have hr := hp j cs[j] (List.getElem?_eq_getElem hj')
  exact ⟨cs[j], by simp [hj'], hr.2.1, hr.2.2⟩

/-- What the results come to at the end. -/
structure Res (P : Program) (fn : Func) (K : V → Heap → Prop) (st : St) : Prop where
  mk :: (out : ∃ u, (∀ E ι F a w, Rel E ι F st a w → ∃ c, (results fn a.tmps).run P w = .ok c w ∧ VRel st.heap ι F w u c) ∧ K u st.heap)

def retQ (P : Program) (fn : Func) (K : V → Heap → Prop) : Exit → St → Prop
  | .ret, st => Res P fn K st
  | .normal, st => Res P fn K st
  | _, _ => False

theorem Res.one {fn : Func} {K : V → Heap → Prop} {rv : ResultVar} {u : V} (hr : fn.results = #[rv]) (h : RV P st rv u) (hk : K u st.heap) : Res P fn K st :=
  ⟨u, fun E ι F a w r => by
    obtain ⟨c, h1, h2⟩ := h E ι F a w r
    exact ⟨c, by simp [results_eq, hr, h1], h2⟩, hk⟩

theorem Res.none {fn : Func} {K : V → Heap → Prop} (hr : fn.results = #[]) (hk : K (.tup 0 (fun _ => .un)) st.heap) : Res P fn K st :=
  ⟨.tup 0 (fun _ => .un), fun E ι F a w r => ⟨.tuple #[], by simp [results_eq, hr], #[], rfl, rfl, fun j hj => absurd hj (Nat.not_lt_zero _)⟩, hk⟩

def tup2 (u v : V) : V := .tup 2 (fun j => bif Nat.beq j 0 then u else v)
def tup3 (u v x : V) : V := .tup 3 (fun j => bif Nat.beq j 0 then u else bif Nat.beq j 1 then v else x)

theorem Res.two {fn : Func} {K : V → Heap → Prop} {r1 r2 : ResultVar} {u1 u2 : V} (hr : fn.results = #[r1, r2]) (h1 : RV P st r1 u1) (h2 : RV P st r2 u2) (hk : K (tup2 u1 u2) st.heap) : Res P fn K st :=
  ⟨tup2 u1 u2, fun E ι F a w r => by
    obtain ⟨c1, p1, q1⟩ := h1 E ι F a w r
    obtain ⟨c2, p2, q2⟩ := h2 E ι F a w r
    refine ⟨.tuple #[c1, c2], ?_, #[c1, c2], rfl, rfl, fun j hj => ?_⟩
    · simp [results_eq, hr, p1, p2]
    · match j, hj with
      | 0, _ => exact ⟨c1, rfl, q1⟩
      | 1, _ => exact ⟨c2, rfl, q2⟩, hk⟩

theorem Res.three {fn : Func} {K : V → Heap → Prop} {r1 r2 r3 : ResultVar} {u1 u2 u3 : V} (hr : fn.results = #[r1, r2, r3]) (h1 : RV P st r1 u1) (h2 : RV P st r2 u2) (h3 : RV P st r3 u3) (hk : K (tup3 u1 u2 u3) st.heap) : Res P fn K st :=
  ⟨tup3 u1 u2 u3, fun E ι F a w r => by
    obtain ⟨c1, p1, q1⟩ := h1 E ι F a w r
    obtain ⟨c2, p2, q2⟩ := h2 E ι F a w r
    obtain ⟨c3, p3, q3⟩ := h3 E ι F a w r
    refine ⟨.tuple #[c1, c2, c3], ?_, #[c1, c2, c3], rfl, rfl, fun j hj => ?_⟩
    · simp [results_eq, hr, p1, p2, p3]
    · match j, hj with
      | 0, _ => exact ⟨c1, rfl, q1⟩
      | 1, _ => exact ⟨c2, rfl, q2⟩
      | 2, _ => exact ⟨c3, rfl, q3⟩, hk⟩

/-! ### From a body to a contract -/
def St.enter (nt : Nat) (args : List V) (H : Heap) : St := ⟨nt, fun t => args.getD t .un, H⟩

theorem Rel.enter {E : Env} {ι : Id → Option Nat} {F : Nat → Prop} {H : Heap} {w : World} (r : RelH E ι F H w) {nt : Nat} {args : List V} {cargs : Array Value} (hl : args.length = cargs.size) (hnt : args.length ≤ nt)
    (ha : ∀ j, j < args.length → VRel H ι F w (args.getD j .un) (cargs.getD j undef)) : Rel E ι F (St.enter nt args H) { tmps := cargs ++ Array.replicate (nt - cargs.size) undef, defers := [] } w := by
  refine ⟨r, fun t => ?_, ?_, rfl⟩
  · show VRel H ι F w (args.getD t .un) ((cargs ++ Array.replicate (nt - cargs.size) undef).getD t undef)
    by_cases ht : t < args.length
    · have e : (cargs ++ Array.replicate (nt - cargs.size) undef).getD t undef = cargs.getD t undef := by
        rw [Array.getD_eq_getD_getElem?, Array.getElem?_append_left (by omega), Array.getD_eq_getD_getElem?]
      rw [e]; exact ha t ht
    · rw [List.getD_eq_getElem?_getD, List.getElem?_eq_none (by omega)]
      exact trivial
  · show (cargs ++ Array.replicate (nt - cargs.size) undef).size = nt
    simp; omega

theorem retQ_body {fn : Func} {K : V → Heap → Prop} {E : Env} {R : Ending → World → Prop} (hR : ∀ u H ι F w c, RelH E ι F H w → VRel H ι F w u c → K u H → R (.returned c) w)
    (e : Exit) (a : Act) (w : World) (h : conc E (retQ P fn K) e a w) : bodyPost P fn R e a w := by
  cases e with
  | normal =>
    obtain ⟨ι, F, st, r, u, h1, h2⟩ := h
    obtain ⟨c, h3, h4⟩ := h1 E ι F a w r
    exact ⟨r.defers, c, h3, hR u _ ι F w c r.h h4 h2⟩
  | ret =>
    obtain ⟨ι, F, st, r, u, h1, h2⟩ := h
    obtain ⟨c, h3, h4⟩ := h1 E ι F a w r
    exact ⟨r.defers, c, h3, hR u _ ι F w c r.h h4 h2⟩
  | exit id => obtain ⟨ι, F, st, r, h⟩ := h; exact h.elim
  | goto l => obtain ⟨ι, F, st, r, h⟩ := h; exact h.elim
  | panic c => exact h.elim
  | outgrown => exact h.elim

theorem RelH.start {F : Nat → Prop} {w : World} (hF : ∀ b, F b → b < w.heap.size) : RelH ⟨w, fun _ => False, Heap.none, noι, F⟩ noι F Heap.none w where
  os := rfl
  tape := rfl
  output := rfl
  size := Nat.le_refl _
  kept := fun _ _ _ => rfl
  obj := fun id o h => by cases h
  mapo := fun id s g h => by cases h
  inj := fun id id' b h _ _ _ => False.elim h
  nofr := fun id b h _ => False.elim h
  own := fun id b h _ => False.elim h
  lt := fun id b h _ => False.elim h
  frlt := hF
  frin := fun b h => .inl h
  next := fun id h => rfl
  ext := Ext.refl _ _ _ _
  lo := fun id h => rfl

/-- A PURE FUNCTION's CONTRACT OUT OF ITS BODY. -/
theorem PC.of {f : FuncId} {fn : Func} {c : Code} {args : List V} {v : V} (hf : P.funcs[f]? = some fn) (hb : fn.body = some c) {nt : Nat} (hnt : fn.ntmps = nt) (hle : args.length ≤ nt)
    (h : SC P c (retQ P fn (fun u H => FrzB H u v)) (St.enter nt args Heap.none)) : PC P f args v :=
  ⟨fun F w cargs hF hl ha => by
    refine calls_of_wp hf hb ?_
    rw [hnt]
    refine wp_mono (h.out ⟨w, fun _ => False, Heap.none, noι, F⟩ noι F _ w (Rel.enter (RelH.start hF) hl hle ha)) (retQ_body fun u H ι F' w' c r hu hk => ?_)
    refine ⟨c, With F' H ι, rfl, r.os, r.tape, r.output, r.size, fun b hb => r.kept b hb (fun h => h), fun b hb => .inl ?_, fun b hb => ?_, fun b hb => ?_, hk _ ι F' w' c r hu⟩
    · -- what was data is data
      have := r.ext (.fp 0 (fun _ => .any)) (.pointer (some ⟨b, 0, none⟩)) ⟨b, 0, rfl, hb, fun j hj => absurd hj (Nat.not_lt_zero _)⟩
      obtain ⟨b', o', e1, e2, _⟩ := this
      injection e1 with e1; injection e1 with e1; injection e1 with e1
      subst e1; exact e2
    · rcases hb with hb | ⟨id, h1, h2⟩
      · rcases r.frin b hb with h | h | h
        · exact .inl h
        · exact h.elim
        · exact .inr h
      · rcases r.own id b h1 h2 with h | h
        · exact h.elim
        · exact .inr h
    · rcases hb with hb | ⟨id, h1, h2⟩
      · exact r.frlt b hb
      · exact r.lt id b h1 h2⟩

/-- The same memory, counted from elsewhere. -/
def Heap.at_ (H : Heap) (l : Nat) : Heap := { H with lo := l }
theorem SlotOk.refl {id : Id} {H H' : Heap} {ι : Id → Option Nat} {w : World} (h : H'.slot id = H.slot id) : SlotOk id H ι w H' ι w := by
  unfold SlotOk
  cases hs : H.slot id with
  | unborn => trivial
  | dead => exact h.trans hs
  | mp s g => exact .inr ⟨⟨s, g, h.trans hs⟩, rfl⟩
  | live o => exact .inr ⟨o, h.trans hs, Nat.le_refl _, fun _ => ⟨rfl, rfl, Nat.le_refl _, rfl, fun b cur hb hc => ⟨cur, hc, rfl⟩⟩⟩
theorem Ext.at_ (H : Heap) (ι : Id → Option Nat) (F : Nat → Prop) (w : World) (l : Nat) : Ext H ι F w (H.at_ l) ι F w := Ext.of (fun _ h => h) (fun _ _ => rfl) fun i => SlotOk.refl rfl
theorem Ext.at_' (H : Heap) (ι : Id → Option Nat) (F : Nat → Prop) (w : World) (l : Nat) : Ext (H.at_ l) ι F w H ι F w := Ext.of (fun _ h => h) (fun _ _ => rfl) fun i => SlotOk.refl rfl
theorem ORel.ext {H H' : Heap} {ι : Id → Option Nat} {F F' : Nat → Prop} {w : World} {o : AObj} {id : Id} (h : ORel H ι F w o id) (hx : Ext H ι F w H' ι F' w) : ORel H' ι F' w o id := by
  obtain ⟨h1, h2⟩ := h
  refine ⟨h1, ?_⟩
  cases hk : ι id with
  | none => rw [hk] at h2; exact h2
  | some k =>
    rw [hk] at h2
    obtain ⟨cur, g1, g2, g3⟩ := h2
    exact ⟨cur, g1, g2, fun i hi j hj => by obtain ⟨c, a, b, d⟩ := g3 i hi j hj; exact ⟨c, a, b, hx _ _ d⟩⟩
theorem MRel.ext {H H' : Heap} {ι : Id → Option Nat} {F F' : Nat → Prop} {w : World} {s : Bool} {g : MKey → Option V} {id : Id} (h : MRel H ι F w s g id) (hx : Ext H ι F w H' ι F' w) : MRel H' ι F' w s g id := by
  obtain ⟨k, es, clock, g1, g2, g3, g4⟩ := h
  refine ⟨k, es, clock, g1, g2, g3, fun key hkey => ?_⟩
  have := g4 key hkey
  cases hg : g key with
  | none => rw [hg] at this; exact this
  | some u => rw [hg] at this; obtain ⟨n, e, a, b, c⟩ := this; exact ⟨n, e, a, b, hx _ _ c⟩

end Go.Abs
