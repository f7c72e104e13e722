/-
The rules of control over abstract states: lists of operations, blocks, branches, loops.
No statement of the program is proved here.
-/
import Derived.Test.YtlcholjffgaemaaA1
set_option linter.unusedVariables false
set_option linter.unusedSimpArgs false
namespace Go.Abs
open Go

def V.cell : Value → V
  | .bool b => .t (.bool b)
  | .int k n => .t (.int k n)
  | .string s => bif Nat.ble s.size 9223372036854775807 then .t (.str s) else .un
  | .slice none 0 0 => .nils
  | .pointer none => .nilp
  | .map none => .nilm
  | .nilFunc => .nilf
  | .nilIface => .t .nilI
  | _ => .un

def V.ofValue : Value → V
  | .agg cs => bif cs.all (·.oneCell') then .agg cs.size (fun j => V.cell (cs.getD j undef)) else .un
  | v => V.cell v

theorem V.cell_rel (H : Heap) (ι : Id → Option Nat) (F : Nat → Prop) (w : World) (v : Value) : VRel H ι F w (V.cell v) v := by
  unfold V.cell
  split
  · rfl
  · rfl
  · rename_i s
    cases h : Nat.ble s.size 9223372036854775807
    · exact trivial
    · exact ⟨rfl, Nat.le_of_ble_eq_true h⟩
  all_goals first | rfl | exact trivial

theorem V.ofValue_rel (H : Heap) (ι : Id → Option Nat) (F : Nat → Prop) (w : World) (v : Value) : VRel H ι F w (V.ofValue v) v := by
  unfold V.ofValue
  split
  · rename_i cs
    cases h : cs.all (·.oneCell')
    · exact trivial
    · refine ⟨cs, rfl, rfl, fun j hj => ⟨cs[j], Array.getElem?_eq_getElem hj, ?_, ?_⟩⟩
      · exact Array.all_eq_true_iff_forall_mem.1 h _ (Array.getElem_mem hj)
      · have : cs.getD j undef = cs[j] := by simp [Array.getD, hj]
        show VRel H ι F w (V.cell (cs.getD j undef)) cs[j]
        rw [this]
        exact V.cell_rel H ι F w _
  · exact V.cell_rel H ι F w v

def St.eval (st : St) : Operand → V
  | .tmp t => st.env t
  | .const v => V.ofValue v
  | .global _ => .un
  | .func f => .fn f 0 (fun _ => .un)

theorem Rel.eval {E : Env} {ι : Id → Option Nat} {F : Nat → Prop} {st : St} {a : Act} {w : World} (h : Rel E ι F st a w) (x : Operand) :
    VRel st.heap ι F w (st.eval x) (a.eval x) := by
  cases x with
  | tmp t => exact h.env t
  | const v => exact V.ofValue_rel _ _ _ _ _
  | global g => exact trivial
  | func f => exact ⟨#[], rfl, rfl, fun j hj => absurd hj (Nat.not_lt_zero _)⟩

def St.put (st : St) (d : Option Tmp) (v : V) : St :=
  match d with
  | none => st
  | some d => { st with env := fun t => bif Nat.beq t d then (bif Nat.blt d st.nt then v else .un) else st.env t }

def St.on (st : St) (H : Heap) : St := { st with heap := H }

theorem Rel.put {E : Env} {ι : Id → Option Nat} {F : Nat → Prop} {st : St} {a : Act} {w : World} {ι' : Id → Option Nat} {F' : Nat → Prop} {H' : Heap} {w' : World}
    (h : Rel E ι F st a w) (hH : RelH E ι' F' H' w') (he : Ext st.heap ι F w H' ι' F' w') (d : Option Tmp) {u : V} {v : Value} (hv : VRel H' ι' F' w' u v) :
    Rel E ι' F' ((st.on H').put d u) (a.put d v) w' := by
  refine ⟨?_, fun t => ?_, ?_, ?_⟩
  · cases d <;> exact hH
  · cases d with
    | none => exact he _ _ (h.env t)
    | some d =>
      simp only [St.put, St.on, Act.put]
      cases hb : Nat.beq t d with
      | true =>
        obtain rfl := Nat.eq_of_beq_eq_true hb
        cases hlt : Nat.blt t st.nt with
        | false => exact trivial
        | true =>
          have hlt' : t < a.tmps.size := by rw [h.nt]; exact Nat.le_of_ble_eq_true hlt
          simp only [cond_true, Array.getD_eq_getD_getElem?, Array.getElem?_setIfInBounds_self_of_lt hlt', Option.getD_some]
          exact hv
      | false =>
        have hne : d ≠ t := fun e => by subst e; simp at hb
        simp only [cond_false, Array.getD_eq_getD_getElem?, Array.getElem?_setIfInBounds_ne hne]
        have := h.env t
        rw [Array.getD_eq_getD_getElem?] at this
        exact he _ _ this
  · cases d with
    | none => exact h.nt
    | some d => simp only [Act.put, St.put, St.on, Array.size_setIfInBounds]; exact h.nt
  · cases d <;> exact h.defers

theorem Rel.put_same {E : Env} {ι : Id → Option Nat} {F : Nat → Prop} {st : St} {a : Act} {w : World}
    (h : Rel E ι F st a w) (d : Option Tmp) {u : V} {v : Value} (hv : VRel st.heap ι F w u v) : Rel E ι F (st.put d u) (a.put d v) w :=
  h.put h.h (Ext.refl _ _ _ _) d hv

/-- The ends of a piece of code, over abstract states; no panic. -/
def conc (E : Env) (Q : Exit → St → Prop) : Exit → Act → World → Prop
  | .panic _, _, _ => False
  | .outgrown, _, _ => False
  | e, a, w => Holds E (Q e) a w

structure GOp where
  dst : Option Tmp
  op : Op
  type : TypeId
  g : Option (Option Tmp × Bool)

def GOp.oper (g : GOp) : Oper := { dst := g.dst, op := g.op, type := g.type, pos := "", after := #[], guard := none }

def GOp.wanted (g : GOp) (tmps : Array Value) : Bool :=
  match g.g with
  | none => true
  | some (none, _) => false
  | some (some t, want) => match tmps[t]? with
    | some (.bool b) => b == want
    | _ => false

/-- The guard of an operation, by the slot that it looks at. -/
def gtmp (all : List Oper) : Option (Nat × Bool) → Option (Option Tmp × Bool)
  | none => none
  | some (j, w) => some ((all[j]?).bind (·.dst), w)
def Oper.gop (all : List Oper) (o : Oper) : GOp := ⟨o.dst, o.op, o.type, gtmp all o.guard⟩
def prepL (all : List Oper) : List Oper → List GOp
  | [] => []
  | ⟨d, op, ty, _, _, g⟩ :: l => ⟨d, op, ty, gtmp all g⟩ :: prepL all l
theorem prepL_cons (all : List Oper) (o : Oper) (l : List Oper) : prepL all (o :: l) = Oper.gop all o :: prepL all l := by cases o; rfl
def prep (A : Array Oper) : List GOp := prepL A.toList A.toList

def lwp (P : Program) : List GOp → (Exit → Act → World → Prop) → Act → World → Prop
  | [], Q, a, w => Q .normal a w
  | g :: L, Q, a, w => if g.wanted a.tmps then g.oper.wp P a w (lwp P L Q) Q else lwp P L Q (a.put g.dst undef) w

theorem wanted_prep (A : Array Oper) (o : Oper) (tmps : Array Value) : (Oper.gop A.toList o).wanted tmps = Region.wanted o (yielded A tmps) := by
  unfold GOp.wanted Region.wanted Oper.gop
  cases hg : o.guard with
  | none => rfl
  | some jw =>
    obtain ⟨j, want⟩ := jw
    simp only [yielded, gtmp, Array.getElem?_toList]
    cases hd : (A[j]?).bind (·.dst) with
    | none => simp
    | some t =>
      simp only [Option.bind_some]
      cases ht : tmps[t]? with
      | none => simp
      | some v => cases v <;> simp

theorem execOp_oper (o : Oper) (dst : Option Tmp) (p : String) (af : Array Edge) (gd : Option (Nat × Bool)) (ρ : Operand → Value) :
    execOp ρ { dst := dst, op := o.op, type := o.type, pos := p, after := af, guard := gd } = execOp ρ o := by
  unfold execOp; rfl

theorem wp_oper (P : Program) (o : Oper) (gd : Option (Option Tmp × Bool)) (a : Act) (w : World) (K : Act → World → Prop) (Q : Exit → Act → World → Prop)
    (h : (GOp.oper ⟨o.dst, o.op, o.type, gd⟩).wp P a w K Q) : o.wp P a w K Q := by
  unfold Oper.wp at h ⊢
  have e : execOp a.eval (GOp.oper ⟨o.dst, o.op, o.type, gd⟩) = execOp a.eval o := execOp_oper o _ _ _ _ _
  rw [e] at h
  generalize (execOp a.eval o).run P w = r at h ⊢
  cases r with
  | ok n w' => cases n <;> exact h
  | halt x w' => cases x <;> exact h

theorem lwp_opsL {P : Program} {A : Array Oper} {Q : Exit → Act → World → Prop} : ∀ (l : List Oper) (k : Nat), A.toList.drop k = l → k + l.length = A.size →
    ∀ (a : Act) (w : World), lwp P (prepL A.toList l) Q a w → wpOps P A Q (List.range' k l.length) a w
  | [], k, h, hk, a, w, hw => hw
  | o :: l, k, h, hk, a, w, hw => by
    have hlt : k < A.size := by simp at hk; omega
    have ho : A[k]? = some o := by
      have := congrArg (·[0]?) h
      simpa using this
    have hdrop : A.toList.drop (k + 1) = l := by
      have := congrArg (·.drop 1) h
      simpa [List.drop_drop, Nat.add_comm] using this
    have ih := lwp_opsL (P := P) (Q := Q) l (k + 1) hdrop (by simp at hk; omega)
    simp only [List.length_cons, List.range'_succ, wpOps, ho]
    rw [prepL_cons] at hw
    simp only [lwp, wanted_prep] at hw
    split
    · rename_i hc
      rw [if_pos hc] at hw
      exact .inl (Oper.wp_mono (fun a w => ih a w) (wp_oper P o _ a w _ _ hw))
    · rename_i hc
      rw [if_neg hc] at hw
      exact ih _ _ hw

theorem lwp_ops {P : Program} {A : Array Oper} {Q : Exit → Act → World → Prop} (a : Act) (w : World) (h : lwp P (prep A) Q a w) : wpOps P A Q (List.range A.size) a w := by
  have := lwp_opsL (P := P) (A := A) (Q := Q) A.toList 0 rfl (by simp) a w h
  rw [List.range_eq_range']
  simpa using this

section
variable (P : Program)

/-- A list of operations, over abstract states. -/
structure SL (L : List GOp) (Q : Exit → St → Prop) (st : St) : Prop where
  mk :: (out : ∀ E ι F a w, Rel E ι F st a w → lwp P L (conc E Q) a w)

/-- A piece of code, over abstract states. -/
structure SC (c : Code) (Q : Exit → St → Prop) (st : St) : Prop where
  mk :: (out : ∀ E ι F a w, Rel E ι F st a w → c.wp P (conc E Q) a w)
end

def thenQ (K : St → Prop) (Q : Exit → St → Prop) : Exit → St → Prop
  | .normal, st => K st
  | e, st => Q e st

def inQ (id : Nat) (Q : Exit → St → Prop) : Exit → St → Prop
  | .exit id', st => bif Nat.beq id' id then Q .normal st else Q (.exit id') st
  | e, st => Q e st

variable {P : Program} {Q : Exit → St → Prop} {st : St} {L : List GOp}

theorem SL.weak {st' : St} (h : Weak st st') (k : SL P L Q st') : SL P L Q st :=
  ⟨fun E ι F a w r => by obtain ⟨ι', F', r'⟩ := h E ι F a w r; exact k.out E ι' F' a w r'⟩
theorem SC.weak {c : Code} {st' : St} (h : Weak st st') (k : SC P c Q st') : SC P c Q st :=
  ⟨fun E ι F a w r => by obtain ⟨ι', F', r'⟩ := h E ι F a w r; exact k.out E ι' F' a w r'⟩

theorem SL.nil (h : Q .normal st) : SL P [] Q st := ⟨fun E ι F a w r => ⟨ι, F, st, r, h⟩⟩

theorem SC.region {id : Nat} {A : Array Oper} (h : SL P (prep A) Q st) : SC P (.region id A false) Q st :=
  ⟨fun E ι F a w r => wp_region (lwp_ops _ _ (h.out E ι F a w r))⟩

theorem SC.skip (h : Q .normal st) : SC P .skip Q st := ⟨fun E ι F a w r => wp_skip ⟨ι, F, st, r, h⟩⟩
theorem SC.exit {id : Nat} (h : Q (.exit id) st) : SC P (.exit id) Q st := ⟨fun E ι F a w r => wp_exit ⟨ι, F, st, r, h⟩⟩
theorem SC.ret (h : Q .ret st) : SC P .ret Q st := ⟨fun E ι F a w r => wp_ret ⟨ι, F, st, r, h⟩⟩

theorem conc_then {E : Env} {K : St → Prop} {y : Code} (hK : ∀ st, K st → SC P y Q st) (e : Exit) (a : Act) (w : World) (h : conc E (thenQ K Q) e a w) :
    Exit.then (y.wp P (conc E Q)) (conc E Q) e a w := by
  cases e with
  | normal => obtain ⟨ι, F, st, r, k⟩ := h; exact (hK st k).out E ι F a w r
  | exit id => exact h
  | goto l => exact h
  | ret => exact h
  | panic c => exact h
  | outgrown => exact h

theorem SC.seq {x y : Code} (h : ∀ K : St → Prop, (∀ st, SC P y Q st → K st) → SC P x (thenQ K Q) st) : SC P (.seq x y) Q st :=
  ⟨fun E ι F a w r => wp_seq (wp_mono ((h (SC P y Q) (fun _ h => h)).out E ι F a w r) (conc_then fun _ h => h))⟩

/-- The same, the rest laid open. -/
theorem SC.seq' {x y : Code} (h : SC P x (thenQ (SC P y Q) Q) st) : SC P (.seq x y) Q st :=
  ⟨fun E ι F a w r => wp_seq (wp_mono (h.out E ι F a w r) (conc_then fun _ h => h))⟩

theorem SC.cond {c : Operand} {x y : Code} {b : Bool} (hc : st.eval c = .t (.bool b)) (h1 : b = true → SC P x Q st) (h2 : b = false → SC P y Q st) : SC P (.cond c x y) Q st :=
  ⟨fun E ι F a w r => by
    have hv := r.eval c
    rw [hc] at hv
    exact wp_cond_split (t := b) hv (fun hb => (h1 hb).out E ι F a w r) (fun hb => (h2 hb).out E ι F a w r)⟩
theorem SC.cond_true {c : Operand} {x y : Code} (hc : st.eval c = .t (.bool true)) (h : SC P x Q st) : SC P (.cond c x y) Q st :=
  SC.cond hc (fun _ => h) (fun e => by cases e)
theorem SC.cond_false {c : Operand} {x y : Code} (hc : st.eval c = .t (.bool false)) (h : SC P y Q st) : SC P (.cond c x y) Q st :=
  SC.cond hc (fun e => by cases e) (fun _ => h)

theorem SC.block {id : Nat} {c : Code} (h : SC P c (inQ id Q) st) : SC P (.block id c) Q st :=
  ⟨fun E ι F a w r => wp_block (wp_mono (h.out E ι F a w r) fun e a w he => by
    cases e with
    | exit id' =>
      obtain ⟨ι, F, st, r, k⟩ := he
      simp only [inQ] at k
      simp only [Exit.inBlock]
      cases hb : Nat.beq id' id with
      | true =>
        rw [hb] at k
        rw [if_pos (Nat.eq_of_beq_eq_true hb)]
        exact ⟨ι, F, st, r, k⟩
      | false =>
        rw [hb] at k
        rw [if_neg (fun e => by subst e; simp at hb)]
        exact ⟨ι, F, st, r, k⟩
    | normal => exact he
    | goto l => exact he
    | ret => exact he
    | panic c => exact he
    | outgrown => exact he)⟩

theorem SC.mono {c : Code} {Q' : Exit → St → Prop} (h : SC P c Q st) (hq : ∀ e st, Q e st → Q' e st) : SC P c Q' st :=
  ⟨fun E ι F a w r => wp_mono (h.out E ι F a w r) fun e a w he => by
    cases e with
    | panic c => exact he
    | outgrown => exact he
    | normal => obtain ⟨ι, F, st, r, k⟩ := he; exact ⟨ι, F, st, r, hq _ _ k⟩
    | exit _ => obtain ⟨ι, F, st, r, k⟩ := he; exact ⟨ι, F, st, r, hq _ _ k⟩
    | goto _ => obtain ⟨ι, F, st, r, k⟩ := he; exact ⟨ι, F, st, r, hq _ _ k⟩
    | ret => obtain ⟨ι, F, st, r, k⟩ := he; exact ⟨ι, F, st, r, hq _ _ k⟩⟩

/-- At a loop's head, on the machine. -/
def AtHead (P : Program) (c : Code) (Q : Exit → Act → World → Prop) (a : Act) (w : World) : Prop :=
  ∀ (b : Frame) (k : List Item) (cs : List Frame), ∃ e a' w', Q e a' w' ∧ Arrives P (lone (b.at a (.inLoop c :: k)) cs w) b k cs e a' w'

theorem atHead_round {c : Code} {Q : Exit → Act → World → Prop} {a : Act} {w : World} (h : c.wp P (Exit.then (AtHead P c Q) Q) a w) : AtHead P c Q a w := by
  intro b k cs
  obtain ⟨e, a₁, w₁, hq, harr⟩ := h b (.inLoop c :: k) cs
  cases e with
  | normal =>
    obtain ⟨e₂, a₂, w₂, hq₂, harr₂⟩ := hq b k cs
    exact ⟨e₂, a₂, w₂, hq₂, .of_steps (.head step_inLoop harr) harr₂⟩
  | exit id => exact ⟨_, a₁, w₁, hq, .of_steps (.one step_inLoop) (.pass (x := .inLoop c) rfl (fun _ _ => .inl (by simp)) harr)⟩
  | goto l => exact ⟨_, a₁, w₁, hq, .of_steps (.one step_inLoop) (.pass (x := .inLoop c) rfl (fun _ _ => .inl (by simp)) harr)⟩
  | ret => exact ⟨_, a₁, w₁, hq, .of_steps (.one step_inLoop) (.pass (x := .inLoop c) rfl (fun _ _ => .inl (by simp)) harr)⟩
  | panic ch => exact ⟨_, a₁, w₁, hq, .of_steps (.one step_inLoop) (.pass (x := .inLoop c) rfl (fun _ _ => .inl (by simp)) harr)⟩
  | outgrown => exact ⟨_, a₁, w₁, hq, .of_steps (.one step_inLoop) (.pass (x := .inLoop c) rfl (fun _ _ => .inl (by simp)) harr)⟩

theorem wp_of_atHead {c : Code} {Q : Exit → Act → World → Prop} {a : Act} {w : World} (h : c.wp P (Exit.then (AtHead P c Q) Q) a w) : (Code.loop c).wp P Q a w := by
  intro b k cs
  obtain ⟨e, a₁, w₁, hq, harr⟩ := h b (.inLoop c :: k) cs
  cases e with
  | normal =>
    obtain ⟨e₂, a₂, w₂, hq₂, harr₂⟩ := hq b k cs
    exact ⟨e₂, a₂, w₂, hq₂, .of_steps (.head step_loop harr) harr₂⟩
  | exit id => exact ⟨_, a₁, w₁, hq, .of_steps (.one step_loop) (.pass (x := .inLoop c) rfl (fun _ _ => .inl (by simp)) harr)⟩
  | goto l => exact ⟨_, a₁, w₁, hq, .of_steps (.one step_loop) (.pass (x := .inLoop c) rfl (fun _ _ => .inl (by simp)) harr)⟩
  | ret => exact ⟨_, a₁, w₁, hq, .of_steps (.one step_loop) (.pass (x := .inLoop c) rfl (fun _ _ => .inl (by simp)) harr)⟩
  | panic ch => exact ⟨_, a₁, w₁, hq, .of_steps (.one step_loop) (.pass (x := .inLoop c) rfl (fun _ _ => .inl (by simp)) harr)⟩
  | outgrown => exact ⟨_, a₁, w₁, hq, .of_steps (.one step_loop) (.pass (x := .inLoop c) rfl (fun _ _ => .inl (by simp)) harr)⟩

/-- A LOOP: whatever J is closed under a round (and under weakening) holds of the state at its head. -/
theorem SC.loop {c : Code} (h : ∀ J : St → Prop, (∀ st st', Weak st st' → J st' → J st) → (∀ st, SC P c (thenQ J Q) st → J st) → J st) : SC P (.loop c) Q st := by
  have key := h (fun st => ∀ E ι F a w, Rel E ι F st a w → c.wp P (Exit.then (AtHead P c (conc E Q)) (conc E Q)) a w)
    (fun st st' hw hj E ι F a w r => by obtain ⟨ι', F', r'⟩ := hw E ι F a w r; exact hj E ι' F' a w r')
    (fun st hs E ι F a w r => wp_mono (hs.out E ι F a w r) fun e a w he => by
      cases e with
      | normal => obtain ⟨ι, F, st, r, k⟩ := he; exact atHead_round (k E ι F a w r)
      | exit id => exact he
      | goto l => exact he
      | ret => exact he
      | panic c => exact he
      | outgrown => exact he)
  exact ⟨fun E ι F a w r => wp_of_atHead (key E ι F a w r)⟩

/-! ### Operations -/

/-- An operation that yields a value, and may turn memory. -/
theorem SL.value {g : GOp} (hg : g.g = none) (h : ∀ E ι F a w, Rel E ι F st a w → ∃ v w' ι' F' H' u, (execOp a.eval g.oper).run P w = .ok (.value v) w' ∧
      RelH E ι' F' H' w' ∧ Ext st.heap ι F w H' ι' F' w' ∧ VRel H' ι' F' w' u v ∧ SL P L Q ((st.on H').put g.dst u)) : SL P (g :: L) Q st :=
  ⟨fun E ι F a w r => by
    obtain ⟨v, w', ι', F', H', u, h1, h2, h3, h4, h5⟩ := h E ι F a w r
    have hw : g.wanted a.tmps = true := by unfold GOp.wanted; rw [hg]
    simp only [lwp, hw, if_true, Oper.wp, h1, Oper.upon]
    exact h5.out E ι' F' _ _ (r.put h2 h3 g.dst h4)⟩

/-- An operation that only reckons. -/
theorem SL.pure {g : GOp} (hg : g.g = none) (u : V) (h : ∀ E ι F a w, Rel E ι F st a w → ∃ v, (execOp a.eval g.oper).run P w = .ok (.value v) w ∧ VRel st.heap ι F w u v)
    (k : SL P L Q (st.put g.dst u)) : SL P (g :: L) Q st :=
  SL.value hg fun E ι F a w r => by
    obtain ⟨v, h1, h2⟩ := h E ι F a w r
    exact ⟨v, w, ι, F, st.heap, u, h1, r.h, Ext.refl _ _ _ _, h2, k⟩

/-- An operation under the guard of an operation that was skipped. -/
theorem SL.gu {d : Option Tmp} {op : Op} {ty : TypeId} {t : Tmp} {want : Bool} (hb : st.env t = .und) (h : SL P L Q (st.put d .und)) : SL P (⟨d, op, ty, some (some t, want)⟩ :: L) Q st :=
  ⟨fun E ι F a w r => by
    have hv := r.env t
    rw [hb] at hv
    have hw : GOp.wanted ⟨d, op, ty, some (some t, want)⟩ a.tmps = false := by
      have hv : a.tmps.getD t undef = undef := hv
      simp only [GOp.wanted]
      rw [Array.getD_eq_getD_getElem?] at hv
      cases he : a.tmps[t]? with
      | none => rfl
      | some v =>
        rw [he, Option.getD_some] at hv
        subst hv; rfl
    simp only [lwp, hw, Bool.false_eq_true, if_false]
    exact h.out E ι F _ _ (r.put_same d (u := .und) (v := undef) rfl)⟩

/-- An operation under a guard: both ways. -/
theorem SL.guard {d : Option Tmp} {op : Op} {ty : TypeId} {t : Tmp} {want b : Bool} (hb : st.env t = .t (.bool b)) (hlt : Nat.blt t st.nt = true)
    (h1 : b = want → SL P (⟨d, op, ty, none⟩ :: L) Q st) (h2 : b = !want → SL P L Q (st.put d .und)) : SL P (⟨d, op, ty, some (some t, want)⟩ :: L) Q st :=
  ⟨fun E ι F a w r => by
    have hv := r.env t
    rw [hb] at hv
    have hlt' : t < a.tmps.size := by rw [r.nt]; exact Nat.le_of_ble_eq_true hlt
    have he : a.tmps[t]? = some (.bool b) := by
      have : a.tmps.getD t undef = .bool b := hv
      rw [Array.getD_eq_getD_getElem?, Array.getElem?_eq_getElem hlt', Option.getD_some] at this
      rw [Array.getElem?_eq_getElem hlt', this]
    have hw : GOp.wanted ⟨d, op, ty, some (some t, want)⟩ a.tmps = (b == want) := by simp only [GOp.wanted, he]
    by_cases hbw : b = want
    · subst hbw
      have := (h1 rfl).out E ι F a w r
      have hw2 : GOp.wanted ⟨d, op, ty, none⟩ a.tmps = true := rfl
      simp only [lwp, hw2, if_true] at this
      simp only [lwp, hw, beq_self_eq_true, if_true]
      exact this
    · have hb2 : b = !want := by cases b <;> cases want <;> simp_all
      have := (h2 hb2).out E ι F _ _ (r.put_same d (u := .und) (v := undef) rfl)
      have hw2 : (b == want) = false := by simpa using hbw
      simp only [lwp, hw, hw2, Bool.false_eq_true, if_false]
      exact this⟩

end Go.Abs
