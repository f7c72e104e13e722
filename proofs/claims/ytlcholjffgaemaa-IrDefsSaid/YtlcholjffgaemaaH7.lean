/-
The evaluator: single steps, calls among them.
No statement of the program is proved here.
-/
import Derived.Test.YtlcholjffgaemaaH6
set_option linter.unusedVariables false
set_option linter.unusedSimpArgs false
set_option linter.unusedSectionVars false
namespace Go.Abs
open Go
noncomputable section

variable {P : Program} {d : Option Tmp} {ty : TypeId} {L : List GOp} {ρ : Type}

section
variable [SU] [Codes] {Q : Exit → ESt → Prop}
/-- What comes of a call goes on. -/
def callB {α ρ : Type} (x : Option α) (K : α → Option ρ) : Option ρ := match x with
  | some y => K y
  | none => none
theorem callB_out {α : Type} {x : Option α} {K : α → Option ρ} {r : ρ} (h : callB x K = some r) : ∃ y, x = some y ∧ K y = some r := by
  cases x with
  | none => cases h
  | some y => exact ⟨y, rfl, h⟩
def ESt.sub (s : ESt) (g : EV → EV) (H : EHeap) : ESt := ⟨s.nt, fun t => g (s.env t), H⟩

/-- How a contract fits a call. -/
structure Fit (c : Ctr P) where
  ks : List (Option Nat)
  x : DT c.ar
  y : DO c.os
def fitO (c : Ctr P) (s : ESt) (us : List EV) : Option (Fit c) :=
  let ks := ksOf (bindO s.heap c.os 0 (bindT (nthE us) c.ar [])) c.os 0
  bif nodK ks && (ltKs s.heap.next ks && (seqT 0 c.ar && (deadOk c.os c.ro && Nat.beq c.ar.length us.length))) then (match exT ks (nthE us) c.ar with
    | some x => match exOs ks s.heap c.os ks with
      | some y => some ⟨ks, x, y⟩
      | none => none
    | none => none) else none
theorem fitO_out {c : Ctr P} {s : ESt} {us : List EV} {z : Fit c} (h : fitO c s us = some z) : nodK z.ks = true ∧ ltKs s.heap.next z.ks = true ∧ seqT 0 c.ar = true ∧ deadOk c.os c.ro = true ∧ c.ar.length = us.length ∧ exT z.ks (nthE us) c.ar = some z.x ∧ exOs z.ks s.heap c.os z.ks = some z.y := by
  unfold fitO at h
  have hh := bif_none h
  clear h
  obtain ⟨hb, h⟩ := hh
  simp only [Bool.and_eq_true] at hb
  split at h
  · rename_i x hx
    split at h
    · rename_i y hy
      injection h with h
      subst h
      exact ⟨hb.1, hb.2.1, hb.2.2.1, hb.2.2.2.1, Nat.eq_of_beq_eq_true hb.2.2.2.2, hx, hy⟩
    · cases h
  · cases h
/-- The call of a contract that fits. -/
def callRun (c : Ctr P) (s : ESt) (z : Fit c) (d : Option Tmp) (K : ESt → Option ρ) : Option ρ :=
  callB (c.F z.x z.y) fun res => grd (lenOk s.heap (mkH c.os.length c.ro res.2) z.ks 0) (K ((s.sub (scrub (nestF z.ks)) (callH s.heap z.ks (mkH c.os.length c.ro res.2))).put d (renE (outK z.ks s.heap.next) (mkE c.rv res.1))))
def isNil {α : Type} : List α → Bool
  | [] => true
  | _ => false
def Ctr.quiet (c : Ctr P) : Bool := isNil c.os && isNil c.ro
theorem isNil_out {α : Type} {l : List α} (h : isNil l = true) : l = [] := by cases l <;> first | rfl | cases h
theorem VRel.of_none1 {H : Heap} {ι ι3 : Id → Option Nat} {F : Nat → Prop} {w : World} {u : V} {v : Value} (h : VRel Heap.none ι3 F w u v) : VRel H ι F w u v :=
  Ext.of (H := Heap.none) (ι := ι3) (fun _ h => h) (fun _ _ => rfl) (fun id => by unfold SlotOk Heap.none; trivial) u v h
/-- Arguments of a call. -/
structure ArgsOk (P : Program) (g : GOp) (f : FuncId) (us : List EV) (s : ESt) : Prop where
  out : ∀ E ι F a w, Rel E ι F (toSt s) a w → ∃ cargs, (execOp a.eval g.oper).run P w = .ok (.enter f cargs) w ∧ us.length = cargs.size ∧ ∀ j, j < cargs.size → VRel (toH s.heap) ι F w (toV s.heap.len (nthE us j)) (cargs.getD j undef)

theorem toH_empty (y : DO []) : toH (mkH 0 [] y) = Heap.none := rfl

theorem quiet_call {c : Ctr P} {s : ESt} {us : List EV} {z : Fit c} {g : GOp} (hq : c.quiet = true) (ha : ArgsOk P g c.f us s)
    (hz : fitO c s us = some z) {res : c.rv.D × DO c.ro} (hF : c.F z.x z.y = some res) : QO P g (toV s.heap.len (mkE c.rv res.1)) (toSt s) := fun E ι F a w r => by
  obtain ⟨cargs, h1, h2, h3⟩ := ha.out E ι F a w r
  obtain ⟨z1, z2, z3, z4, z5, z6, z7⟩ := fitO_out hz
  obtain ⟨ks, x, y⟩ := z
  obtain ⟨f, fnok, ar, os, rv, ro, cF, ok⟩ := c
  simp only [Ctr.quiet, Bool.and_eq_true] at hq
  simp only at x y hF z1 z2 z3 z4 z5 z6 z7 res ok h1 h2 ha ⊢
  obtain rfl := isNil_out hq.1
  obtain rfl := isNil_out hq.2
  simp only [Oper.wp, h1, Oper.upon]
  have pt : Part (toH s.heap) (toH (mkH 0 [] y)) (mK ks) := part_ok z7 z1
  have hR : Roots ks s.heap (mkH 0 [] y) (mK ks) := roots_ok z7
  have r2 := pt.rel r.h
  have hargs : ∀ j, j < (mkArgs ar x).length → VRel (toH (mkH 0 [] y)) (mι (mK ks) ι) F w (toV (mkH 0 [] y).len (nthE (mkArgs ar x) j)) (cargs.getD j undef) := fun j hj => by
    rw [mkArgs_len] at hj
    rw [seqT_env z3 j, Nat.zero_add]
    have := exT_ok (Z := fun _ => False) hR ar x z6 j _ _ _ _ _ r.h (h3 j (by omega))
    rw [FZ_none] at this
    exact this
  refine ((ok x y res hF).out _ _ _ _ cargs r2 (by rw [mkArgs_len]; omega) hargs).mono fun e w' ⟨v, ι3, F3, Hx, cv, k1, r3, hv, k4, k5⟩ => ?_
  subst k1
  subst k4
  subst k5
  refine ⟨cv, F3, rfl, ⟨r3.os, r3.tape, r3.output, r3.size, fun b hb => r3.kept b hb ?_, fun b hb => ?_, fun b hb => ?_, r3.frlt⟩, ?_⟩
  · rintro ⟨id, h, _⟩; exact h
  · have := r3.ext (.fp 0 (fun _ => .any)) (.pointer (some ⟨b, 0, none⟩)) ⟨b, 0, rfl, hb, fun j hj => absurd hj (Nat.not_lt_zero _)⟩
    obtain ⟨b', o', e1, e2, _⟩ := this
    injection e1 with e1; injection e1 with e1; injection e1 with e1
    subst e1; exact e2
  · rcases r3.frin b hb with h | ⟨id, h, _⟩ | h
    · exact .inl h
    · exact h.elim
    · exact .inr h
  · have hb : Born Heap.none (toV (mkH 0 [] res.2).len (mkE rv res.1)) := hv.born
    rw [toV_len (H := Heap.none) (len' := s.heap.len) (fun id p h => absurd rfl h) _ hb]
    exact VRel.of_none1 hv


def callO (s : ESt) (f : FuncId) (us : List EV) (d : Option Tmp) (K : ESt → Option ρ) : List (Ctr P) → Option ρ
  | [] => none
  | c :: T => bif Nat.beq c.f f then (match fitO c s us with
    | some z => bif c.quiet then callB (c.F z.x z.y) (fun res => K (s.put d (mkE c.rv res.1))) else callRun c s z d K
    | none => callO s f us d K T) else callO s f us d K T

theorem Rel.sub {E : Env} {ι ι' : Id → Option Nat} {F F' : Nat → Prop} {s : ESt} {a : Act} {w w' : World} (r : Rel E ι F (toSt s) a w) {H' : EHeap} {g : EV → EV} (hH : RelH E ι' F' (toH H') w')
    (he : ∀ u v, Born (toH s.heap) (toV s.heap.len u) → VRel (toH s.heap) ι F w (toV s.heap.len u) v → VRel (toH H') ι' F' w' (toV H'.len (g u)) v) (d : Option Tmp) {u : EV} {v : Value} (hv : VRel (toH H') ι' F' w' (toV H'.len u) v) :
    Rel E ι' F' (toSt ((s.sub g H').put d u)) (a.put d v) w' := by
  have r1 : Rel E ι' F' (toSt (s.sub g H')) a w' := ⟨hH, fun t => he _ _ (r.env t).born (r.env t), r.nt, r.defers⟩
  have := r1.put_same d hv
  rw [toSt_put]
  exact this

theorem callRun_ok {c : Ctr P} {s : ESt} {us : List EV} {z : Fit c} {g : GOp} {K : ESt → Option ρ} {res : ρ} (hg : g.g = none) (ha : ArgsOk P g c.f us s) (hz : fitO c s us = some z) (hK : ∀ s', K s' = some res → SLT P L Q s')
    (h : callRun c s z g.dst K = some res) : SLT P (g :: L) Q s := by
  obtain ⟨y, hF, h⟩ := callB_out h
  have hh := grd_out h
  clear h
  obtain ⟨hlen, h⟩ := hh
  obtain ⟨z1, z2, z3, z4, z5, z6, z7⟩ := fitO_out hz
  have hk := (hK _ h).out
  refine ⟨⟨fun E ι F a w r => ?_⟩⟩
  obtain ⟨cargs, h1, h2, h3⟩ := ha.out E ι F a w r
  have hw : g.wanted a.tmps = true := by unfold GOp.wanted; rw [hg]
  simp only [lwp, hw, if_true, Oper.wp, h1, Oper.upon]
  refine (call_rel r.h r.fair c z1 z2 z3 z4 z6 z7 hF hlen (by omega) h3).mono fun e w' ⟨cv, ι', F', k1, k2, k3, k4⟩ => ?_
  subst k1
  exact hk.out E ι' F' _ _ (r.sub k2 k3 g.dst k4)
theorem callO_ok {s : ESt} {f : FuncId} {us : List EV} {g : GOp} {K : ESt → Option ρ} {res : ρ} (hg : g.g = none) (ha : ArgsOk P g f us s) (hK : ∀ s', K s' = some res → SLT P L Q s') : ∀ {T : List (Ctr P)},
    callO s f us g.dst K T = some res → SLT P (g :: L) Q s
  | [], h => by cases h
  | c :: T, h => by
    unfold callO at h
    cases hb : Nat.beq c.f f with
    | false => rw [hb] at h; exact callO_ok hg ha hK (T := T) h
    | true =>
      rw [hb] at h
      obtain rfl := Nat.eq_of_beq_eq_true hb
      simp only [cond_true] at h
      split at h
      · rename_i z hz
        cases hq : c.quiet with
        | false => rw [hq] at h; exact callRun_ok hg ha hz hK h
        | true =>
          rw [hq] at h
          have hh := callB_out h
          clear h
          obtain ⟨y, hF, h⟩ := hh
          have q := quiet_call hq ha hz hF
          obtain ⟨gd, gop, gty, gg⟩ := g
          simp only at hg
          subst hg
          refine ⟨SL.q q ?_⟩
          have := (hK _ h).out
          rwa [toSt_put] at this
      · exact callO_ok hg ha hK (T := T) h
/-- Is a contract of this function known? -/
def memC (f : FuncId) : List (Ctr P) → Bool
  | [] => false
  | c :: T => Nat.beq c.f f || memC f T
theorem memC_out {f : FuncId} : ∀ {T : List (Ctr P)}, memC f T = true → FnOk P f
  | [], h => by cases h
  | c :: T, h => by
    simp only [memC, Bool.or_eq_true] at h
    rcases h with h | h
    · obtain rfl := Nat.eq_of_beq_eq_true h; exact c.fnok
    · exact memC_out h
theorem ESt.eval_rel {E : Env} {ι : Id → Option Nat} {F : Nat → Prop} {s : ESt} {a : Act} {w : World} (r : Rel E ι F (toSt s) a w) (x : Operand) : VRel (toH s.heap) ι F w (toV s.heap.len (s.eval x)) (a.eval x) :=
  s.eval_wk x _ _ _ _ _ (r.eval x)
theorem nthE_map {α : Type} (f : α → EV) : ∀ (l : List α) (j : Nat) (h : j < l.length), nthE (l.map f) j = f l[j]
  | [], _, h => absurd h (Nat.not_lt_zero _)
  | a :: l, 0, _ => rfl
  | a :: l, j + 1, h => by simp only [List.map_cons, nthE, List.getElem_cons_succ]; exact nthE_map f l j (by simpa using h)
theorem nthE_app : ∀ (l m : List EV) (j : Nat), nthE (l ++ m) j = if j < l.length then nthE l j else nthE m (j - l.length)
  | [], m, j => by simp
  | a :: l, m, 0 => by simp [nthE]
  | a :: l, m, j + 1 => by
    simp only [List.cons_append, nthE, nthE_app l m j, List.length_cons, Nat.add_lt_add_iff_right]
    split <;> simp
theorem args_fn {s : ESt} {f : FuncId} [FnOk P f] {args : Array Operand} {ats : Array TypeId} : ArgsOk P ⟨d, .call { callee := .value (.func f), args := args, argTypes := ats }, ty, none⟩ f (args.toList.map s.eval) s :=
  ⟨fun E ι F a w r => ⟨args.map a.eval, by simp [execOp, GOp.oper, resolve, Deferred.ofValue, invoke, Act.eval, callFunc_run], by simp, fun j hj => by
    have hj' : j < args.size := by simpa using hj
    have e2 : (args.map a.eval).getD j undef = a.eval args[j] := by simp [Array.getD, hj']
    rw [e2, nthE_map _ _ _ (by simpa using hj')]
    exact ESt.eval_rel r _⟩⟩
theorem args_val {s : ESt} {f : FuncId} [FnOk P f] {x : Operand} {l : List EV} {args : Array Operand} {ats : Array TypeId} (hx : s.eval x = .fn f l) :
    ArgsOk P ⟨d, .call { callee := .value x, args := args, argTypes := ats }, ty, none⟩ f (args.toList.map s.eval ++ l) s :=
  ⟨fun E ι F a w r => by
    have hr := ESt.eval_rel r x
    rw [hx] at hr
    simp only [toV] at hr
    obtain ⟨cs, h1, h2, h3⟩ := hr
    refine ⟨args.map a.eval ++ cs, by simp [execOp, GOp.oper, resolve, h1, Deferred.ofValue, invoke, callFunc_run], by simp [h2], fun j hj => ?_⟩
    rw [nthE_app]
    simp only [List.length_map, Array.length_toList]
    by_cases hj' : j < args.size
    · rw [if_pos hj']
      have e2 : (args.map a.eval ++ cs).getD j undef = a.eval args[j] := by
        rw [Array.getD_eq_getD_getElem?, Array.getElem?_append_left (by simpa using hj')]; simp [hj']
      rw [e2, nthE_map _ _ _ (by simpa using hj')]
      exact ESt.eval_rel r _
    · rw [if_neg hj']
      have hjn : j - args.size < l.length := by simp at hj; omega
      obtain ⟨c, g1, g2⟩ := h3 (j - args.size) hjn
      have e2 : (args.map a.eval ++ cs).getD j undef = c := by
        rw [Array.getD_eq_getD_getElem?, Array.getElem?_append_right (by simpa using Nat.le_of_not_lt hj')]; simp [g1]
      rw [e2, nthE_eq]
      exact g2⟩

/-! ### Own lists lent to functions that only read -/
mutual
def borrow (H : EHeap) : EV → EV
  | .sfull k p => match H.at k p with
    | some v => bif froT v.τ then .fz v.τ v.l else .un
    | none => .un
  | .b x => .b x
  | .i k n => .i k n
  | .s x => .s x
  | .fz τ l => .fz τ l
  | .fp τ x c => .fp τ x c
  | .st i x => .st i x
  | .nils => .nils
  | .nilp => .nilp
  | .nilm => .nilm
  | .nilf => .nilf
  | .nili => .nili
  | .agg l => .agg (borrows H l)
  | .un => .un
  | .und => .un
  | .ptr _ _ _ _ => .un
  | .sref _ _ _ _ => .un
  | .mref _ => .un
  | .tup _ => .un
  | .fn _ _ => .un
def borrows (H : EHeap) : List EV → List EV
  | [] => []
  | a :: l => borrow H a :: borrows H l
end
theorem borrows_len (H : EHeap) : ∀ l : List EV, (borrows H l).length = l.length
  | [] => rfl
  | a :: l => by simp [borrows, borrows_len H l]
theorem FrzB.un {H : Heap} (u : V) : FrzB H u .un := fun E ι F w c r h => trivial
mutual
theorem borrow_ok (H : EHeap) (len0 : Len) : ∀ u : EV, FrzB (toH H) (toV H.len u) (toV len0 (borrow H u))
  | .sfull k p => by
    simp only [borrow]
    cases hv : H.at k p with
    | none => simp only [toV]; exact FrzB.un _
    | some v =>
      cases hf : froT v.τ with
      | false => simp only [hf, cond_false, toV]; exact FrzB.un _
      | true =>
        simp only [hf, cond_true, toV, EHeap.len_at hv, encL]
        refine FrzB.sref (slot_lst hv) rfl rfl fun i hi j hj => ?_
        show FrzB _ (cellV H.len k p (i + 0) j (cellC v.τ (v.row (i + 0)) j)) _
        obtain ⟨u, e1, e2⟩ := cellC_enc v.τ (v.row (i + 0)) j hf
        rw [e1]
        show FrzB _ (toV H.len u) _
        rw [e2 hj]
        exact FrzB.of (Frz.t _)
  | .b x => by simp only [borrow, toV]; exact FrzB.of (Frz.t _)
  | .i k n => by simp only [borrow, toV]; exact FrzB.of (Frz.t _)
  | .s x => by simp only [borrow, toV]; exact FrzB.of (Frz.t _)
  | .fz τ l => by simp only [borrow, toV]; exact FrzB.of (Frz.t _)
  | .fp τ x c => by simp only [borrow, toV]; exact FrzB.of (Frz.fp _ _)
  | .st i x => by simp only [borrow, toV]; exact FrzB.agg fun j hj => FrzB.of (Frz.t _)
  | .nils => by simp only [borrow, toV]; exact fun E ι F w c r h => h
  | .nilp => by simp only [borrow, toV]; exact fun E ι F w c r h => h
  | .nilm => by simp only [borrow, toV]; exact fun E ι F w c r h => h
  | .nilf => by simp only [borrow, toV]; exact fun E ι F w c r h => h
  | .nili => by simp only [borrow, toV]; exact FrzB.of (Frz.t _)
  | .agg l => by simp only [borrow, toV, borrows_len]; exact FrzB.agg fun j hj => borrows_ok H len0 l j
  | .un => by simp only [borrow, toV]; exact FrzB.un _
  | .und => by simp only [borrow, toV]; exact FrzB.un _
  | .ptr _ _ _ _ => by simp only [borrow, toV]; exact FrzB.un _
  | .sref _ _ _ _ => by simp only [borrow, toV]; exact FrzB.un _
  | .mref _ => by simp only [borrow, toV]; exact FrzB.un _
  | .tup _ => by simp only [borrow, toV]; exact FrzB.un _
  | .fn _ _ => by simp only [borrow, toV]; exact FrzB.un _
theorem borrows_ok (H : EHeap) (len0 : Len) : ∀ (l : List EV) (j : Nat), FrzB (toH H) (toVs H.len l j) (toVs len0 (borrows H l) j)
  | [], j => by simp only [borrows, toVs]; exact FrzB.un _
  | a :: l, 0 => by simp only [borrows, toVs]; exact borrow_ok H len0 a
  | a :: l, j + 1 => by simp only [borrows, toVs]; exact borrows_ok H len0 l j
end
/-- Results that hang on no memory. -/
def scalS : Sh → Bool
  | .b => true
  | .i _ => true
  | .s => true
  | .nili => true
  | .tup [.b] => true
  | .tup [.i _, .b] => true
  | .tup [.i _, .i _] => true
  | _ => false
theorem scalS_ok {len : Len} : ∀ {a : Sh} (x : a.D), scalS a = true → Scal (toV len (mkE a x))
  | .b, x, _ => by simp only [mkE, toV]; exact Scal.bool _
  | .i _, x, _ => by simp only [mkE, toV]; exact Scal.int _ _
  | .s, x, _ => by simp only [mkE, toV]; exact Scal.str _
  | .nili, x, _ => by simp only [mkE, toV]; exact Scal.nilI
  | .tup [.b], x, _ => by
    simp only [mkE, mkEs, toV]
    refine Scal.tup fun j hj => ?_
    match j, hj with
    | 0, _ => simp only [toVs, toV]; exact Scal.bool _
  | .tup [.i _, .b], x, _ => by
    simp only [mkE, mkEs, toV]
    refine Scal.tup fun j hj => ?_
    match j, hj with
    | 0, _ => simp only [toVs, toV]; exact Scal.int _ _
    | 1, _ => simp only [toVs, toV]; exact Scal.bool _
  | .tup [.i _, .i _], x, _ => by
    simp only [mkE, mkEs, toV]
    refine Scal.tup fun j hj => ?_
    match j, hj with
    | 0, _ => simp only [toVs, toV]; exact Scal.int _ _
    | 1, _ => simp only [toVs, toV]; exact Scal.int _ _
def noS (us : List EV) : ESt := ⟨0, nthE us, mkH 0 [] ()⟩
theorem Ctr.pc {c : Ctr P} {us : List EV} {z : Fit c} (hq : c.quiet = true) (hz : fitO c (noS us) us = some z) {res : c.rv.D × DO c.ro} (hF : c.F z.x z.y = some res) :
    PC P c.f (us.map (toV (mkH 0 [] ()).len)) (toV (mkH 0 [] ()).len (mkE c.rv res.1)) := ⟨fun F w cargs hlt hl ha => by
  obtain ⟨z1, z2, z3, z4, z5, z6, z7⟩ := fitO_out hz
  obtain ⟨ks, x, y⟩ := z
  obtain ⟨f, fnok, ar, os, rv, ro, cF, ok⟩ := c
  simp only [Ctr.quiet, Bool.and_eq_true] at hq
  simp only at x y hF z1 z2 z3 z4 z5 z6 z7 res ok ⊢
  obtain rfl := isNil_out hq.1
  obtain rfl := isNil_out hq.2
  have r0 : RelH ⟨w, fun _ => False, Heap.none, noι, F⟩ noι F (toH (noS us).heap) w := RelH.start hlt
  have pt : Part (toH (noS us).heap) (toH (mkH 0 [] y)) (mK ks) := part_ok z7 z1
  have hR : Roots ks (noS us).heap (mkH 0 [] y) (mK ks) := roots_ok z7
  have r2 := pt.rel r0
  rw [List.length_map] at hl
  have hargs : ∀ j, j < (mkArgs ar x).length → VRel (toH (mkH 0 [] y)) (mι (mK ks) noι) F w (toV (mkH 0 [] y).len (nthE (mkArgs ar x) j)) (cargs.getD j undef) := fun j hj => by
    rw [mkArgs_len] at hj
    rw [seqT_env z3 j, Nat.zero_add]
    have h3 : VRel (toH (noS us).heap) noι F w (toV (noS us).heap.len (nthE us j)) (cargs.getD j undef) := by
      have := ha j (by rw [List.length_map]; omega)
      rw [List.getD_eq_getElem?_getD, List.getElem?_map] at this
      rw [nthE_eq, toVs_eq, List.getD_eq_getElem?_getD]
      cases hu : us[j]? with
      | none => rw [hu] at this; simp only [Option.getD_none, toV]; exact trivial
      | some u => rw [hu] at this; exact this
    have := exT_ok (Z := fun _ => False) hR ar x z6 j _ _ _ _ _ r0 h3
    rw [FZ_none] at this
    exact this
  refine ((ok x y res hF).out _ _ _ _ cargs r2 (by rw [mkArgs_len]; omega) hargs).mono fun e w' ⟨v, ι3, F3, Hx, cv, k1, r3, hv, k4, k5⟩ => ?_
  subst k1
  subst k4
  subst k5
  refine ⟨cv, F3, rfl, r3.os, r3.tape, r3.output, r3.size, fun b hb => r3.kept b hb ?_, fun b hb => ?_, fun b hb => ?_, r3.frlt, VRel.of_none1 hv⟩
  · rintro ⟨id, h, _⟩; exact h
  · have := r3.ext (.fp 0 (fun _ => .any)) (.pointer (some ⟨b, 0, none⟩)) ⟨b, 0, rfl, hb, fun j hj => absurd hj (Nat.not_lt_zero _)⟩
    obtain ⟨b', o', e1, e2, _⟩ := this
    injection e1 with e1; injection e1 with e1; injection e1 with e1
    subst e1; exact e2
  · rcases r3.frin b hb with h | ⟨id, h, _⟩ | h
    · exact .inl h
    · exact h.elim
    · exact .inr h⟩
theorem lend_args {s : ESt} (len0 : Len) : ∀ l : List Operand, All2 (FrzB (toSt s).heap) (l.map (toSt s).eval) ((borrows s.heap (l.map s.eval)).map (toV len0))
  | [] => .nil
  | x :: l => .cons (fun E ι F w c r h => borrow_ok s.heap len0 (s.eval x) E ι F w c r (s.eval_wk x _ _ _ _ _ h)) (lend_args len0 l)
theorem lend_call {c : Ctr P} {s : ESt} {args : Array Operand} {ats : Array TypeId} {z : Fit c} (hq : c.quiet = true) (hs : scalS c.rv = true) (hz : fitO c (noS (borrows s.heap (args.toList.map s.eval))) (borrows s.heap (args.toList.map s.eval)) = some z)
    {res : c.rv.D × DO c.ro} (hF : c.F z.x z.y = some res) : QO P ⟨d, .call { callee := .value (.func c.f), args := args, argTypes := ats }, ty, none⟩ (toV s.heap.len (mkE c.rv res.1)) (toSt s) := by
  have := c.fnok
  have h1 := QO.callB (d := d) (ty := ty) (ats := ats) (c.pc hq hz hF) (lend_args _ _) (scalS_ok res.1 hs)
  have e : toV s.heap.len (mkE c.rv res.1) = toV (mkH 0 [] ()).len (mkE c.rv res.1) := by
    have key : ∀ {a : Sh} (x : a.D) (len len' : Len), scalS a = true → toV len (mkE a x) = toV len' (mkE a x) := fun {a} x len len' h => by
      unfold scalS at h
      split at h <;> first | (simp only [mkE, toV]; done) | (simp only [mkE, mkEs, toV]; congr 1; funext j; match j with
        | 0 => simp only [toVs, toV]
        | 1 => simp only [toVs, toV]
        | n + 2 => simp only [toVs, toV]) | cases h
    exact key _ _ _ hs
  rw [e]
  exact h1
/-! ### Sums that may go round -/
def runOw (P : Program) [Tys P] (wr : Bool) (ev : Operand → EV) (H : EHeap) (op : Op) (K : EV → Option ρ) : Option ρ := bif wr then (match op with
  | .binOp o tx x y tY => match o, ev x, ev y with
    | .add, .i k m, .i k' n => bif kindEq k k' then K (.i k (k.wrap (m + n))) else none
    | .sub, .i k m, .i k' n => bif kindEq k k' then K (.i k (k.wrap (m - n))) else none
    | .mul, .i k m, .i k' n => bif kindEq k k' then K (.i k (k.wrap (m * n))) else none
    | _, _, _ => runO P ev H (.binOp o tx x y tY) K
  | op => runO P ev H op K) else runO P ev H op K
theorem runOw_ok [T : Tys P] {wr : Bool} {s : ESt} {op : Op} {K : EV → Option ρ} {res : ρ} (h : runOw P wr s.eval s.heap op K = some res) : ∃ u, (∀ d ty, QV P ⟨d, op, ty, none⟩ (toV s.heap.len u) (toSt s)) ∧ K u = some res := by
  unfold runOw at h
  cases wr with
  | false => exact runO_ok h
  | true =>
    simp only [cond_true] at h
    split at h
    · rename_i o tx x y tY
      split at h
      all_goals first
        | exact runO_ok h
        | (rename_i k m k' n hx hy
           have hx := eval_eq hx rfl
           have hy := eval_eq hy rfl
           simp only [toV] at hx hy
           have hh := bif_none h
           clear h
           obtain ⟨hk, h⟩ := hh
           have := kindEq_eq hk
           subst this
           first
             | exact ⟨_, fun d ty => (by simp only [toV]; exact O.add hx hy rfl), h⟩
             | exact ⟨_, fun d ty => (by simp only [toV]; exact O.sub hx hy rfl), h⟩
             | exact ⟨_, fun d ty => (by simp only [toV]; exact O.mul hx hy rfl), h⟩)
    · exact runO_ok h
/-! ### Steps -/
def rootsAll : List EV → List Nat
  | [] => []
  | u :: l => rootsOf u ++ rootsAll l
/-- A call with own lists lent. -/
def lendO (s : ESt) (f : FuncId) (us : List EV) (d : Option Tmp) (K : ESt → Option ρ) : List (Ctr P) → Option ρ
  | [] => none
  | c :: T => bif Nat.beq c.f f && (c.quiet && scalS c.rv) then (match fitO c (noS (borrows s.heap us)) (borrows s.heap us) with
    | some z => callB (c.F z.x z.y) fun res => K (s.put d (mkE c.rv res.1))
    | none => lendO s f us d K T) else lendO s f us d K T
def callFits (s : ESt) (f : FuncId) (us : List EV) : List (Ctr P) → Bool
  | [] => false
  | c :: T => (Nat.beq c.f f && (fitO c s us).isSome) || callFits s f us T
def lendFits (s : ESt) (f : FuncId) (us : List EV) : List (Ctr P) → Bool
  | [] => false
  | c :: T => (Nat.beq c.f f && (c.quiet && (scalS c.rv && (fitO c (noS (borrows s.heap us)) (borrows s.heap us)).isSome))) || lendFits s f us T
/-- A call; if no contract fits, own lists are lent; if none fits then, the lists become data first. -/
def callT (T : List (Ctr P)) (s : ESt) (f : FuncId) (args : List Operand) (d : Option Tmp) (K : ESt → Option ρ) : Option ρ :=
  bif memC f T then (match callFits s f (args.map s.eval) T with
    | true => callO s f (args.map s.eval) d K T
    | false => match lendFits s f (args.map s.eval) T with
      | true => lendO s f (args.map s.eval) d K T
      | false => frzAll s (fun s' => callO s' f (args.map s'.eval) d K T) (rootsAll (args.map s.eval))) else none
def runStep (wr : Bool) (T : List (Ctr P)) [Tys P] [TyE P] (s : ESt) (d : Option Tmp) (op : Op) (K : ESt → Option ρ) : Option ρ :=
  bif isPureOp op then runOw P wr s.eval s.heap op (fun u => K (s.put d u)) else
  match op with
  | .box e x => boxO e (TyE.c P e) (s.eval x) (newO s d (fun id => .ptr id [] 0 0) K)
  | .alloc e => allocO P e (newO s d (fun id => .ptr id [] 0 0) K)
  | .store t x y => storeO P s d t x y K
  | .buildSlice t n A => frzAll s (fun s' => buildO P s' t n A (newO s' d (fun id => .sfull id []) K)) (rootsAll (A.toList.map fun a => s.eval a.2))
  | .makeSlice t x y => makeO P s t x y (newO s d (fun id => .sfull id []) K)
  | .call c => match c.callee with
    | .value (.func f) => forceO s c.args.toList fun us => callT T s f c.args.toList d K
    | .value (.tmp x) => match s.env x with
      | .fn f l => forceO s c.args.toList fun us => bif memC f T then callO s f (us ++ l) d K T else none
      | _ => none
    | .builtin .append => match c.args.toList, c.argTypes.toList with
      | [x, y], [t, t'] => bif Nat.beq t t' then appO P s d t x y K else none
      | _, _ => none
    | _ => none
  | _ => none

theorem lendO_ok {s : ESt} {f : FuncId} {args : Array Operand} {ats : Array TypeId} {K : ESt → Option ρ} {res : ρ} (hK : ∀ s', K s' = some res → SLT P L Q s') : ∀ {T : List (Ctr P)},
    lendO s f (args.toList.map s.eval) d K T = some res → SLT P (⟨d, .call { callee := .value (.func f), args := args, argTypes := ats }, ty, none⟩ :: L) Q s
  | [], h => by cases h
  | c :: T, h => by
    unfold lendO at h
    cases hb : Nat.beq c.f f && (c.quiet && scalS c.rv) with
    | false => rw [hb] at h; exact lendO_ok hK (T := T) h
    | true =>
      rw [hb] at h
      simp only [Bool.and_eq_true] at hb
      obtain ⟨hb, hq, hs⟩ := hb
      obtain rfl := Nat.eq_of_beq_eq_true hb
      simp only [cond_true] at h
      split at h
      · rename_i z hz
        have hh := callB_out h
        clear h
        obtain ⟨y, hF, h⟩ := hh
        refine ⟨SL.q (lend_call (d := d) (ty := ty) (ats := ats) hq hs hz hF) ?_⟩
        have := (hK _ h).out
        rwa [toSt_put] at this
      · exact lendO_ok hK (T := T) h
theorem callT_ok {T : List (Ctr P)} {s : ESt} {f : FuncId} {args : Array Operand} {ats : Array TypeId} {K : ESt → Option ρ} {res : ρ} (hK : ∀ s', K s' = some res → SLT P L Q s')
    (h : callT T s f args.toList d K = some res) : SLT P (⟨d, .call { callee := .value (.func f), args := args, argTypes := ats }, ty, none⟩ :: L) Q s := by
  unfold callT at h
  have hh := bif_none h
  clear h
  obtain ⟨hm, h⟩ := hh
  have := memC_out hm
  split at h
  · exact callO_ok (g := ⟨d, _, ty, none⟩) rfl args_fn hK h
  · split at h
    · exact lendO_ok hK h
    · obtain ⟨s', w, h⟩ := frzAll_out _ _ h
      exact SLT.weak w (callO_ok (g := ⟨d, _, ty, none⟩) rfl args_fn hK h)

theorem runStep_ok {wr : Bool} {T : List (Ctr P)} [Tys P] [TyE P] {s : ESt} {op : Op} {K : ESt → Option ρ} {res : ρ} (hK : ∀ s', K s' = some res → SLT P L Q s') (h : runStep wr T s d op K = some res) : SLT P (⟨d, op, ty, none⟩ :: L) Q s := by
  unfold runStep at h
  cases hp : isPureOp op with
  | true =>
    rw [hp] at h
    simp only [cond_true] at h
    obtain ⟨u, h1, h2⟩ := runOw_ok h
    refine ⟨SL.o (h1 d ty) ?_⟩
    have := (hK _ h2).out
    rwa [toSt_put] at this
  | false =>
    rw [hp] at h
    simp only [cond_false] at h
    split at h
    · exact boxO_ok hK h
    · exact allocO_ok hK h
    · exact storeO_ok hK h
    · obtain ⟨s', w, h⟩ := frzAll_out _ _ h
      exact SLT.weak w (buildO_ok hK h)
    · exact makeO_ok hK h
    · rename_i c
      obtain ⟨callee, args, ats⟩ := c
      split at h
      · rename_i f hc
        simp only at hc
        subst hc
        rw [forceO_eq] at h
        exact callT_ok hK h
      · rename_i x hc
        simp only at hc
        subst hc
        split at h
        · rename_i f l hx
          rw [forceO_eq] at h
          have hh := bif_none h
          clear h
          obtain ⟨hm, h⟩ := hh
          have := memC_out hm
          exact callO_ok (g := ⟨d, _, ty, none⟩) rfl (args_val (x := .tmp x) hx) hK h
        · cases h
      · rename_i hc
        simp only at hc
        subst hc
        split at h
        · rename_i x y t t' ha ht
          simp only at ha ht
          have hh := bif_none h
          clear h
          obtain ⟨hb, h⟩ := hh
          obtain rfl := Nat.eq_of_beq_eq_true hb
          obtain ⟨al⟩ := args
          obtain ⟨tl⟩ := ats
          simp only at ha ht
          subst ha
          subst ht
          exact appO_ok hK h
        · cases h
      · cases h
    · cases h
/-- A list of operations. -/
def runL (wr : Bool) (T : List (Ctr P)) [Tys P] [TyE P] (K : ESt → Option ρ) : List GOp → ESt → Option ρ
  | [], s => K s
  | ⟨d, op, ty, none⟩ :: L, s => runStep wr T s d op (runL wr T K L)
  | ⟨d, op, ty, some (some t, w)⟩ :: L, s => match s.env t with
    | .und => runL wr T K L (s.put d .und)
    | .b b => bif Nat.blt t s.nt then
        (bif w then (bif b then runStep wr T (s.put (some t) (.b true)) d op (runL wr T K L) else runL wr T K L ((s.put (some t) (.b false)).put d .und))
         else (bif b then runL wr T K L ((s.put (some t) (.b true)).put d .und) else runStep wr T (s.put (some t) (.b false)) d op (runL wr T K L))) else none
    | _ => none
  | ⟨_, _, _, some (none, _)⟩ :: _, _ => none
theorem envT {s : ESt} {t : Nat} {u : EV} (h : s.env t = u) : (toSt s).env t = toV s.heap.len u := by subst h; rfl
theorem bifs {b : Bool} {x y : Option ρ} {r : ρ} (h : (bif b then x else y) = some r) : (b = true → x = some r) ∧ (b = false → y = some r) := by
  cases b
  · exact ⟨fun e => (by cases e), fun _ => h⟩
  · exact ⟨fun _ => h, fun e => (by cases e)⟩
theorem runL_ok {wr : Bool} {T : List (Ctr P)} [Tys P] [TyE P] {K : ESt → Option ρ} {res : ρ} (hK : ∀ s', K s' = some res → Q .normal s') : ∀ (L : List GOp) (s : ESt), runL wr T K L s = some res → SLT P L Q s
  | [], s, h => ⟨SL.nil ⟨s, rfl, hK _ h⟩⟩
  | ⟨d, op, ty, none⟩ :: L, s, h => runStep_ok (runL_ok hK L) h
  | ⟨d, op, ty, some (some t, w)⟩ :: L, s, h => by
    unfold runL at h
    split at h
    · rename_i hu
      have hu := envT hu
      simp only [toV] at hu
      refine ⟨SL.gu hu ?_⟩
      have := (runL_ok hK L _ h).out
      rwa [toSt_put] at this
    · rename_i b hb
      have hb := envT hb
      simp only [toV] at hb
      have hh := bif_none h
      clear h
      obtain ⟨hlt, h⟩ := hh
      have hlt' : Nat.blt t (toSt s).nt = true := hlt
      cases w with
      | true =>
        simp only [cond_true] at h
        obtain ⟨h1, h2⟩ := bifs h
        refine ⟨SL.splitG (w := true) rfl hb hlt' (fun e => ?_) (fun e => ?_)⟩
        · have := (runStep_ok (ty := ty) (runL_ok hK L) (h1 e)).out
          rw [toSt_put] at this
          exact SL.gy (by rw [put_env_eq, hlt']; rfl) hlt' this
        · have := (runL_ok hK L _ (h2 e)).out
          rw [toSt_put, toSt_put] at this
          exact SL.gn (by rw [put_env_eq, hlt']; rfl) hlt' this
      | false =>
        simp only [cond_false] at h
        obtain ⟨h1, h2⟩ := bifs h
        refine ⟨SL.splitG (w := false) rfl hb hlt' (fun e => ?_) (fun e => ?_)⟩
        · have := (runL_ok hK L _ (h1 e)).out
          rw [toSt_put, toSt_put] at this
          exact SL.gn (by rw [put_env_eq, hlt']; rfl) hlt' this
        · have := (runStep_ok (ty := ty) (runL_ok hK L) (h2 e)).out
          rw [toSt_put] at this
          exact SL.gy (by rw [put_env_eq, hlt']; rfl) hlt' this
    · cases h
  | ⟨_, _, _, some (none, _)⟩ :: _, _, h => by cases h
end
end
end Go.Abs
