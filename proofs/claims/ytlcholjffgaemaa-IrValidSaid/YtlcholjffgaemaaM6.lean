/-
Texts of the proof, part 6: H7 J5 J6 J7 J8 H8 H9 HA HB Tc.
No statement of the program is proved here.
-/
import Derived.Test.YtlcholjffgaemaaM5
set_option linter.unusedVariables false
set_option linter.unusedSimpArgs false
set_option linter.unusedSectionVars false
namespace Go.Abs
open Go
noncomputable section
variable {P : Program} {d : Option Tmp} {ty : TypeId} {L : List GOp} {ρ : Type}
section
variable [SU] [Codes] [Dats] [FFs] {Q : Exit -> ESt -> Prop}
def ESt.sub (s : ESt) (g : EV -> EV) (H : EHeap) : ESt := ⟨s.nt, fun t => g (s.env t), H⟩
structure Fit (c : Ctr P) where
 ks : List (Option Nat)
 x : DT c.ar
 y : DO c.os
def fitO (c : Ctr P) (s : ESt) (us : List EV) : Option (Fit c) :=
 let ks := ksOf (bindO s.heap c.os 0 (bindT (nthE us) c.ar [])) c.os 0
 bif nodK ks && (ltKs s.heap.next ks && (seqT 0 c.ar && (deadOk c.os c.ro && Nat.beq c.ar.length us.length))) then (match exT ks (nthE us) c.ar with
  | some x => match exOs ks s.heap c.os ks with
   | some y => some ⟨ks, x, y⟩
   | none => none
  | none => none) else none
theorem fitO_out {c : Ctr P} {s : ESt} {us : List EV} {z : Fit c} (h : fitO c s us = some z) : nodK z.ks = true /\ ltKs s.heap.next z.ks = true /\ seqT 0 c.ar = true /\ deadOk c.os c.ro = true /\ c.ar.length = us.length /\ exT z.ks (nthE us) c.ar = some z.x /\ exOs z.ks s.heap c.os z.ks = some z.y := by
 unfold fitO at h
 have hh := bif_none h
 clear h
 obtain ⟨hb, h⟩ := hh
 simp only [Bool.and_eq_true] at hb
 split at h
 ·rename_i x hx
  split at h
  ·rename_i y hy
   injection h with h
   subst h
   exact ⟨hb.1, hb.2.1, hb.2.2.1, hb.2.2.2.1, Nat.eq_of_beq_eq_true hb.2.2.2.2, hx, hy⟩
  ·cases h
 ·cases h
def callRun (c : Ctr P) (s : ESt) (z : Fit c) (d : Option Tmp) (K : ESt -> Option ρ) : Option ρ :=
 callB (c.F z.x z.y) fun res => grd (lenOk s.heap (mkH c.os.length c.ro res.2) z.ks 0) (K ((s.sub (scrub (nestF z.ks)) (callH s.heap z.ks (mkH c.os.length c.ro res.2))).put d (renE (outK z.ks s.heap.next) (mkE c.rv res.1))))
def Ctr.quiet (c : Ctr P) : Bool := isNil c.os && isNil c.ro
theorem VRel.of_none1 {H : Heap} {ι ι3 : Id -> Option Nat} {F : Nat -> Prop} {w : World} {u : V} {v : Value} (h : VRel Heap.none ι3 F w u v) : VRel H ι F w u v :=
 Ext.of (H := Heap.none) (ι := ι3) (fun _ h => h) (fun _ _ => rfl) (fun id => by unfold SlotOk Heap.none; trivial) u v h
structure ArgsOk (P : Program) (g : GOp) (f : FuncId) (us : List EV) (s : ESt) : Prop where
 out : ∀ E ι F a w, Rel E ι F (toSt s) a w -> ∃ cargs, (execOp a.eval g.oper).run P w = .ok (.enter f cargs) w /\ us.length = cargs.size /\ ∀ j, j < cargs.size -> VRel (toH s.heap) ι F w (toV s.heap.len (nthE us j)) (cargs.getD j undef)
theorem quiet_call {c : Ctr P} {s : ESt} {us : List EV} {z : Fit c} {g : GOp} (hq : c.quiet = true) (ha : ArgsOk P g c.f us s)
  (hz : fitO c s us = some z) {res : c.rv.D × DO c.ro} (hF : c.F z.x z.y = some res) : QO P g (toV s.heap.len (mkE c.rv res.1)) (toSt s) := fun E ι F a w r => by
 obtain ⟨cargs, h1, h2, h3⟩ := ha.out E ι F a w r
 obtain ⟨z1, z2, z3, z4, z5, z6, z7⟩ := fitO_out hz
 obtain ⟨ks, x, y⟩ := z
 obtain ⟨f, fnok, ar, os, rv, ro, cF, ok⟩ := c
 simp only [Ctr.quiet, Bool.and_eq_true] at hq
 simp only at x y hF z1 z2 z3 z4 z5 z6 z7 res ok h1 h2 ha ⊢
 obtain rfl := isNil_out hq.1
 obtain rfl := isNil_out hq.2
 simp only [Oper.wp, h1, Oper.upon]
 have pt : Part (toH s.heap) (toH (mkH 0 [] y)) (mK ks) := part_ok z7 z1
 have hR : Roots ks s.heap (mkH 0 [] y) (mK ks) := roots_ok z7
 have r2 := pt.rel r.h
 have hargs : ∀ j, j < (mkArgs ar x).length -> VRel (toH (mkH 0 [] y)) (mι (mK ks) ι) F w (toV (mkH 0 [] y).len (nthE (mkArgs ar x) j)) (cargs.getD j undef) := fun j hj => by
  rw [mkArgs_len] at hj
  rw [seqT_env z3 j, Nat.zero_add]
  have := exT_ok (Z := fun _ => False) hR ar x z6 j _ _ _ _ _ r.h (h3 j (by omega))
  rw [FZ_none] at this
  exact this
 refine ((ok x y res hF).out _ _ _ _ cargs r2 (by rw [mkArgs_len]; omega) hargs).mono fun e w' ⟨v, ι3, F3, Hx, cv, k1, r3, hv, k4, k5⟩ => ?_
 subst k1
 subst k4
 subst k5
 refine ⟨cv, F3, rfl, ⟨r3.os, r3.tape, r3.output, r3.size, fun b hb => r3.kept b hb ?_, fun b hb => ?_, fun b hb => ?_, r3.frlt⟩, ?_⟩
 ·rintro ⟨id, h, _⟩; exact h
 ·have := r3.ext (.fp 0 (fun _ => .any)) (.pointer (some ⟨b, 0, none⟩)) ⟨b, 0, rfl, hb, fun j hj => absurd hj (Nat.not_lt_zero _)⟩
  obtain ⟨b', o', e1, e2, _⟩ := this
  injection e1 with e1; injection e1 with e1; injection e1 with e1
  subst e1; exact e2
 ·rcases r3.frin b hb with h | ⟨id, h, _⟩ | h
  ·exact .inl h
  ·exact h.elim
  ·exact .inr h
 ·have hb : Born Heap.none (toV (mkH 0 [] res.2).len (mkE rv res.1)) := hv.born
  rw [toV_len (H := Heap.none) (len' := s.heap.len) (fun id p h => absurd rfl h) _ hb]
  exact VRel.of_none1 hv
def callO (s : ESt) (f : FuncId) (us : List EV) (d : Option Tmp) (K : ESt -> Option ρ) : List (Ctr P) -> Option ρ
 | [] => none
 | c :: T => bif Nat.beq c.f f then (match fitO c s us with
  | some z => bif c.quiet then callB (c.F z.x z.y) (fun res => K (s.put d (mkE c.rv res.1))) else callRun c s z d K
  | none => callO s f us d K T) else callO s f us d K T
theorem Rel.sub {E : Env} {ι ι' : Id -> Option Nat} {F F' : Nat -> Prop} {s : ESt} {a : Act} {w w' : World} (r : Rel E ι F (toSt s) a w) {H' : EHeap} {g : EV -> EV} (hH : RelH E ι' F' (toH H') w')
  (he : ∀ u v, Born (toH s.heap) (toV s.heap.len u) -> VRel (toH s.heap) ι F w (toV s.heap.len u) v -> VRel (toH H') ι' F' w' (toV H'.len (g u)) v) (d : Option Tmp) {u : EV} {v : Value} (hv : VRel (toH H') ι' F' w' (toV H'.len u) v) :
  Rel E ι' F' (toSt ((s.sub g H').put d u)) (a.put d v) w' := by
 have r1 : Rel E ι' F' (toSt (s.sub g H')) a w' := ⟨hH, fun t => he _ _ (r.env t).born (r.env t), r.nt, r.defers⟩
 have := r1.put_same d hv
 rw [toSt_put]
 exact this
theorem callRun_ok {c : Ctr P} {s : ESt} {us : List EV} {z : Fit c} {g : GOp} {K : ESt -> Option ρ} {res : ρ} (hg : g.g = none) (ha : ArgsOk P g c.f us s) (hz : fitO c s us = some z) (hK : ∀ s', K s' = some res -> SLT P L Q s')
  (h : callRun c s z g.dst K = some res) : SLT P (g :: L) Q s := by
 obtain ⟨y, hF, h⟩ := callB_out h
 have hh := grd_out h
 clear h
 obtain ⟨hlen, h⟩ := hh
 obtain ⟨z1, z2, z3, z4, z5, z6, z7⟩ := fitO_out hz
 have hk := (hK _ h).out
 refine ⟨⟨fun E ι F a w r => ?_⟩⟩
 obtain ⟨cargs, h1, h2, h3⟩ := ha.out E ι F a w r
 have hw : g.wanted a.tmps = true := by unfold GOp.wanted; rw [hg]
 simp only [lwp, hw, if_true, Oper.wp, h1, Oper.upon]
 refine (call_rel r.h r.fair c z1 z2 z3 z4 z6 z7 hF hlen (by omega) h3).mono fun e w' ⟨cv, ι', F', k1, k2, k3, k4, _⟩ => ?_
 subst k1
 exact hk.out E ι' F' _ _ (r.sub k2 k3 g.dst k4)
theorem callO_ok {s : ESt} {f : FuncId} {us : List EV} {g : GOp} {K : ESt -> Option ρ} {res : ρ} (hg : g.g = none) (ha : ArgsOk P g f us s) (hK : ∀ s', K s' = some res -> SLT P L Q s') : ∀ {T : List (Ctr P)},
  callO s f us g.dst K T = some res -> SLT P (g :: L) Q s
 | [], h => by cases h
 | c :: T, h => by
  unfold callO at h
  cases hb : Nat.beq c.f f with
  | false => rw [hb] at h; exact callO_ok hg ha hK (T := T) h
  | true =>
   rw [hb] at h
   obtain rfl := Nat.eq_of_beq_eq_true hb
   simp only [cond_true] at h
   split at h
   ·rename_i z hz
    cases hq : c.quiet with
    | false => rw [hq] at h; exact callRun_ok hg ha hz hK h
    | true =>
     rw [hq] at h
     have hh := callB_out h
     clear h
     obtain ⟨y, hF, h⟩ := hh
     have q := quiet_call hq ha hz hF
     obtain ⟨gd, gop, gty, gg⟩ := g
     simp only at hg
     subst hg
     refine ⟨SL.q q ?_⟩
     have := (hK _ h).out
     rwa [toSt_put] at this
   ·exact callO_ok hg ha hK (T := T) h
structure SLTG (P : Program) (g : GOp) (K : ESt -> Prop) (s : ESt) : Prop where
 out : SLG P g (liftK K) (toSt s)
theorem SLG.weak {g : GOp} {K : St -> Prop} {st st' : St} (w : Weak st st') (h : SLG P g K st') : SLG P g K st := ⟨fun E ι F a wd r => by
 obtain ⟨ι', F', r'⟩ := w E ι F a wd r
 exact h.out E ι' F' a wd r'⟩
theorem SLG.q {g : GOp} {K : St -> Prop} {st : St} {u : V} (hg : g.g = none) (h : QO P g u st) (k : K (st.put g.dst u)) : SLG P g K st := ⟨fun E ι F a w r => by
 refine ⟨hg, Oper.wp_mono (fun a' w' ⟨c, F', e, gr, v⟩ => ?_) (h E ι F a w r)⟩
 subst e
 obtain ⟨r2, x2⟩ := r.h.grown gr
 exact ⟨gr.grown, ι, F', _, r.put r2 x2 g.dst v, k⟩⟩
variable {K1 : ESt -> Prop}
theorem callRun_okG {c : Ctr P} {s : ESt} {us : List EV} {z : Fit c} {g : GOp} {K : ESt -> Option ρ} {res : ρ} (hn : isNil c.os = true) (hg : g.g = none) (ha : ArgsOk P g c.f us s) (hz : fitO c s us = some z) (hK : ∀ s', K s' = some res -> K1 s')
  (h : callRun c s z g.dst K = some res) : SLTG P g K1 s := by
 obtain ⟨y, hF, h⟩ := callB_out h
 have hh := grd_out h
 clear h
 obtain ⟨hlen, h⟩ := hh
 obtain ⟨z1, z2, z3, z4, z5, z6, z7⟩ := fitO_out hz
 refine ⟨⟨fun E ι F a w r => ⟨hg, ?_⟩⟩⟩
 obtain ⟨cargs, h1, h2, h3⟩ := ha.out E ι F a w r
 simp only [Oper.wp, h1, Oper.upon]
 refine (call_rel r.h r.fair c z1 z2 z3 z4 z6 z7 hF hlen (by omega) h3).mono fun e w' ⟨cv, ι', F', k1, k2, k3, k4, k5⟩ => ?_
 subst k1
 exact ⟨k5 hn, ι', F', _, r.sub k2 k3 g.dst k4, _, rfl, hK _ h⟩
def callG (s : ESt) (f : FuncId) (us : List EV) (d : Option Tmp) (K : ESt -> Option ρ) : List (Ctr P) -> Option ρ
 | [] => none
 | c :: T => bif Nat.beq c.f f && isNil c.os then (match fitO c s us with
  | some z => bif c.quiet then callB (c.F z.x z.y) (fun res => K (s.put d (mkE c.rv res.1))) else callRun c s z d K
  | none => callG s f us d K T) else callG s f us d K T
theorem callG_ok {s : ESt} {f : FuncId} {us : List EV} {g : GOp} {K : ESt -> Option ρ} {res : ρ} (hg : g.g = none) (ha : ArgsOk P g f us s) (hK : ∀ s', K s' = some res -> K1 s') : ∀ {T : List (Ctr P)},
  callG s f us g.dst K T = some res -> SLTG P g K1 s
 | [], h => by cases h
 | c :: T, h => by
  unfold callG at h
  cases hb : Nat.beq c.f f && isNil c.os with
  | false => rw [hb] at h; exact callG_ok hg ha hK (T := T) h
  | true =>
   rw [hb] at h
   simp only [Bool.and_eq_true] at hb
   obtain ⟨hb, hn⟩ := hb
   obtain rfl := Nat.eq_of_beq_eq_true hb
   simp only [cond_true] at h
   split at h
   ·rename_i z hz
    cases hq : c.quiet with
    | false => rw [hq] at h; exact callRun_okG hn hg ha hz hK h
    | true =>
     rw [hq] at h
     have hh := callB_out h
     clear h
     obtain ⟨y, hF, h⟩ := hh
     have q := quiet_call hq ha hz hF
     refine ⟨SLG.q hg q ⟨_, ?_, hK _ h⟩⟩
     rw [toSt_put]
   ·exact callG_ok hg ha hK (T := T) h
structure FitL (c : Ctr P) where
 ks : List (Option Nat)
 x : DT c.ar
 y : DO c.os
 yk : DO c.os
def fitL (c : Ctr P) (s : ESt) (us : List EV) : Option (FitL c) :=
 let ks := ksOf (bindO s.heap c.os 0 (bindT (nthE us) c.ar [])) c.os 0
 bif (nodK ks && (ltKs s.heap.next ks && (seqT 0 c.ar && (deadOk c.os c.ro && Nat.beq c.ar.length us.length)))) && ffSh c.rv then (match exT ks (nthE (scrubs (lendF s.heap ks) us)) c.ar with
  | some x => match exOs ks s.heap c.os ks with
   | some y => match exOs ks (lendH s.heap ks) c.os ks with
    | some yk => some ⟨ks, x, y, yk⟩
    | none => none
   | none => none
  | none => none) else none
theorem fitL_out {c : Ctr P} {s : ESt} {us : List EV} {z : FitL c} (h : fitL c s us = some z) : (nodK z.ks = true /\ ltKs s.heap.next z.ks = true /\ seqT 0 c.ar = true /\ deadOk c.os c.ro = true /\ c.ar.length = us.length) /\ ffSh c.rv = true /\
  exT z.ks (nthE (scrubs (lendF s.heap z.ks) us)) c.ar = some z.x /\ exOs z.ks s.heap c.os z.ks = some z.y /\ exOs z.ks (lendH s.heap z.ks) c.os z.ks = some z.yk := by
 unfold fitL at h
 simp only at h
 have hh := bif_none h
 clear h
 obtain ⟨hb, h⟩ := hh
 simp only [Bool.and_eq_true] at hb
 obtain ⟨⟨h1, h2, h3, h4, h5⟩, h6⟩ := hb
 split at h
 ·rename_i x hx
  split at h
  ·rename_i y hy
   split at h
   ·rename_i yk hyk
    injection h with h
    subst h
    exact ⟨⟨h1, h2, h3, h4, natBeq h5⟩, h6, hx, hy, hyk⟩
   ·cases h
  ·cases h
 ·cases h
def sameY (c : Ctr P) (z : FitL c) (K : Option ρ) : Option ρ := bif isNil c.os then K else grd (okB (z.y = z.yk)) K
theorem sameY_out {c : Ctr P} {z : FitL c} {K : Option ρ} {res : ρ} (h : sameY c z K = some res) : z.yk = z.y /\ K = some res := by
 unfold sameY at h
 cases hn : isNil c.os with
 | false =>
  rw [hn] at h
  obtain ⟨h1, h2⟩ := grd_out h
  exact ⟨(okB_out h1).symm, h2⟩
 | true =>
  rw [hn] at h
  obtain ⟨ks, x, y, yk⟩ := z
  obtain ⟨f, fnok, ar, os, rv, ro, cF, ok⟩ := c
  obtain rfl := isNil_out hn
  exact ⟨rfl, h⟩
def lendRun (c : Ctr P) (s : ESt) (z : FitL c) (d : Option Tmp) (K : ESt -> Option ρ) : Option ρ :=
 sameY c z (callB (c.F z.x z.y) fun res => ffK c.ro res.2 (grd (lenOk s.heap (mkH c.os.length c.ro res.2) z.ks 0) (K ((s.sub (scrub (nestF z.ks)) (callH s.heap z.ks (mkH c.os.length c.ro res.2))).put d (renE (outK z.ks s.heap.next) (mkE c.rv res.1))))))
theorem lendRun_rel {c : Ctr P} {s : ESt} {us : List EV} {z : FitL c} {g : GOp} {K : ESt -> Option ρ} {res : ρ} (ha : ArgsOk P g c.f us s) (hz : fitL c s us = some z) (h : lendRun c s z g.dst K = some res) {E : Env} {ι : Id -> Option Nat} {F : Nat -> Prop} {a : Act} {w : World} (r : Rel E ι F (toSt s) a w) :
  ∃ cargs s', K s' = some res /\ (execOp a.eval g.oper).run P w = .ok (.enter c.f cargs) w /\ Calls P c.f cargs w fun e w' => ∃ cv ι' F', e = .returned cv /\ Rel E ι' F' (toSt s') (a.put g.dst cv) w' /\ (isNil c.os = true -> Grown w w') := by
 obtain ⟨he, h⟩ := sameY_out h
 obtain ⟨y, hF, h⟩ := callB_out h
 obtain ⟨hff, h⟩ := ffK_out _ _ h
 have hh := grd_out h
 clear h
 obtain ⟨hlen, h⟩ := hh
 obtain ⟨⟨z1, z2, z3, z4, z5⟩, z6, z7, z8, z9⟩ := fitL_out hz
 rw [he] at z9
 obtain ⟨cargs, h1, h2, h3⟩ := ha.out E ι F a w r
 refine ⟨cargs, _, h, h1, ?_⟩
 refine (lend_rel r.h r.fair c z1 z2 z3 z4 z7 z8 z9 hF (ffK_FF z6 hff) hlen (by omega) (fun j hj => ⟨(h3 j hj).born, h3 j hj⟩)).mono fun e w' ⟨cv, ι', F', k1, k2, k3, k4, k5⟩ => ?_
 exact ⟨cv, ι', F', k1, r.sub k2 k3 g.dst k4, k5⟩
theorem lendRun_ok {c : Ctr P} {s : ESt} {us : List EV} {z : FitL c} {g : GOp} {K : ESt -> Option ρ} {res : ρ} (hg : g.g = none) (ha : ArgsOk P g c.f us s) (hz : fitL c s us = some z) (hK : ∀ s', K s' = some res -> SLT P L Q s')
  (h : lendRun c s z g.dst K = some res) : SLT P (g :: L) Q s := ⟨⟨fun E ι F a w r => by
 obtain ⟨cargs, s', hk, h1, h2⟩ := lendRun_rel ha hz h r
 have hw : g.wanted a.tmps = true := by unfold GOp.wanted; rw [hg]
 simp only [lwp, hw, if_true, Oper.wp, h1, Oper.upon]
 refine h2.mono fun e w' ⟨cv, ι', F', k1, k2, _⟩ => ?_
 subst k1
 exact (hK _ hk).out.out E ι' F' _ _ k2⟩⟩
theorem lendRun_okG {c : Ctr P} {s : ESt} {us : List EV} {z : FitL c} {g : GOp} {K : ESt -> Option ρ} {res : ρ} (hn : isNil c.os = true) (hg : g.g = none) (ha : ArgsOk P g c.f us s) (hz : fitL c s us = some z) (hK : ∀ s', K s' = some res -> K1 s')
  (h : lendRun c s z g.dst K = some res) : SLTG P g K1 s := ⟨⟨fun E ι F a w r => by
 obtain ⟨cargs, s', hk, h1, h2⟩ := lendRun_rel ha hz h r
 refine ⟨hg, ?_⟩
 simp only [Oper.wp, h1, Oper.upon]
 refine h2.mono fun e w' ⟨cv, ι', F', k1, k2, k3⟩ => ?_
 subst k1
 exact ⟨k3 hn, ι', F', _, k2, _, rfl, hK _ hk⟩⟩⟩
def lendX (s : ESt) (f : FuncId) (us : List EV) (d : Option Tmp) (K : ESt -> Option ρ) : List (Ctr P) -> Option ρ
 | [] => none
 | c :: T => bif Nat.beq c.f f then (match fitL c s us with
  | some z => lendRun c s z d K
  | none => lendX s f us d K T) else lendX s f us d K T
def ffOs : List OSh -> Bool
 | [] => true
 | .cells _ m :: l => ffSh.ffShs m && ffOs l
 | .mp _ τ :: l => ((ffTy τ && froT τ) && Nat.blt 0 τ.sz) && ffOs l
 | _ :: l => ffOs l
def lendXFits (s : ESt) (f : FuncId) (us : List EV) : List (Ctr P) -> Bool
 | [] => false
 | c :: T => (Nat.beq c.f f && (ffOs c.ro && (fitL c s us).isSome)) || lendXFits s f us T
theorem lendX_ok {s : ESt} {f : FuncId} {us : List EV} {g : GOp} {K : ESt -> Option ρ} {res : ρ} (hg : g.g = none) (ha : ArgsOk P g f us s) (hK : ∀ s', K s' = some res -> SLT P L Q s') : ∀ {T : List (Ctr P)},
  lendX s f us g.dst K T = some res -> SLT P (g :: L) Q s
 | [], h => by cases h
 | c :: T, h => by
  unfold lendX at h
  cases hb : Nat.beq c.f f with
  | false => rw [hb] at h; exact lendX_ok hg ha hK (T := T) h
  | true =>
   rw [hb] at h
   obtain rfl := Nat.eq_of_beq_eq_true hb
   simp only [cond_true] at h
   split at h
   ·rename_i z hz
    exact lendRun_ok hg ha hz hK h
   ·exact lendX_ok hg ha hK (T := T) h
def lendXG (s : ESt) (f : FuncId) (us : List EV) (d : Option Tmp) (K : ESt -> Option ρ) : List (Ctr P) -> Option ρ
 | [] => none
 | c :: T => bif Nat.beq c.f f && isNil c.os then (match fitL c s us with
  | some z => lendRun c s z d K
  | none => lendXG s f us d K T) else lendXG s f us d K T
theorem lendXG_ok {s : ESt} {f : FuncId} {us : List EV} {g : GOp} {K : ESt -> Option ρ} {res : ρ} (hg : g.g = none) (ha : ArgsOk P g f us s) (hK : ∀ s', K s' = some res -> K1 s') : ∀ {T : List (Ctr P)},
  lendXG s f us g.dst K T = some res -> SLTG P g K1 s
 | [], h => by cases h
 | c :: T, h => by
  unfold lendXG at h
  cases hb : Nat.beq c.f f && isNil c.os with
  | false => rw [hb] at h; exact lendXG_ok hg ha hK (T := T) h
  | true =>
   rw [hb] at h
   simp only [Bool.and_eq_true] at hb
   obtain ⟨hb, hn⟩ := hb
   obtain rfl := Nat.eq_of_beq_eq_true hb
   simp only [cond_true] at h
   split at h
   ·rename_i z hz
    exact lendRun_okG hn hg ha hz hK h
   ·exact lendXG_ok hg ha hK (T := T) h
def memC (f : FuncId) : List (Ctr P) -> Bool
 | [] => false
 | c :: T => Nat.beq c.f f || memC f T
theorem memC_out {f : FuncId} : ∀ {T : List (Ctr P)}, memC f T = true -> FnOk P f
 | [], h => by cases h
 | c :: T, h => by
  simp only [memC, Bool.or_eq_true] at h
  rcases h with h | h
  ·obtain rfl := Nat.eq_of_beq_eq_true h; exact c.fnok
  ·exact memC_out h
theorem ESt.eval_rel {E : Env} {ι : Id -> Option Nat} {F : Nat -> Prop} {s : ESt} {a : Act} {w : World} (r : Rel E ι F (toSt s) a w) (x : Operand) : VRel (toH s.heap) ι F w (toV s.heap.len (s.eval x)) (a.eval x) :=
 s.eval_wk x _ _ _ _ _ (r.eval x)
theorem nthE_map {α : Type} (f : α -> EV) : ∀ (l : List α) (j : Nat) (h : j < l.length), nthE (l.map f) j = f l[j]
 | [], _, h => absurd h (Nat.not_lt_zero _)
 | a :: l, 0, _ => rfl
 | a :: l, j + 1, h => by simp only [List.map_cons, nthE, List.getElem_cons_succ]; exact nthE_map f l j (by simpa using h)
theorem nthE_app : ∀ (l m : List EV) (j : Nat), nthE (l ++ m) j = if j < l.length then nthE l j else nthE m (j - l.length)
 | [], m, j => by simp
 | a :: l, m, 0 => by simp [nthE]
 | a :: l, m, j + 1 => by
  simp only [List.cons_append, nthE, nthE_app l m j, List.length_cons, Nat.add_lt_add_iff_right]
  split <;> simp
theorem args_fn {s : ESt} {f : FuncId} [FnOk P f] {args : Array Operand} {ats : Array TypeId} : ArgsOk P ⟨d, .call { callee := .value (.func f), args := args, argTypes := ats }, ty, none⟩ f (args.toList.map s.eval) s :=
 ⟨fun E ι F a w r => ⟨args.map a.eval, by simp [execOp, GOp.oper, resolve, Deferred.ofValue, invoke, Act.eval, callFunc_run], by simp, fun j hj => by
  have hj' : j < args.size := by simpa using hj
  have e2 : (args.map a.eval).getD j undef = a.eval args[j] := by simp [Array.getD, hj']
  rw [e2, nthE_map _ _ _ (by simpa using hj')]
  exact ESt.eval_rel r _⟩⟩
theorem args_val {s : ESt} {f : FuncId} [FnOk P f] {x : Operand} {l : List EV} {args : Array Operand} {ats : Array TypeId} (hx : s.eval x = .fn f l) :
  ArgsOk P ⟨d, .call { callee := .value x, args := args, argTypes := ats }, ty, none⟩ f (args.toList.map s.eval ++ l) s :=
 ⟨fun E ι F a w r => by
  have hr := ESt.eval_rel r x
  rw [hx] at hr
  simp only [toV] at hr
  obtain ⟨cs, h1, h2, h3⟩ := hr
  refine ⟨args.map a.eval ++ cs, by simp [execOp, GOp.oper, resolve, h1, Deferred.ofValue, invoke, callFunc_run], by simp [h2], fun j hj => ?_⟩
  rw [nthE_app]
  simp only [List.length_map, Array.length_toList]
  by_cases hj' : j < args.size
  ·rw [if_pos hj']
   have e2 : (args.map a.eval ++ cs).getD j undef = a.eval args[j] := by
    rw [Array.getD_eq_getD_getElem?, Array.getElem?_append_left (by simpa using hj')]; simp [hj']
   rw [e2, nthE_map _ _ _ (by simpa using hj')]
   exact ESt.eval_rel r _
  ·rw [if_neg hj']
   have hjn : j - args.size < l.length := by simp at hj; omega
   obtain ⟨c, g1, g2⟩ := h3 (j - args.size) hjn
   have e2 : (args.map a.eval ++ cs).getD j undef = c := by
    rw [Array.getD_eq_getD_getElem?, Array.getElem?_append_right (by simpa using Nat.le_of_not_lt hj')]; simp [g1]
   rw [e2, nthE_eq]
   exact g2⟩
mutual
def borrow (H : EHeap) : EV -> EV
 | .sfull k p => match H.at k p with
  | some v => datE v
  | none => .un
 | .b x => .b x
 | .i k n => .i k n
 | .s x => .s x
 | .fz τ l => .fz τ l
 | .fp τ x c => .fp τ x c
 | .st i x => .st i x
 | .nils => .nils
 | .nilp => .nilp
 | .nilm => .nilm
 | .nilf => .nilf
 | .nili => .nili
 | .agg l => .agg (borrows H l)
 | .un => .un
 | .und => .un
 | .ptr _ _ _ _ => .un
 | .sref _ _ _ _ => .un
 | .mref _ => .un
 | .tup _ => .un
 | .fn _ _ => .un
def borrows (H : EHeap) : List EV -> List EV
 | [] => []
 | a :: l => borrow H a :: borrows H l
end
def borrowK (H : EHeap) (u : EV) (K : EV -> Option ρ) : Option ρ := match u with
 | .sfull k (c :: p) => H.atK k (c :: p) fun v => K (datE v)
 | u => K (borrow H u)
theorem borrowK_out {H : EHeap} {u : EV} {K : EV -> Option ρ} {res : ρ} (h : borrowK H u K = some res) : K (borrow H u) = some res := by
 unfold borrowK at h
 split at h
 ·obtain ⟨v, h1, h2⟩ := EHeap.atK_out h
  simp only [borrow, h1]
  exact h2
 ·exact h
def borrowsK (H : EHeap) : List EV -> (List EV -> Option ρ) -> Option ρ
 | [], K => K []
 | u :: l, K => borrowK H u fun a => borrowsK H l fun m => K (a :: m)
theorem borrowsK_out {H : EHeap} : ∀ {l : List EV} {K : List EV -> Option ρ} {res : ρ}, borrowsK H l K = some res -> K (borrows H l) = some res
 | [], K, res, h => h
 | u :: l, K, res, h => borrowsK_out (l := l) (borrowK_out (u := u) h)
theorem borrows_len (H : EHeap) : ∀ l : List EV, (borrows H l).length = l.length
 | [] => rfl
 | a :: l => by simp [borrows, borrows_len H l]
theorem FrzB.un {H : Heap} (u : V) : FrzB H u .un := fun E ι F w c r h => trivial
mutual
theorem borrow_ok (H : EHeap) (len0 : Len) : ∀ u : EV, FrzB (toH H) (toV H.len u) (toV len0 (borrow H u))
 | .sfull k p => by
  simp only [borrow]
  cases hv' : H.at k p with
  | none => simp only [toV]; exact FrzB.un _
  | some v =>
   intro E ι F w c r hv
   simp only [toV, EHeap.len_at hv'] at hv
   exact datE_ok hv' r hv (fun b hb => hb.imp (fun h => h) fun ⟨q, q1, q2⟩ => ⟨⟨k, q⟩, q1, q2⟩)
 | .b x => by simp only [borrow, toV]; exact FrzB.of (Frz.t _)
 | .i k n => by simp only [borrow, toV]; exact FrzB.of (Frz.t _)
 | .s x => by simp only [borrow, toV]; exact FrzB.of (Frz.t _)
 | .fz τ l => by simp only [borrow, toV]; exact FrzB.of (Frz.t _)
 | .fp τ x c => by simp only [borrow, toV]; exact FrzB.of (Frz.fp _ _)
 | .st i x => by simp only [borrow, toV]; exact FrzB.agg fun j hj => FrzB.of (Frz.t _)
 | .nils => by simp only [borrow, toV]; exact fun E ι F w c r h => h
 | .nilp => by simp only [borrow, toV]; exact fun E ι F w c r h => h
 | .nilm => by simp only [borrow, toV]; exact fun E ι F w c r h => h
 | .nilf => by simp only [borrow, toV]; exact fun E ι F w c r h => h
 | .nili => by simp only [borrow, toV]; exact FrzB.of (Frz.t _)
 | .agg l => by simp only [borrow, toV, borrows_len]; exact FrzB.agg fun j hj => borrows_ok H len0 l j
 | .un => by simp only [borrow, toV]; exact FrzB.un _
 | .und => by simp only [borrow, toV]; exact FrzB.un _
 | .ptr _ _ _ _ => by simp only [borrow, toV]; exact FrzB.un _
 | .sref _ _ _ _ => by simp only [borrow, toV]; exact FrzB.un _
 | .mref _ => by simp only [borrow, toV]; exact FrzB.un _
 | .tup _ => by simp only [borrow, toV]; exact FrzB.un _
 | .fn _ _ => by simp only [borrow, toV]; exact FrzB.un _
theorem borrows_ok (H : EHeap) (len0 : Len) : ∀ (l : List EV) (j : Nat), FrzB (toH H) (toVs H.len l j) (toVs len0 (borrows H l) j)
 | [], j => by simp only [borrows, toVs]; exact FrzB.un _
 | a :: l, 0 => by simp only [borrows, toVs]; exact borrow_ok H len0 a
 | a :: l, j + 1 => by simp only [borrows, toVs]; exact borrows_ok H len0 l j
end
def scalS : Sh -> Bool
 | .b => true
 | .i _ => true
 | .s => true
 | .nili => true
 | .tup [.b] => true
 | .tup [.i _, .b] => true
 | .tup [.i _, .i _] => true
 | _ => false
theorem scalS_ok {len : Len} : ∀ {a : Sh} (x : a.D), scalS a = true -> Scal (toV len (mkE a x))
 | .b, x, _ => by simp only [mkE, toV]; exact Scal.bool _
 | .i _, x, _ => by simp only [mkE, toV]; exact Scal.int _ _
 | .s, x, _ => by simp only [mkE, toV]; exact Scal.str _
 | .nili, x, _ => by simp only [mkE, toV]; exact Scal.nilI
 | .tup [.b], x, _ => by
  simp only [mkE, mkEs, toV]
  refine Scal.tup fun j hj => ?_
  match j, hj with
  | 0, _ => simp only [toVs, toV]; exact Scal.bool _
 | .tup [.i _, .b], x, _ => by
  simp only [mkE, mkEs, toV]
  refine Scal.tup fun j hj => ?_
  match j, hj with
  | 0, _ => simp only [toVs, toV]; exact Scal.int _ _
  | 1, _ => simp only [toVs, toV]; exact Scal.bool _
 | .tup [.i _, .i _], x, _ => by
  simp only [mkE, mkEs, toV]
  refine Scal.tup fun j hj => ?_
  match j, hj with
  | 0, _ => simp only [toVs, toV]; exact Scal.int _ _
  | 1, _ => simp only [toVs, toV]; exact Scal.int _ _
def noS (us : List EV) : ESt := ⟨0, nthE us, mkH 0 [] ()⟩
theorem Ctr.pc {c : Ctr P} {us : List EV} {z : Fit c} (hq : c.quiet = true) (hz : fitO c (noS us) us = some z) {res : c.rv.D × DO c.ro} (hF : c.F z.x z.y = some res) :
  PC P c.f (us.map (toV (mkH 0 [] ()).len)) (toV (mkH 0 [] ()).len (mkE c.rv res.1)) := ⟨fun F w cargs hlt hl ha => by
 obtain ⟨z1, z2, z3, z4, z5, z6, z7⟩ := fitO_out hz
 obtain ⟨ks, x, y⟩ := z
 obtain ⟨f, fnok, ar, os, rv, ro, cF, ok⟩ := c
 simp only [Ctr.quiet, Bool.and_eq_true] at hq
 simp only at x y hF z1 z2 z3 z4 z5 z6 z7 res ok ⊢
 obtain rfl := isNil_out hq.1
 obtain rfl := isNil_out hq.2
 have r0 : RelH ⟨w, fun _ => False, Heap.none, noι, F⟩ noι F (toH (noS us).heap) w := RelH.start hlt
 have pt : Part (toH (noS us).heap) (toH (mkH 0 [] y)) (mK ks) := part_ok z7 z1
 have hR : Roots ks (noS us).heap (mkH 0 [] y) (mK ks) := roots_ok z7
 have r2 := pt.rel r0
 rw [List.length_map] at hl
 have hargs : ∀ j, j < (mkArgs ar x).length -> VRel (toH (mkH 0 [] y)) (mι (mK ks) noι) F w (toV (mkH 0 [] y).len (nthE (mkArgs ar x) j)) (cargs.getD j undef) := fun j hj => by
  rw [mkArgs_len] at hj
  rw [seqT_env z3 j, Nat.zero_add]
  have h3 : VRel (toH (noS us).heap) noι F w (toV (noS us).heap.len (nthE us j)) (cargs.getD j undef) := by
   have := ha j (by rw [List.length_map]; omega)
   rw [List.getD_eq_getElem?_getD, List.getElem?_map] at this
   rw [nthE_eq, toVs_eq, List.getD_eq_getElem?_getD]
   cases hu : us[j]? with
   | none => rw [hu] at this; simp only [Option.getD_none, toV]; exact trivial
   | some u => rw [hu] at this; exact this
  have := exT_ok (Z := fun _ => False) hR ar x z6 j _ _ _ _ _ r0 h3
  rw [FZ_none] at this
  exact this
 refine ((ok x y res hF).out _ _ _ _ cargs r2 (by rw [mkArgs_len]; omega) hargs).mono fun e w' ⟨v, ι3, F3, Hx, cv, k1, r3, hv, k4, k5⟩ => ?_
 subst k1
 subst k4
 subst k5
 refine ⟨cv, F3, rfl, r3.os, r3.tape, r3.output, r3.size, fun b hb => r3.kept b hb ?_, fun b hb => ?_, fun b hb => ?_, r3.frlt, VRel.of_none1 hv⟩
 ·rintro ⟨id, h, _⟩; exact h
 ·have := r3.ext (.fp 0 (fun _ => .any)) (.pointer (some ⟨b, 0, none⟩)) ⟨b, 0, rfl, hb, fun j hj => absurd hj (Nat.not_lt_zero _)⟩
  obtain ⟨b', o', e1, e2, _⟩ := this
  injection e1 with e1; injection e1 with e1; injection e1 with e1
  subst e1; exact e2
 ·rcases r3.frin b hb with h | ⟨id, h, _⟩ | h
  ·exact .inl h
  ·exact h.elim
  ·exact .inr h⟩
theorem lend_args {s : ESt} (len0 : Len) : ∀ l : List Operand, All2 (FrzB (toSt s).heap) (l.map (toSt s).eval) ((borrows s.heap (l.map s.eval)).map (toV len0))
 | [] => .nil
 | x :: l => .cons (fun E ι F w c r h => borrow_ok s.heap len0 (s.eval x) E ι F w c r (s.eval_wk x _ _ _ _ _ h)) (lend_args len0 l)
theorem lend_call {c : Ctr P} {s : ESt} {args : Array Operand} {ats : Array TypeId} {z : Fit c} (hq : c.quiet = true) (hs : scalS c.rv = true) (hz : fitO c (noS (borrows s.heap (args.toList.map s.eval))) (borrows s.heap (args.toList.map s.eval)) = some z)
  {res : c.rv.D × DO c.ro} (hF : c.F z.x z.y = some res) : QO P ⟨d, .call { callee := .value (.func c.f), args := args, argTypes := ats }, ty, none⟩ (toV s.heap.len (mkE c.rv res.1)) (toSt s) := by
 have := c.fnok
 have h1 := QO.callB (d := d) (ty := ty) (ats := ats) (c.pc hq hz hF) (lend_args _ _) (scalS_ok res.1 hs)
 have e : toV s.heap.len (mkE c.rv res.1) = toV (mkH 0 [] ()).len (mkE c.rv res.1) := by
  have key : ∀ {a : Sh} (x : a.D) (len len' : Len), scalS a = true -> toV len (mkE a x) = toV len' (mkE a x) := fun {a} x len len' h => by
   unfold scalS at h
   split at h <;> first | (simp only [mkE, toV]; done) | (simp only [mkE, mkEs, toV]; congr 1; funext j; match j with
    | 0 => simp only [toVs, toV]
    | 1 => simp only [toVs, toV]
    | n + 2 => simp only [toVs, toV]) | cases h
  exact key _ _ _ hs
 rw [e]
 exact h1
inductive Pn where
 | nil
 | fl (i : Nat) (p : Pn)
 | rd (i : Nat) (p : Pn)
 | qu (l : List Nat) (p : Pn)
 | on (i : Nat) (p : Pn)
 | br (i : Nat) (p q : Pn)
 | no
structure Opt where
 wr : Bool := false
 tr : Bool := false
 fr : Bool := false
 tk : Bool := false
 md : List Nat := []
 rt : List (Nat × Nat) := []
 ab : List Nat := []
 pl : Pn := .no
def isPureX : Op -> Bool
 | .makeFunc _ _ _ => true
 | .build _ _ => true
 | .lookup _ _ _ _ => true
 | .slice _ _ _ _ _ => true
 | op => isPureOp op
def runOw (P : Program) [Tys P] [TyX P] (wr : Bool) (ev : Operand -> EV) (H : EHeap) (op : Op) (K : EV -> Option ρ) : Option ρ := bif wr then (match op with
 | .binOp o tx x y tY => match o, ev x, ev y with
  | .add, .i k m, .i k' n => bif kindEq k k' then K (.i k (k.wrap (m + n))) else none
  | .sub, .i k m, .i k' n => bif kindEq k k' then K (.i k (k.wrap (m - n))) else none
  | .mul, .i k m, .i k' n => bif kindEq k k' then K (.i k (k.wrap (m * n))) else none
  | _, _, _ => runX P ev H (.binOp o tx x y tY) K
 | op => runX P ev H op K) else runX P ev H op K
theorem runOw_ok [T : Tys P] [TyX P] {wr : Bool} {s : ESt} {op : Op} {K : EV -> Option ρ} {res : ρ} (h : runOw P wr s.eval s.heap op K = some res) : ∃ u, (∀ d ty, QV P ⟨d, op, ty, none⟩ (toV s.heap.len u) (toSt s)) /\ K u = some res := by
 unfold runOw at h
 cases wr with
 | false => exact runX_ok h
 | true =>
  simp only [cond_true] at h
  split at h
  ·rename_i o tx x y tY
   split at h
   all_goals first
    | exact runX_ok h
    | (rename_i k m k' n hx hy
       have hx := eval_eq hx rfl
       have hy := eval_eq hy rfl
       simp only [toV] at hx hy
       have hh := bif_none h
       clear h
       obtain ⟨hk, h⟩ := hh
       have := kindEq_eq hk
       subst this
       first
        | exact ⟨_, fun d ty => (by simp only [toV]; exact O.add hx hy rfl), h⟩
        | exact ⟨_, fun d ty => (by simp only [toV]; exact O.sub hx hy rfl), h⟩
        | exact ⟨_, fun d ty => (by simp only [toV]; exact O.mul hx hy rfl), h⟩)
  ·exact runX_ok h
def rootsAll : List EV -> List Nat
 | [] => []
 | u :: l => rootsOf u ++ rootsAll l
def lendO (s : ESt) (f : FuncId) (bs : List EV) (d : Option Tmp) (K : ESt -> Option ρ) : List (Ctr P) -> Option ρ
 | [] => none
 | c :: T => bif Nat.beq c.f f && (c.quiet && scalS c.rv) then (match fitO c (noS bs) bs with
  | some z => callB (c.F z.x z.y) fun res => K (s.put d (mkE c.rv res.1))
  | none => lendO s f bs d K T) else lendO s f bs d K T
def callFits (s : ESt) (f : FuncId) (us : List EV) : List (Ctr P) -> Bool
 | [] => false
 | c :: T => (Nat.beq c.f f && (fitO c s us).isSome) || callFits s f us T
def lendFits (f : FuncId) (bs : List EV) : List (Ctr P) -> Bool
 | [] => false
 | c :: T => (Nat.beq c.f f && (c.quiet && (scalS c.rv && (fitO c (noS bs) bs).isSome))) || lendFits f bs T
def callT (T : List (Ctr P)) (s : ESt) (f : FuncId) (args : List Operand) (d : Option Tmp) (K : ESt -> Option ρ) : Option ρ :=
 bif memC f T then (match callFits s f (args.map s.eval) T with
  | true => callO s f (args.map s.eval) d K T
  | false => borrowsK s.heap (args.map s.eval) fun bs => match lendFits f bs T with
   | true => lendO s f bs d K T
   | false => match lendXFits s f (args.map s.eval) T with
    | true => lendX s f (args.map s.eval) d K T
    | false => frzAll s (fun s' => callO s' f (args.map s'.eval) d K T) (rootsAll (args.map s.eval))) else none
def runStep1 (wr : Opt) (T : List (Ctr P)) [Tys P] [TyE P] [TyX P] (s : ESt) (d : Option Tmp) (op : Op) (K : ESt -> Option ρ) : Option ρ :=
 bif isPureX op then runOw P wr.wr s.eval s.heap op (fun u => K (s.put d u)) else
 match op with
 | .box e x => boxO e (TyE.c P e) (s.eval x) (newO s d (fun id => .ptr id [] 0 0) K)
 | .alloc e => allocO P e (newO s d (fun id => .ptr id [] 0 0) K)
 | .store t x y => storeO P s d t x y K
 | .buildSlice t n A => frzAll s (fun s' => buildO P s' t n A (newO s' d (fun id => .sfull id []) K)) (rootsAll (A.toList.map fun a => s.eval a.2))
 | .makeMap t r => match r with
  | none => makeMapO P t (fun o => litO s.heap.next fun id => K ((s.on (s.heap.add id o)).put d (.mref id)))
  | some _ => none
 | .mapUpdate t x y z => updO P s d t x y z K
 | .makeSlice t x y => makeW P s d t x y K (makeO P s t x y (newO s d (fun id => .sfull id []) K))
 | .call c => match c.callee with
  | .value (.func f) => forceO s c.args.toList fun us => callT T s f c.args.toList d K
  | .value (.tmp x) => match s.env x with
   | .fn f l => forceO s c.args.toList fun us => bif memC f T then (match callFits s f (us ++ l) T with
    | true => callO s f (us ++ l) d K T
    | false => lendX s f (us ++ l) d K T) else none
   | _ => none
  | .builtin .append => match c.args.toList, c.argTypes.toList with
   | [x, y], [t, t'] => bif Nat.beq t t' then takeO s x (fun s' => appO P s' d t x y K) else none
   | _, _ => none
  | .builtin .clear => match c.args.toList, c.argTypes.toList with
   | [x], [t] => clearO P s d t x K
   | _, _ => none
  | _ => none
 | _ => none
def runStep (wr : Opt) (T : List (Ctr P)) [Tys P] [TyE P] [TyX P] (s : ESt) (d : Option Tmp) (op : Op) (K : ESt -> Option ρ) : Option ρ := match op with
 | .slice t x none (some y) none => bif wr.tr then truncO P s d t x y K else runStep1 wr T s d (.slice t x none (some y) none) K
 | .convert src dst x => match (Tys.c P dst).sl with
  | some _ => bytesO P s d src dst x K
  | none => runStep1 wr T s d (.convert src dst x) K
 | .binOp o t x y tY => match nilQ s o x y with
  | some (neg, emp) => bif isSlTy P t then nilK s d neg emp K else none
  | none => runStep1 wr T s d (.binOp o t x y tY) K
 | op => runStep1 wr T s d op K
theorem lendO_ok {s : ESt} {f : FuncId} {args : Array Operand} {ats : Array TypeId} {K : ESt -> Option ρ} {res : ρ} (hK : ∀ s', K s' = some res -> SLT P L Q s') : ∀ {T : List (Ctr P)},
  lendO s f (borrows s.heap (args.toList.map s.eval)) d K T = some res -> SLT P (⟨d, .call { callee := .value (.func f), args := args, argTypes := ats }, ty, none⟩ :: L) Q s
 | [], h => by cases h
 | c :: T, h => by
  unfold lendO at h
  cases hb : Nat.beq c.f f && (c.quiet && scalS c.rv) with
  | false => rw [hb] at h; exact lendO_ok hK (T := T) h
  | true =>
   rw [hb] at h
   simp only [Bool.and_eq_true] at hb
   obtain ⟨hb, hq, hs⟩ := hb
   obtain rfl := Nat.eq_of_beq_eq_true hb
   simp only [cond_true] at h
   split at h
   ·rename_i z hz
    have hh := callB_out h
    clear h
    obtain ⟨y, hF, h⟩ := hh
    refine ⟨SL.q (lend_call (d := d) (ty := ty) (ats := ats) hq hs hz hF) ?_⟩
    have := (hK _ h).out
    rwa [toSt_put] at this
   ·exact lendO_ok hK (T := T) h
theorem callT_ok {T : List (Ctr P)} {s : ESt} {f : FuncId} {args : Array Operand} {ats : Array TypeId} {K : ESt -> Option ρ} {res : ρ} (hK : ∀ s', K s' = some res -> SLT P L Q s')
  (h : callT T s f args.toList d K = some res) : SLT P (⟨d, .call { callee := .value (.func f), args := args, argTypes := ats }, ty, none⟩ :: L) Q s := by
 unfold callT at h
 have hh := bif_none h
 clear h
 obtain ⟨hm, h⟩ := hh
 have := memC_out hm
 split at h
 ·exact callO_ok (g := ⟨d, _, ty, none⟩) rfl args_fn hK h
 ·have h := borrowsK_out h
  split at h
  ·exact lendO_ok hK h
  ·split at h
   ·exact lendX_ok (g := ⟨d, _, ty, none⟩) rfl args_fn hK h
   ·obtain ⟨s', w, h⟩ := frzAll_out _ _ h
    exact SLT.weak w (callO_ok (g := ⟨d, _, ty, none⟩) rfl args_fn hK h)
theorem lendG_ok {s : ESt} {f : FuncId} {args : Array Operand} {ats : Array TypeId} {K : ESt -> Option ρ} {res : ρ} (hK : ∀ s', K s' = some res -> K1 s') : ∀ {T : List (Ctr P)},
  lendO s f (borrows s.heap (args.toList.map s.eval)) d K T = some res -> SLTG P ⟨d, .call { callee := .value (.func f), args := args, argTypes := ats }, ty, none⟩ K1 s
 | [], h => by cases h
 | c :: T, h => by
  unfold lendO at h
  cases hb : Nat.beq c.f f && (c.quiet && scalS c.rv) with
  | false => rw [hb] at h; exact lendG_ok hK (T := T) h
  | true =>
   rw [hb] at h
   simp only [Bool.and_eq_true] at hb
   obtain ⟨hb, hq, hs⟩ := hb
   obtain rfl := Nat.eq_of_beq_eq_true hb
   simp only [cond_true] at h
   split at h
   ·rename_i z hz
    have hh := callB_out h
    clear h
    obtain ⟨y, hF, h⟩ := hh
    refine ⟨SLG.q rfl (lend_call (d := d) (ty := ty) (ats := ats) hq hs hz hF) ⟨_, ?_, hK _ h⟩⟩
    rw [toSt_put]
   ·exact lendG_ok hK (T := T) h
def growC (f : FuncId) : List (Ctr P) -> Bool
 | [] => true
 | c :: T => (!(Nat.beq c.f f) || isNil c.os) && growC f T
def callTG (T : List (Ctr P)) (s : ESt) (f : FuncId) (args : List Operand) (d : Option Tmp) (K : ESt -> Option ρ) : Option ρ :=
 bif memC f T then (match callFits s f (args.map s.eval) T with
  | true => callG s f (args.map s.eval) d K T
  | false => borrowsK s.heap (args.map s.eval) fun bs => match lendFits f bs T with
   | true => lendO s f bs d K T
   | false => match lendXFits s f (args.map s.eval) T with
    | true => lendXG s f (args.map s.eval) d K T
    | false => frzAll s (fun s' => callG s' f (args.map s'.eval) d K T) (rootsAll (args.map s.eval))) else none
theorem callTG_ok {T : List (Ctr P)} {s : ESt} {f : FuncId} {args : Array Operand} {ats : Array TypeId} {K : ESt -> Option ρ} {res : ρ} (hK : ∀ s', K s' = some res -> K1 s')
  (h : callTG T s f args.toList d K = some res) : SLTG P ⟨d, .call { callee := .value (.func f), args := args, argTypes := ats }, ty, none⟩ K1 s := by
 unfold callTG at h
 have hh := bif_none h
 clear h
 obtain ⟨hm, h⟩ := hh
 have := memC_out hm
 split at h
 ·exact callG_ok (g := ⟨d, _, ty, none⟩) rfl args_fn hK h
 ·have h := borrowsK_out h
  split at h
  ·exact lendG_ok hK h
  ·split at h
   ·exact lendXG_ok (g := ⟨d, _, ty, none⟩) rfl args_fn hK h
   ·obtain ⟨s', w, h⟩ := frzAll_out _ _ h
    exact ⟨SLG.weak w (callG_ok (g := ⟨d, _, ty, none⟩) rfl args_fn hK h).out⟩
def isGrow (T : List (Ctr P)) (op : Op) : Bool := match op with
 | .call c => match c.callee with
  | .value (.func f) => memC f T && growC f T
  | _ => false
 | _ => false
def runG (T : List (Ctr P)) (K : ESt -> Option ρ) (g : GOp) (s : ESt) : Option ρ := match g with
 | ⟨d, .call c, _, none⟩ => match c.callee with
  | .value (.func f) => forceO s c.args.toList fun us => callTG T s f c.args.toList d K
  | _ => none
 | _ => none
theorem runG_ok {T : List (Ctr P)} {K : ESt -> Option ρ} {res : ρ} {g : GOp} {s : ESt} (hK : ∀ s', K s' = some res -> K1 s') (h : runG T K g s = some res) : SLTG P g K1 s := by
 unfold runG at h
 split at h
 ·rename_i d c ty
  obtain ⟨callee, args, ats⟩ := c
  split at h
  ·rename_i f hc
   simp only at hc
   subst hc
   rw [forceO_eq] at h
   exact callTG_ok hK h
  ·cases h
 ·cases h
theorem runStep1_ok {wr : Opt} {T : List (Ctr P)} [Tys P] [TyE P] [TyX P] {s : ESt} {op : Op} {K : ESt -> Option ρ} {res : ρ} (hK : ∀ s', K s' = some res -> SLT P L Q s') (h : runStep1 wr T s d op K = some res) : SLT P (⟨d, op, ty, none⟩ :: L) Q s := by
 unfold runStep1 at h
 cases hp : isPureX op with
 | true =>
  rw [hp] at h
  simp only [cond_true] at h
  obtain ⟨u, h1, h2⟩ := runOw_ok h
  refine ⟨SL.o (h1 d ty) ?_⟩
  have := (hK _ h2).out
  rwa [toSt_put] at this
 | false =>
  rw [hp] at h
  simp only [cond_false] at h
  split at h
  ·exact boxO_ok hK h
  ·exact allocO_ok hK h
  ·exact storeO_ok hK h
  ·obtain ⟨s', w, h⟩ := frzAll_out _ _ h
   exact SLT.weak w (buildO_ok hK h)
  ·split at h
   ·exact makeMapO_ok hK h
   ·cases h
  ·exact updO_ok hK h
  ·exact makeW_ok hK (fun h => makeO_ok hK h) h
  ·rename_i c
   obtain ⟨callee, args, ats⟩ := c
   split at h
   ·rename_i f hc
    simp only at hc
    subst hc
    rw [forceO_eq] at h
    exact callT_ok hK h
   ·rename_i x hc
    simp only at hc
    subst hc
    split at h
    ·rename_i f l hx
     rw [forceO_eq] at h
     have hh := bif_none h
     clear h
     obtain ⟨hm, h⟩ := hh
     have := memC_out hm
     split at h
     ·exact callO_ok (g := ⟨d, _, ty, none⟩) rfl (args_val (x := .tmp x) hx) hK h
     ·exact lendX_ok (g := ⟨d, _, ty, none⟩) rfl (args_val (x := .tmp x) hx) hK h
    ·cases h
   ·rename_i hc
    simp only at hc
    subst hc
    split at h
    ·rename_i x y t t' ha ht
     simp only at ha ht
     have hh := bif_none h
     clear h
     obtain ⟨hb, h⟩ := hh
     obtain rfl := Nat.eq_of_beq_eq_true hb
     obtain ⟨al⟩ := args
     obtain ⟨tl⟩ := ats
     simp only at ha ht
     subst ha
     subst ht
     obtain ⟨s', w, h⟩ := takeO_out h
     exact ⟨SL.fair fun hf => SL.weak (w hf) (appO_ok hK h).out⟩
    ·cases h
   ·rename_i hc
    simp only at hc
    subst hc
    split at h
    ·rename_i x t ha ht
     simp only at ha ht
     obtain ⟨al⟩ := args
     obtain ⟨tl⟩ := ats
     simp only at ha ht
     subst ha
     subst ht
     exact clearO_ok hK h
    ·cases h
   ·cases h
  ·cases h
theorem runStep_ok {wr : Opt} {T : List (Ctr P)} [Tys P] [TyE P] [TyX P] {s : ESt} {op : Op} {K : ESt -> Option ρ} {res : ρ} (hK : ∀ s', K s' = some res -> SLT P L Q s') (h : runStep wr T s d op K = some res) : SLT P (⟨d, op, ty, none⟩ :: L) Q s := by
 unfold runStep at h
 split at h
 ·rename_i t x y
  cases ht : wr.tr with
  | true => rw [ht] at h; exact truncO_ok hK h
  | false => rw [ht] at h; exact runStep1_ok (T := T) hK h
 ·split at h
  ·exact bytesO_ok hK h
  ·exact runStep1_ok (T := T) hK h
 ·split at h
  ·rename_i hq
   have hh := bif_none h
   clear h
   obtain ⟨hb, h⟩ := hh
   exact nilK_ok hK hq hb h
  ·exact runStep1_ok (T := T) hK h
 ·exact runStep1_ok (T := T) hK h
def runL (wr : Opt) (T : List (Ctr P)) [Tys P] [TyE P] [TyX P] (K : ESt -> Option ρ) : List GOp -> ESt -> Option ρ
 | [], s => K s
 | ⟨d, op, ty, none⟩ :: L, s => runStep wr T s d op (runL wr T K L)
 | ⟨d, op, ty, some (some t, w)⟩ :: L, s => match s.env t with
  | .und => runL wr T K L (s.put d .und)
  | .b b => bif Nat.blt t s.nt then
    (bif w then (bif b then runStep wr T (s.put (some t) (.b true)) d op (runL wr T K L) else runL wr T K L ((s.put (some t) (.b false)).put d .und))
      else (bif b then runL wr T K L ((s.put (some t) (.b true)).put d .und) else runStep wr T (s.put (some t) (.b false)) d op (runL wr T K L))) else none
  | _ => none
 | ⟨_, _, _, some (none, _)⟩ :: _, _ => none
theorem envT {s : ESt} {t : Nat} {u : EV} (h : s.env t = u) : (toSt s).env t = toV s.heap.len u := by subst h; rfl
theorem bifs {b : Bool} {x y : Option ρ} {r : ρ} (h : (bif b then x else y) = some r) : (b = true -> x = some r) /\ (b = false -> y = some r) := by
 cases b
 ·exact ⟨fun e => (by cases e), fun _ => h⟩
 ·exact ⟨fun _ => h, fun e => (by cases e)⟩
theorem runL_ok {wr : Opt} {T : List (Ctr P)} [Tys P] [TyE P] [TyX P] {K : ESt -> Option ρ} {res : ρ} (hK : ∀ s', K s' = some res -> Q .normal s') : ∀ (L : List GOp) (s : ESt), runL wr T K L s = some res -> SLT P L Q s
 | [], s, h => ⟨SL.nil ⟨s, rfl, hK _ h⟩⟩
 | ⟨d, op, ty, none⟩ :: L, s, h => runStep_ok (runL_ok hK L) h
 | ⟨d, op, ty, some (some t, w)⟩ :: L, s, h => by
  unfold runL at h
  split at h
  ·rename_i hu
   have hu := envT hu
   simp only [toV] at hu
   refine ⟨SL.gu hu ?_⟩
   have := (runL_ok hK L _ h).out
   rwa [toSt_put] at this
  ·rename_i b hb
   have hb := envT hb
   simp only [toV] at hb
   have hh := bif_none h
   clear h
   obtain ⟨hlt, h⟩ := hh
   have hlt' : Nat.blt t (toSt s).nt = true := hlt
   cases w with
   | true =>
    simp only [cond_true] at h
    obtain ⟨h1, h2⟩ := bifs h
    refine ⟨SL.splitG (w := true) rfl hb hlt' (fun e => ?_) (fun e => ?_)⟩
    ·have := (runStep_ok (ty := ty) (runL_ok hK L) (h1 e)).out
     rw [toSt_put] at this
     exact SL.gy (by rw [put_env_eq, hlt']; rfl) hlt' this
    ·have := (runL_ok hK L _ (h2 e)).out
     rw [toSt_put, toSt_put] at this
     exact SL.gn (by rw [put_env_eq, hlt']; rfl) hlt' this
   | false =>
    simp only [cond_false] at h
    obtain ⟨h1, h2⟩ := bifs h
    refine ⟨SL.splitG (w := false) rfl hb hlt' (fun e => ?_) (fun e => ?_)⟩
    ·have := (runL_ok hK L _ (h1 e)).out
     rw [toSt_put, toSt_put] at this
     exact SL.gn (by rw [put_env_eq, hlt']; rfl) hlt' this
    ·have := (runStep_ok (ty := ty) (runL_ok hK L) (h2 e)).out
     rw [toSt_put] at this
     exact SL.gy (by rw [put_env_eq, hlt']; rfl) hlt' this
  ·cases h
 | ⟨_, _, _, some (none, _)⟩ :: _, _, h => by cases h
end
end
end Go.Abs
namespace Go.Abs
open Go
variable {P : Program} {Q : Exit -> St -> Prop} {st : St}
def freeD (A : Array Oper) (D : List Nat) (i : Nat) : Bool :=
 match A[i]? with
 | none => false
 | some oi => (List.range A.size).all fun j => Nat.beq j i || D.contains j || match A[j]? with
   | some oj => (edges A j).contains i || oi.apart A oj
   | none => true
def chkF (A : Array Oper) (D : List Nat) (i : Nat) : Bool :=
 Nat.blt i A.size && !D.contains i && ((edges A i).all fun x => D.contains x) && Region.noSelect A && freeD A D i && (D.all fun k => (edges A k).all fun e => D.contains e)
end Go.Abs
namespace Go.Abs
open Go
variable {P : Program}
def Nv {α : Type} (P : Program) (s : Sem α) : Prop := ∀ w x w', s.run P w ≠ .ok x w'
def Cn {α : Type} (P : Program) (s : Sem α) : Prop := ∀ w x w', s.run P w = .ok x w' -> w' = w /\ ∀ w2, s.run P w2 = .ok x w2
def Rd {α : Type} (P : Program) (s : Sem α) : Prop := ∀ w x w', s.run P w = .ok x w' -> w' = w /\ ∀ w2, Grown w w2 -> s.run P w2 = .ok x w2
def Gr {α : Type} (P : Program) (s : Sem α) : Prop := ∀ w x w', s.run P w = .ok x w' -> Grown w w'
section
variable {α β : Type} {s : Sem α} {f : α -> Sem β}
theorem Nv.cn (h : Nv P s) : Cn P s := fun w x w' e => absurd e (h w x w')
theorem Cn.rd (h : Cn P s) : Rd P s := fun w x w' e => ⟨(h w x w' e).1, fun w2 _ => (h w x w' e).2 w2⟩
theorem Rd.gr (h : Rd P s) : Gr P s := fun w x w' e => by rw [(h w x w' e).1]; exact Grown.refl _
theorem Cn.gr (h : Cn P s) : Gr P s := h.rd.gr
theorem Nv.halt (h : Halt) : Nv P (.halt h : Sem α) := fun w x w' e => by cases e
theorem Nv.stuck (why : String) : Nv P (Go.stuck why : Sem α) := Nv.halt _
theorem Cn.pure (x : α) : Cn P (Pure.pure x : Sem α) := fun w y w' e => by cases e; exact ⟨rfl, fun _ => rfl⟩
theorem bnd_run (s : Sem α) (f : α -> Sem β) (w : World) : (s >>= f).run P w = (s.run P w).andThen fun a w => (f a).run P w := Sem.run_bind _ _ _ _
theorem bnd_ok {w w' : World} {x : β} (h : (s >>= f).run P w = .ok x w') : ∃ a w1, s.run P w = .ok a w1 /\ (f a).run P w1 = .ok x w' := by
 rw [bnd_run] at h
 cases hs : s.run P w with
 | ok a w1 => rw [hs] at h; exact ⟨a, w1, rfl, h⟩
 | halt x w1 => rw [hs] at h; cases h
theorem bnd_of {w w1 : World} {a : α} (h : s.run P w = .ok a w1) : (s >>= f).run P w = (f a).run P w1 := by rw [bnd_run, h]; rfl
theorem Nv.bnd (h : ∀ x, Nv P (f x)) : Nv P (s >>= f) := fun w x w' e => by
 obtain ⟨a, w1, _, h2⟩ := bnd_ok e
 exact h a _ _ _ h2
theorem Cn.bnd (h : Cn P s) (hf : ∀ x, Cn P (f x)) : Cn P (s >>= f) := fun w x w' e => by
 obtain ⟨a, w1, h1, h2⟩ := bnd_ok e
 obtain ⟨rfl, g1⟩ := h _ _ _ h1
 obtain ⟨rfl, g2⟩ := hf _ _ _ _ h2
 exact ⟨rfl, fun w2 => by rw [bnd_of (g1 w2)]; exact g2 w2⟩
theorem Rd.bnd (h : Rd P s) (hf : ∀ x, Rd P (f x)) : Rd P (s >>= f) := fun w x w' e => by
 obtain ⟨a, w1, h1, h2⟩ := bnd_ok e
 obtain ⟨rfl, g1⟩ := h _ _ _ h1
 obtain ⟨rfl, g2⟩ := hf _ _ _ _ h2
 exact ⟨rfl, fun w2 g => by rw [bnd_of (g1 w2 g)]; exact g2 w2 g⟩
theorem Gr.bnd (h : Gr P s) (hf : ∀ x, Gr P (f x)) : Gr P (s >>= f) := fun w x w' e => by
 obtain ⟨a, w1, h1, h2⟩ := bnd_ok e
 exact (h _ _ _ h1).trans (hf _ _ _ _ h2)
theorem Cn.known {a : α} (h : ∀ w, s.run P w = .ok a w) (hf : Cn P (f a)) : Cn P (s >>= f) := fun w x w' e => by
 rw [bnd_of (h w)] at e
 obtain ⟨rfl, g⟩ := hf _ _ _ e
 exact ⟨rfl, fun w2 => by rw [bnd_of (h w2)]; exact g w2⟩
theorem Cn.program : Cn P (Go.program) := fun w x w' e => by cases e; exact ⟨rfl, fun _ => rfl⟩
theorem Cn.ite {c : Prop} [Decidable c] {s t : Sem α} (h : Cn P s) (k : Cn P t) : Cn P (if c then s else t) := by split <;> assumption
end
theorem seen_none {p : Program} {w : World} {at_ : Addr} {u : TypeId} {k : Addr} {atomic : Bool} (h : w.heap[at_.block]? = none) : ∀ r, w.seen p at_ u k atomic ≠ .ok r := by
 intro r hr
 unfold World.seen at hr
 rw [h] at hr
 simp only [bind, Except.bind, pure, Except.pure, throw, throwThe, MonadExceptOf.throw] at hr
 repeat' split at hr
 all_goals first | cases hr | skip
theorem seen_grown {p : Program} {w w' : World} (g : Grown w w') {at_ : Addr} {u : TypeId} {k : Addr} {atomic : Bool} {r} (h : w.seen p at_ u k atomic = .ok r) : w'.seen p at_ u k atomic = .ok r := by
 rcases Nat.lt_or_ge at_.block w.heap.size with hb | hb
 ·rw [<- h]
  unfold World.seen
  rw [g.kept _ hb]
 ·exact absurd h (seen_none (Array.getElem?_eq_none hb) r)
theorem far_grown {p : Program} {w w' : World} (g : Grown w w') {a : Addr} {m : Bool} {r} (h : w.farLoad p a m = .ok r) : w'.farLoad p a m = .ok r := by
 unfold World.farLoad at h ⊢
 rcases Nat.lt_or_ge a.block w.heap.size with hb | hb
 ·rw [g.kept _ hb]
  split at h
  ·rename_i at_ u he
   split at h
   ·rename_i r' hv
    cases h
    have : w'.viewLoad p at_ u a m = .ok r := by
     rw [<- hv]
     unfold World.viewLoad at hv ⊢
     cases hs : w.seen p at_ u a m with
     | error e => rw [hs] at hv; cases hv
     | ok q => rw [seen_grown g hs]
    simp only [this]
   ·cases h
  ·cases h
 ·rw [Array.getElem?_eq_none hb] at h
  cases h
theorem cell_grown {w w' : World} (g : Grown w w') {a : Addr} {v : Value} (h : w.cell? a = some v) : w'.cell? a = some v := by
 have hb := Nat.lt_of_not_le fun hn => by
  unfold World.cell? at h
  rw [Array.getElem?_eq_none hn] at h
  cases h
 rw [<- h]
 unfold World.cell?
 rw [g.kept _ hb]
theorem cellN_grown {w w' : World} (g : Grown w w') {a : Addr} (h : w.cell? a = none) (hb : a.block < w.heap.size) : w'.cell? a = none := by
 rw [<- h]
 unfold World.cell?
 rw [g.kept _ hb]
variable {α : Type}
theorem Rd.load (a : Addr) (m : Mode) : Rd P (Go.load a m) := fun w x w' e => by
 unfold Go.load at e ⊢
 simp only [Sem.run] at e ⊢
 split at e
 ·rename_i v hv
  cases e
  exact ⟨rfl, fun w2 g => by rw [cell_grown g hv]⟩
 ·rename_i hn
  split at e
  ·rename_i v q hf
   cases e
   refine ⟨rfl, fun w2 g => ?_⟩
   have hb : a.block < w.heap.size := Nat.lt_of_not_le fun hb => by
    unfold World.farLoad at hf
    rw [Array.getElem?_eq_none hb] at hf
    cases hf
   rw [cellN_grown g hn hb, far_grown g hf]
  ·cases e
theorem Gr.new (o : Obj) : Gr P (newObj o) := fun w x w' e => by
 cases e
 refine ⟨by simp, fun b hb => ?_⟩
 simp [Array.getElem?_push, Nat.ne_of_lt hb]
theorem Cn.typeInfo (t : TypeId) : Cn P (Go.typeInfo t) := by
 unfold Go.typeInfo
 refine Cn.bnd Cn.program fun p => ?_
 split
 ·exact Cn.pure _
 ·exact (Nv.stuck _).cn
theorem Cn.underlying (t : TypeId) : Cn P (Go.underlying t) := by
 unfold Go.underlying
 refine Cn.bnd Cn.program fun p => ?_
 split
 ·exact Cn.pure _
 ·exact (Nv.stuck _).cn
theorem Cn.sizeOf (t : TypeId) : Cn P (Go.sizeOf t) := Cn.bnd (Cn.typeInfo t) fun _ => Cn.pure _
theorem Cn.isAgg (t : TypeId) : Cn P (Go.isAgg t) := by
 unfold Go.isAgg
 refine Cn.bnd (Cn.underlying t) fun d => ?_
 split <;> exact Cn.pure _
theorem Cn.zeroValue (t : TypeId) : Cn P (Go.zeroValue t) := by
 unfold Go.zeroValue
 refine Cn.bnd (Cn.typeInfo t) fun d => ?_
 split
 ·exact Cn.pure _
 ·exact (Nv.halt _).cn
theorem Cn.sureAddr (v : Value) : Cn P (Instr.sureAddr v) := by
 unfold Instr.sureAddr
 split
 ·exact Cn.pure _
 ·exact (Nv.stuck _).cn
theorem Rd.loadCellsFrom (a : Addr) : ∀ (n i : Nat) (acc : Array Value), Rd P (Go.loadCellsFrom a i n acc)
 | 0, i, acc => (Cn.pure _).rd
 | n + 1, i, acc => by
  unfold Go.loadCellsFrom
  exact Rd.bnd (Rd.load _ _) fun v => Rd.loadCellsFrom a n (i + 1) (acc.push v)
theorem Rd.loadAt (t : TypeId) (v : Value) : Rd P (Instr.loadAt t v) := by
 unfold Instr.loadAt Go.loadVar
 refine Rd.bnd (Cn.sureAddr v).rd fun a => Rd.bnd (Cn.isAgg t).rd fun b => ?_
 split
 ·refine Rd.bnd (Cn.sizeOf t).rd fun n => ?_
  exact Rd.bnd (Rd.loadCellsFrom a n 0 #[]) fun cs => (Cn.pure _).rd
 ·exact Rd.load _ _
theorem Cn.asIntOf (v : Value) : Cn P (Go.asIntOf v) := by
 unfold Go.asIntOf
 split
 ·exact Cn.pure _
 ·exact (Nv.halt _).cn
 ·exact (Nv.halt _).cn
theorem Nv.panic (e : RuntimeError) : Nv P (Go.runtimePanic e : Sem α) := by
 unfold Go.runtimePanic
 refine Nv.bnd fun p => ?_
 cases e
 all_goals first
  | exact Nv.halt _
  | exact Nv.bnd fun _ => Nv.bnd fun _ => Nv.halt _
theorem Nv.bounds (k : IntKind) (x y : Int) (c : BoundsCode) : Nv P (Go.boundsPanic k x y c : Sem α) := by
 unfold Go.boundsPanic
 dsimp only
 split <;> exact Nv.bnd fun _ => Nv.panic _
theorem Cn.fieldAt {t f : Nat} {off s : Nat} {agg : Bool} [h : TyField P t f off agg s] (v : Value) : Cn P (Instr.fieldAt t v f) := by
 obtain ⟨fs, fl, h1, h2, h3, h4⟩ := h.d
 have hs := fun w => sizeOf_run (P := P) (t := fl.type) w
 have h0 := h.s
 unfold Instr.fieldAt
 refine Cn.known (fun w => run_underlying' h1 w) ?_
 simp only [h2]
 refine Cn.bnd (Cn.sureAddr v) fun a => Cn.bnd ?_ fun _ => Cn.pure _
 unfold fieldPlace
 refine Cn.known hs ?_
 rw [if_neg h0]
 exact Cn.pure _
theorem Cn.indexAt (t : TypeId) (x y : Value) : Cn P (Instr.indexAt t x y) := by
 unfold Instr.indexAt
 refine Cn.bnd (Cn.asIntOf y) fun ki => Cn.bnd (Cn.underlying t) fun d => ?_
 dsimp only
 have key : ∀ (base : Option Addr) (len : Nat) (elem : TypeId), Cn P (do
   let d' <- Go.underlying t
   match base with
   | some a =>
    if 0 <= ki.2 /\ ki.2 < len then Pure.pure (Value.pointer (some (a.add (ki.2.toNat * (<- Go.sizeOf elem)))))
    else if (decide (len <= 1) && (match d' with | .array .. => true | _ => false)) = true then unsupported (.noEntry "op/indexAddr.an index out of range at an array of length 0 or 1 (ledger 616)")
    else boundsPanic ki.1 ki.2 len .index
   | none => boundsPanic ki.1 ki.2 0 .index) := fun base len elem => by
  refine Cn.bnd (Cn.underlying t) fun d' => ?_
  cases base with
  | some a => exact Cn.ite (Cn.bnd (Cn.sizeOf _) fun _ => Cn.pure _) (Cn.ite (Nv.halt _).cn (Nv.bounds _ _ _ _).cn)
  | none => exact (Nv.bounds _ _ _ _).cn
 split
 ·exact Cn.bnd (Cn.sureAddr _) fun a => Cn.known (a := (some a, _, _)) (fun w => rfl) (key (some a) _ _)
 ·exact Cn.known (a := (_, _, _)) (fun w => rfl) (key _ _ _)
 ·exact Cn.bnd (Nv.stuck _).cn fun r => key r.1 r.2.1 r.2.2
end Go.Abs
namespace Go.Abs
open Go
variable {P : Program} {Q : Exit -> St -> Prop} {st : St}
def Val (P : Program) (o : Oper) : Prop := ∀ (ρ : Operand -> Value) w n w', (execOp ρ o).run P w = .ok n w' -> ∃ v, n = .value v
theorem val_of {s : Sem Value} {w w' : World} {n : Next} (h : (do let x <- s; Pure.pure (Next.value x) : Sem Next).run P w = .ok n w') : ∃ v, n = .value v := by
 obtain ⟨a, w1, _, h2⟩ := bnd_ok h
 cases h2
 exact ⟨a, rfl⟩
theorem Rd.val {s : Sem Value} (h : Rd P s) : Rd P (do let x <- s; Pure.pure (Next.value x) : Sem Next) := Rd.bnd h fun _ => (Cn.pure _).rd
theorem Cn.val {s : Sem Value} (h : Cn P s) : Cn P (do let x <- s; Pure.pure (Next.value x) : Sem Next) := Cn.bnd h fun _ => Cn.pure _
theorem Gr.val {s : Sem Value} (h : Gr P s) : Gr P (do let x <- s; Pure.pure (Next.value x) : Sem Next) := Gr.bnd h fun _ => (Cn.pure _).gr
theorem gr_row (e : TypeId) (cs : Array Value) : Gr P (newRow e cs) := Gr.bnd (Gr.new _) fun _ => (Cn.pure _).gr
theorem gr_alloc (e : TypeId) (v : Value) : Gr P (Instr.alloc e true v) := by
 unfold Instr.alloc
 refine Gr.bnd (Cn.zeroValue e).gr fun z => ?_
 split
 ·rename_i h; cases h
 ·exact Gr.bnd (gr_row _ _) fun _ => (Cn.pure _).gr
theorem gr_box (e : TypeId) (v : Value) : Gr P (Instr.box e v) := Gr.bnd (gr_row _ _) fun _ => (Cn.pure _).gr
theorem gr_room (n : Nat) : Gr P (askRoom n) := by
 unfold askRoom
 split
 ·intro w x w' e; cases e; exact Grown.refl _
 ·exact (Cn.pure _).gr
theorem gr_choose (q : Question) : Gr P (choose q) := fun w x w' e => by
 unfold choose at e
 simp only [Sem.run] at e
 split at e <;> (cases e; exact ⟨Nat.le_refl _, fun _ _ => rfl⟩)
theorem gr_build (t : TypeId) (n : Nat) (ps : Array (Nat × Value)) : Gr P (Instr.buildSlice t n ps) := by
 unfold Instr.buildSlice
 repeat' first
  | exact (Cn.pure _).gr
  | exact (Nv.halt _).cn.gr
  | exact (Nv.panic _).cn.gr
  | exact gr_row _ _
  | exact gr_room _
  | exact (Cn.underlying _).gr
  | exact (Cn.sizeOf _).gr
  | exact (Cn.zeroValue _).gr
  | exact (Cn.typeInfo _).gr
  | exact (Cn.asIntOf _).gr
  | exact gr_choose _
  | refine Gr.bnd ?_ fun _ => ?_
  | split
  | dsimp only
theorem gr_make (t : TypeId) (x y : Value) : Gr P (Instr.makeSlice t x y) := by
 unfold Instr.makeSlice asInt
 repeat' first
  | exact (Cn.pure _).gr
  | exact (Nv.halt _).cn.gr
  | exact (Nv.panic _).cn.gr
  | exact gr_row _ _
  | exact gr_room _
  | exact (Cn.underlying _).gr
  | exact (Cn.sizeOf _).gr
  | exact (Cn.zeroValue _).gr
  | exact (Cn.typeInfo _).gr
  | exact (Cn.asIntOf _).gr
  | exact gr_choose _
  | refine Gr.bnd ?_ fun _ => ?_
  | split
  | dsimp only
def fldIn (P : Program) [Tys P] (t f : Nat) : Bool := (nth (Tys.c P t).fields f).isSome
theorem fldIn_ok [T : Tys P] {t f : Nat} (h : fldIn P t f = true) (v : Value) : Cn P (Instr.fieldAt t v f) := by
 unfold fldIn at h
 cases hn : nth (Tys.c P t).fields f with
 | none => rw [hn] at h; cases h
 | some x =>
  obtain ⟨off, a, s⟩ := x
  have := (T.ok t).fld f off a s hn
  exact Cn.fieldAt v
theorem Cn.asAgg (v : Value) : Cn P (Go.asAgg v) := by
 unfold Go.asAgg
 split
 ·exact Cn.pure _
 ·exact (Nv.stuck _).cn
theorem Cn.asBool (v : Value) : Cn P (Go.asBool v) := by
 unfold Go.asBool
 split
 ·exact Cn.pure _
 ·exact (Nv.stuck _).cn
theorem Cn.part (t : TypeId) (cs : Array Value) (n : Nat) : Cn P (Go.part t cs n) := by
 unfold Go.part
 refine Cn.bnd (Cn.isAgg t) fun b => ?_
 split
 ·exact Cn.bnd (Cn.sizeOf t) fun _ => Cn.pure _
 ·split
  ·exact Cn.pure _
  ·exact (Nv.stuck _).cn
theorem Cn.followBlind : ∀ (l : List FieldStep) (t : TypeId) (x : Option Value), Cn P (Go.followBlind l t x)
 | [], t, x => Cn.pure _
 | s :: rest, t, x => by
  unfold Go.followBlind
  repeat' first
   | exact Cn.pure _
   | exact (Nv.stuck _).cn
   | exact Cn.underlying _
   | exact Cn.part _ _ _
   | exact Cn.followBlind rest _ _
   | refine Cn.bnd ?_ fun _ => ?_
   | split
   | dsimp only
theorem Cn.nilAhead : ∀ (n : Nat) (t : TypeId) (v : Value) (s : String), Cn P (Go.nilAhead n t v s)
 | 0, t, v, s => Cn.pure _
 | n + 1, t, v, s => by
  unfold Go.nilAhead
  repeat' first
   | exact Cn.pure _
   | exact (Nv.stuck _).cn
   | exact Cn.underlying _
   | exact Cn.typeInfo _
   | exact Cn.followBlind _ _ _
   | exact Cn.nilAhead n _ _ _
   | refine Cn.bnd ?_ fun _ => ?_
   | split
   | dsimp only
theorem Cn.field (t : TypeId) (v : Value) (f : Nat) : Cn P (Instr.field t v f) := by
 unfold Instr.field
 repeat' first
  | exact Cn.pure _
  | exact (Nv.stuck _).cn
  | exact Cn.underlying _
  | exact Cn.part _ _ _
  | exact Cn.asAgg _
  | refine Cn.bnd ?_ fun _ => ?_
  | split
  | dsimp only
theorem Cn.index (t : TypeId) (x y : Value) : Cn P (Instr.index t x y) := by
 unfold Instr.index
 repeat' first
  | exact Cn.pure _
  | exact (Nv.stuck _).cn
  | exact (Nv.bounds _ _ _ _).cn
  | exact Cn.underlying _
  | exact Cn.part _ _ _
  | exact Cn.asIntOf _
  | exact Cn.sizeOf _
  | refine Cn.bnd ?_ fun _ => ?_
  | split
  | dsimp only
theorem Cn.extract (v : Value) (n : Nat) : Cn P (Instr.extract v n) := by
 unfold Instr.extract
 repeat' first
  | exact Cn.pure _
  | exact (Nv.stuck _).cn
  | split
def Vl (P : Program) (s : Sem Next) : Prop := ∀ w n w', s.run P w = .ok n w' -> ∃ v, n = .value v
theorem Vl.pure (v : Value) : Vl P (Pure.pure (Next.value v)) := fun w n w' e => by cases e; exact ⟨_, rfl⟩
theorem Vl.bnd {α : Type} {s : Sem α} {f : α -> Sem Next} (h : ∀ x, Vl P (f x)) : Vl P (s >>= f) := fun w n w' e => by
 obtain ⟨a, w1, _, h2⟩ := bnd_ok e
 exact h a _ _ _ h2
theorem Nv.vl {s : Sem Next} (h : Nv P s) : Vl P s := fun w n w' e => absurd e (h _ _ _)
def cnX : Op -> Bool
 | .move _ => true
 | .makeFunc _ _ _ => true
 | .indexAddr _ _ _ => true
 | .nilCheck _ => true
 | .field _ _ _ => true
 | .index _ _ _ => true
 | .extract _ _ => true
 | .pick _ _ _ => true
 | _ => false
theorem cnX_ok {o : Oper} (h : cnX o.op = true) : Val P o /\ ∀ ρ, Cn P (execOp ρ o) := by
 obtain ⟨dst, op, type, pos, after, guard⟩ := o
 cases op <;> simp only [cnX] at h <;> first
  | (cases h; done)
  | skip
 case move x => exact ⟨fun ρ w n w' e => by cases e; exact ⟨_, rfl⟩, fun ρ => Cn.pure _⟩
 case makeFunc f a b => exact ⟨fun ρ w n w' h => val_of h, fun ρ => Cn.val (Cn.pure _)⟩
 case indexAddr t x y => exact ⟨fun ρ w n w' h => val_of h, fun ρ => Cn.val (Cn.indexAt _ _ _)⟩
 case field t x y => exact ⟨fun ρ w n w' h => val_of h, fun ρ => Cn.val (Cn.field _ _ _)⟩
 case index t x y => exact ⟨fun ρ w n w' h => val_of h, fun ρ => Cn.val (Cn.index _ _ _)⟩
 case extract x y => exact ⟨fun ρ w n w' h => val_of h, fun ρ => Cn.val (Cn.extract _ _)⟩
 case pick c x y =>
  refine ⟨fun ρ w n w' h => ?_, fun ρ => Cn.bnd (Cn.asBool _) fun _ => Cn.pure _⟩
  obtain ⟨a, w1, _, h2⟩ := bnd_ok h
  cases h2
  exact ⟨_, rfl⟩
 case nilCheck x =>
  have key : ∀ ρ, Cn P (execOp ρ ⟨dst, .nilCheck x, type, pos, after, guard⟩) := fun ρ => by
   simp only [execOp]
   repeat' first
    | exact Cn.pure _
    | exact (Nv.stuck _).cn
    | exact (Nv.halt _).cn
    | exact (Nv.panic _).cn
    | exact Cn.nilAhead _ _ _ _
    | exact Cn.program
    | refine Cn.bnd ?_ fun _ => ?_
    | split
    | dsimp only
  refine ⟨fun ρ => ?_, key⟩
  show Vl P _
  simp only [execOp]
  repeat' first
   | exact Vl.pure _
   | exact (Nv.panic _).vl
   | exact (Nv.halt _).vl
   | refine Vl.bnd fun _ => ?_
   | split
   | dsimp only
def lenIn (P : Program) [Tys P] (c : Call) : Bool := match c.callee with
 | .builtin .len => (match c.argTypes.toList with
  | [t] => (match (Tys.c P t).sl with
   | some _ => true
   | none => false)
  | _ => false)
 | _ => false
theorem lenIn_ok [T : Tys P] {c : Call} {d : Option Tmp} {ty : TypeId} {pos : String} {af : Array Go.Edge} {g : Option (Nat × Bool)} (h : lenIn P c = true) : Val P ⟨d, .call c, ty, pos, af, g⟩ /\ ∀ ρ, Cn P (execOp ρ ⟨d, .call c, ty, pos, af, g⟩) := by
 obtain ⟨cal, args, ats⟩ := c
 unfold lenIn at h
 split at h
 ·rename_i hc
  simp only at hc
  subst hc
  split at h
  ·rename_i t ht
   split at h
   ·rename_i e he
    obtain ⟨e, s_, b_⟩ := e
    have hts := ((T.ok t).sl _ _ _ he).d
    obtain rfl : ats = #[t] := by
     cases ats; simp only at ht; rw [ht]
    have key : ∀ ρ, execOp ρ ⟨d, .call ⟨.builtin .len, args, #[t]⟩, ty, pos, af, g⟩ = (do pure (Next.value (<- Builtin.len_ #[t] ty (args.map ρ)))) := fun ρ => by
     simp only [execOp, resolve, invoke, builtin]
     rfl
    have hl : ∀ ρ, Cn P (Builtin.len_ #[t] ty (args.map ρ)) := fun ρ => by
     unfold Builtin.len_
     split
     ·rename_i t' x hx
      obtain rfl : t' = t := by
       have := congrArg Prod.fst hx
       simpa using this.symm
      refine Cn.known (run_underlying' hts) ?_
      repeat' first
       | exact Cn.pure _
       | exact (Nv.stuck _).cn
       | split
      all_goals first | (cases ‹TypeDesc.slice _ = _›; done) | skip
     ·exact (Nv.stuck _).cn
    refine ⟨fun ρ w n w' h => ?_, fun ρ => ?_⟩
    ·rw [key] at h; exact val_of h
    ·rw [key]; exact Cn.val (hl ρ)
   ·cases h
  ·cases h
 ·cases h
def grB (P : Program) [Tys P] : Op -> Bool
 | .move _ => true
 | .assign _ => true
 | .load _ _ => true
 | .alloc _ => true
 | .box _ _ => true
 | .buildSlice _ _ _ => true
 | .makeSlice _ _ _ => true
 | .makeFunc _ _ _ => true
 | .indexAddr _ _ _ => true
 | .fieldAddr t _ f => fldIn P t f
 | .call c => lenIn P c
 | op => cnX op
theorem grB_ok [T : Tys P] {o : Oper} (h : grB P o.op = true) : Val P o /\ ∀ ρ, Gr P (execOp ρ o) := by
 obtain ⟨dst, op, type, pos, after, guard⟩ := o
 cases op <;> simp only [grB] at h <;> first
  | (simp only [cnX] at h; cases h; done)
  | skip
 all_goals first
  | exact ⟨(cnX_ok (P := P) (o := ⟨dst, _, type, pos, after, guard⟩) h).1, fun ρ => ((cnX_ok (P := P) (o := ⟨dst, _, type, pos, after, guard⟩) h).2 ρ).gr⟩
  | skip
 case move x => exact ⟨fun ρ w n w' e => by cases e; exact ⟨_, rfl⟩, fun ρ => (Cn.pure _).gr⟩
 case assign x => exact ⟨fun ρ w n w' e => by cases e; exact ⟨_, rfl⟩, fun ρ => (Cn.pure _).gr⟩
 case alloc e => exact ⟨fun ρ w n w' h => val_of h, fun ρ => (gr_alloc _ _).val⟩
 case box e x => exact ⟨fun ρ w n w' h => val_of h, fun ρ => (gr_box _ _).val⟩
 case buildSlice t n ps => exact ⟨fun ρ w n w' h => val_of h, fun ρ => (gr_build _ _ _).val⟩
 case load t x => exact ⟨fun ρ w n w' h => val_of h, fun ρ => (Rd.loadAt _ _).val.gr⟩
 case makeFunc f a b => exact ⟨fun ρ w n w' h => val_of h, fun ρ => (Cn.val (Cn.pure _)).gr⟩
 case makeSlice t x y => exact ⟨fun ρ w n w' h => val_of h, fun ρ => (gr_make _ _ _).val⟩
 case call c => exact ⟨(lenIn_ok h).1, fun ρ => ((lenIn_ok h).2 ρ).gr⟩
 case fieldAddr t x f => exact ⟨fun ρ w n w' h => val_of h, fun ρ => (Cn.val (fldIn_ok h _)).gr⟩
 case indexAddr t x y => exact ⟨fun ρ w n w' h => val_of h, fun ρ => (Cn.val (Cn.indexAt _ _ _)).gr⟩
def rdB (P : Program) [Tys P] : Op -> Bool
 | .move _ => true
 | .load _ _ => true
 | .makeFunc _ _ _ => true
 | .indexAddr _ _ _ => true
 | .fieldAddr t _ f => fldIn P t f
 | .call c => lenIn P c
 | op => cnX op
theorem rdB_ok [T : Tys P] {o : Oper} (h : rdB P o.op = true) : Val P o /\ ∀ ρ, Rd P (execOp ρ o) := by
 obtain ⟨dst, op, type, pos, after, guard⟩ := o
 cases op <;> simp only [rdB] at h <;> first
  | (simp only [cnX] at h; cases h; done)
  | skip
 all_goals first
  | exact ⟨(cnX_ok (P := P) (o := ⟨dst, _, type, pos, after, guard⟩) h).1, fun ρ => ((cnX_ok (P := P) (o := ⟨dst, _, type, pos, after, guard⟩) h).2 ρ).rd⟩
  | skip
 case move x => exact ⟨fun ρ w n w' e => by cases e; exact ⟨_, rfl⟩, fun ρ => (Cn.pure _).rd⟩
 case load t x => exact ⟨fun ρ w n w' h => val_of h, fun ρ => (Rd.loadAt _ _).val⟩
 case makeFunc f a b => exact ⟨fun ρ w n w' h => val_of h, fun ρ => (Cn.val (Cn.pure _)).rd⟩
 case call c => exact ⟨(lenIn_ok h).1, fun ρ => ((lenIn_ok h).2 ρ).rd⟩
 case fieldAddr t x f => exact ⟨fun ρ w n w' h => val_of h, fun ρ => (Cn.val (fldIn_ok h _)).rd⟩
 case indexAddr t x y => exact ⟨fun ρ w n w' h => val_of h, fun ρ => (Cn.val (Cn.indexAt _ _ _)).rd⟩
def cnB (P : Program) [Tys P] (nt : Operand -> Bool) : Op -> Bool
 | .move _ => true
 | .makeFunc _ _ _ => true
 | .indexAddr _ _ _ => true
 | .fieldAddr t _ f => fldIn P t f
 | .call c => lenIn P c
 | .binOp o _ x y _ => (match o with
  | .add => true
  | .sub => true
  | .mul => true
  | _ => false) && (nt x && nt y)
 | op => cnX op
theorem cnB_ok [T : Tys P] {o : Oper} {nt : Operand -> Bool} {ρ : Operand -> Value} (hn : ∀ x, nt x = true -> ∃ k n, ρ x = .int k n) (h : cnB P nt o.op = true) : Val P o /\ Cn P (execOp ρ o) := by
 obtain ⟨dst, op, type, pos, after, guard⟩ := o
 cases op <;> simp only [cnB] at h <;> first
  | (simp only [cnX] at h; cases h; done)
  | skip
 all_goals first
  | exact ⟨(cnX_ok (P := P) (o := ⟨dst, _, type, pos, after, guard⟩) h).1, (cnX_ok (P := P) (o := ⟨dst, _, type, pos, after, guard⟩) h).2 ρ⟩
  | skip
 case move x => exact ⟨fun ρ w n w' e => by cases e; exact ⟨_, rfl⟩, Cn.pure _⟩
 case makeFunc f a b => exact ⟨fun ρ w n w' h => val_of h, Cn.val (Cn.pure _)⟩
 case call c => exact ⟨(lenIn_ok h).1, (lenIn_ok h).2 ρ⟩
 case fieldAddr t x f => exact ⟨fun ρ w n w' h => val_of h, Cn.val (fldIn_ok h _)⟩
 case indexAddr t x y => exact ⟨fun ρ w n w' h => val_of h, Cn.val (Cn.indexAt _ _ _)⟩
 case binOp o tx x y ty =>
  refine ⟨fun ρ w n w' h => val_of h, Cn.val ?_⟩
  simp only [Bool.and_eq_true] at h
  obtain ⟨k, n, hx⟩ := hn x h.2.1
  obtain ⟨k', n', hy⟩ := hn y h.2.2
  rw [hx, hy]
  have hc : ∀ o, (o = .add \/ o = .sub \/ o = .mul) -> Cn P (do eqGuard o tx x y (.int k n) (.int k' n'); binOp o tx (.int k n) (.int k' n')) := by
   rintro o (rfl | rfl | rfl) <;>
   ·refine Cn.bnd ?_ fun _ => ?_
    ·unfold eqGuard; exact Cn.pure _
    ·unfold binOp
     dsimp only
     split
     ·exact (Nv.halt _).cn
     ·exact Cn.pure _
  exact hc o (by
   have := h.1
   cases o <;> first | exact .inl rfl | exact .inr (.inl rfl) | exact .inr (.inr rfl) | cases this)
end Go.Abs
namespace Go.Abs
open Go
variable {P : Program} {Q : Exit -> St -> Prop} {st : St}
theorem qg_step {g : GOp} {u : V} {E : Env} {ι : Id -> Option Nat} {F : Nat -> Prop} {a : Act} {w : World} (h : QG P g u st) (hv : Val P g.oper) (hr : Rd P (execOp a.eval g.oper)) (r : Rel E ι F st a w) :
  ∃ v F', Rel E ι F' (st.put g.dst u) (a.put g.dst v) w /\ ((g.wanted a.tmps = true /\ (execOp a.eval g.oper).run P w = .ok (.value v) w) \/ (g.wanted a.tmps = false /\ v = undef)) := by
 have hrun : QO P ⟨g.dst, g.op, g.type, none⟩ u (st.only (rds g.op)) -> ∃ v F', Rel E ι F' (st.put g.dst u) (a.put g.dst v) w /\ (execOp a.eval g.oper).run P w = .ok (.value v) w := by
  intro hq
  have hrel : Rel E ι F (st.only (rds g.op)) a w := r.congr rfl rfl (fun t => by
   simp only [St.only]
   cases hm : memT (rds g.op) t with
   | false => exact .inr rfl
   | true => exact .inl rfl)
  have h1 := hq E ι F a w hrel
  have h1 : g.oper.wp P a w (fun a' w' => ∃ c F', a' = a.put g.dst c /\ Go.Abs.Grow w F w' F' /\ VRel st.heap ι F' w' u c) (fun _ _ _ => False) := h1
  unfold Oper.wp at h1
  cases he : (execOp a.eval g.oper).run P w with
  | halt x w' => rw [he] at h1; cases x <;> simp only [Oper.upon] at h1
  | ok n w' =>
   obtain ⟨v, rfl⟩ := hv _ _ _ _ he
   obtain ⟨rfl, _⟩ := hr _ _ _ he
   rw [he] at h1
   simp only [Oper.upon] at h1
   obtain ⟨c, F', e1, gr, hc⟩ := h1
   obtain ⟨r2, x2⟩ := r.h.grown gr
   have e1 : a.put g.dst v = a.put g.dst c := e1
   refine ⟨v, F', ?_, rfl⟩
   rw [e1]
   exact r.put r2 x2 _ hc
 cases hg : g.g with
 | none =>
  have hw : g.wanted a.tmps = true := by unfold GOp.wanted; rw [hg]
  unfold QG at h
  rw [hg] at h
  obtain ⟨v, F', h1, h2⟩ := hrun h
  exact ⟨v, F', h1, .inl ⟨hw, h2⟩⟩
 | some gw =>
  obtain ⟨gt, want⟩ := gw
  unfold QG at h
  rw [hg] at h
  cases gt with
  | none => exact h.elim
  | some t =>
   have tv := r.env t
   rcases h with ⟨hlt, b, hb, hy, hn⟩ | ⟨hb, hn⟩
   ·rw [hb] at tv
    have tv : a.tmps.getD t undef = .bool b := tv
    have he : a.tmps[t]? = some (.bool b) := by
     have hlt' : t < a.tmps.size := by rw [r.nt]; exact Nat.le_of_ble_eq_true hlt
     rw [Array.getD_eq_getD_getElem?, Array.getElem?_eq_getElem hlt', Option.getD_some] at tv
     rw [Array.getElem?_eq_getElem hlt', tv]
    have hw : g.wanted a.tmps = (b == want) := by
     unfold GOp.wanted
     simp only [hg, he]
    by_cases hbw : b = want
    ·obtain ⟨v, F', h1, h2⟩ := hrun (hy hbw)
     exact ⟨v, F', h1, .inl ⟨by rw [hw, hbw, beq_self_eq_true], h2⟩⟩
    ·have hb2 : b = !want := by cases b <;> cases want <;> simp_all
     rw [hn hb2]
     exact ⟨undef, F, r.put_same _ (u := .und) (v := undef) rfl, .inr ⟨by rw [hw]; simpa using hbw, rfl⟩⟩
   ·rw [hb] at tv
    have tv : a.tmps.getD t undef = undef := tv
    have hw : g.wanted a.tmps = false := by
     unfold GOp.wanted
     simp only [hg]
     rw [Array.getD_eq_getD_getElem?] at tv
     cases he : a.tmps[t]? with
     | none => rfl
     | some v =>
      rw [he, Option.getD_some] at tv
      subst tv; rfl
    rw [hn]
    exact ⟨undef, F, r.put_same _ (u := .und) (v := undef) rfl, .inr ⟨hw, rfl⟩⟩
theorem exec_gop (ρ : Operand -> Value) (all : List Oper) (o : Oper) : execOp ρ (Oper.gop all o).oper = execOp ρ o := by
 obtain ⟨dst, op, type, pos, after, guard⟩ := o
 cases op <;> rfl
def YR (P : Program) (R : World -> World -> Prop) (A : Array Oper) (o : Oper) (v : Value) (a : Act) (w : World) : Prop :=
 (Region.wanted o (yielded A a.tmps) = true /\ ∀ w2, R w w2 -> (execOp a.eval o).run P w2 = .ok (.value v) w2) \/ (Region.wanted o (yielded A a.tmps) = false /\ v = undef)
section
variable {R : World -> World -> Prop}
theorem YR.of_same (ht : ∀ a b c, R a b -> R b c -> R a c) {A : Array Oper} {o : Oper} {v : Value} {a a' : Act} {w w' : World} (hy : YR P R A o v a w) (g : R w w') (he : execOp a'.eval o = execOp a.eval o)
  (hw : Region.wanted o (yielded A a'.tmps) = Region.wanted o (yielded A a.tmps)) : YR P R A o v a' w' := by
 unfold YR at *
 rw [he, hw]
 exact hy.imp (fun ⟨h1, h2⟩ => ⟨h1, fun w2 g2 => h2 w2 (ht _ _ _ g g2)⟩) id
theorem YR.wpOp (hr : ∀ w, R w w) {A : Array Oper} {Q : Exit -> Act -> World -> Prop} {i : Nat} {o : Oper} {v : Value} {a : Act} {w : World} (hi : A[i]? = some o) (hy : YR P R A o v a w) {K : Act -> World -> Prop} (h : K (a.put o.dst v) w) : wpOp P A Q i K a w := by
 unfold Go.wpOp
 simp only [hi]
 rcases hy with ⟨hw, hv⟩ | ⟨hw, rfl⟩
 ·simp only [hw, if_true, Oper.wp, hv w (hr w), Oper.upon]; exact .inl h
 ·simp only [hw, Bool.false_eq_true, if_false]; exact h
theorem wpOp_putR (hr : ∀ w, R w w) (ht : ∀ a b c, R a b -> R b c -> R a c) (hG : ∀ w w', Grown w w' -> R w w') {A : Array Oper} {J : Nat -> Bool} {E : Env} {j : Nat} {oi oj : Oper} {v : Value} (hj : A[j]? = some oj) (hap : oi.apart A oj = true) (hsi : ∀ cs b, oi.op ≠ .select cs b) (hsj : ∀ cs b, oj.op ≠ .select cs b)
  (hc : (∀ w w', R w w') \/ J j = true \/ (Val P oj /\ ∀ ρ, Gr P (execOp ρ oj))) {K : Act -> World -> Prop} {a : Act} {w : World} (hy : YR P R A oi v a w)
  (h : wpOp P A (conc E Q) j (fun a' w' => (J j = true -> Grown w w') /\ K a' w') (a.put oi.dst v) w) :
  wpOp P A (conc E Q) j (fun a' w' => YR P R A oi v a' w' /\ (J j = true -> Grown w w') /\ K (a'.put oi.dst v) w') a w := by
 obtain ⟨h1, h2, h3⟩ := Oper.apart_spec hap
 have keep : ∀ (a : Act) (u : Value) (w w' : World), R w w' -> YR P R A oi v a w -> YR P R A oi v (a.put oj.dst u) w' := fun a u w w' g hy =>
  hy.of_same ht g (execOp_put oi hsi a oj.dst u h3) (wanted_put oi a oj.dst u h3)
 have keepD : ∀ d w', R w w' -> YR P R A oi v { a with defers := d :: a.defers } w' := fun d w' g => hy.of_same ht g rfl rfl
 unfold wpOp at *
 simp only [hj] at *
 rw [wanted_put oj a oi.dst v h1] at h
 split
 ·rename_i hw
  simp only [hw, if_true] at h
  rcases h with h | ⟨_, a', w', hl⟩
  ·refine .inl ?_
   unfold Oper.wp at *
   rw [execOp_put oj hsj a oi.dst v h1] at h
   cases hrun : (execOp a.eval oj).run P w with
   | ok n w' =>
    have key : (∃ u, n = .value u) \/ ((∀ w w', R w w') \/ J j = true) := by
     rcases hc with hc | hc | hc
     ·exact .inr (.inl hc)
     ·exact .inr (.inr hc)
     ·exact .inl (hc.1 _ _ _ _ hrun)
    have k1 : ∀ {w''}, ((∀ w w', R w w') \/ J j = true) -> (J j = true -> Grown w w'') -> R w w'' := fun k g => k.elim (fun k => k _ _) (fun k => hG _ _ (g k))
    rw [hrun] at h
    cases n <;> simp only [Oper.upon] at h ⊢
    case value u =>
     have hR : R w w' := by
      rcases hc with hc | hc | hc
      ·exact hc _ _
      ·exact hG _ _ (h.1 hc)
      ·exact hG _ _ (hc.2 _ _ _ _ hrun)
     exact ⟨keep a u w w' hR hy, h.1, by rw [<- Act.put_comm a v u h2]; exact h.2⟩
    case skip =>
     rcases key with ⟨u, hu⟩ | key
     ·cases hu
     ·exact ⟨keep a _ w w' (k1 key h.1) hy, h.1, by rw [<- Act.put_comm a v undef h2]; exact h.2⟩
    case defer d =>
     rcases key with ⟨u, hu⟩ | key
     ·cases hu
     ·refine ⟨keep _ _ w' w' (hr w') (keepD d w' (k1 key h.1)), h.1, ?_⟩
      rw [<- Act.put_comm _ v undef h2, <- Act.put_defers]
      exact h.2
    case enter f args =>
     rcases key with ⟨u, hu⟩ | key
     ·cases hu
     ·refine Calls.mono h fun e w'' he => ?_
      cases e with
      | returned u => exact ⟨keep a u w w'' (k1 key he.1) hy, he.1, by rw [<- Act.put_comm a v u h2]; exact he.2⟩
      | panicked c => exact he.elim
      | outgrown => exact he
    case row row args =>
     rcases key with ⟨u, hu⟩ | key
     ·cases hu
     ·exact Rows.mono h fun u w'' he => ⟨keep a u w w'' (k1 key he.1) hy, he.1, by rw [<- Act.put_comm a v u h2]; exact he.2⟩
   | halt x w' =>
    rw [hrun] at h
    cases x <;> simp only [Oper.upon] at h ⊢
    exact h
  ·exact hl.elim
 ·rename_i hw
  simp only [hw] at h
  exact ⟨keep a _ w w (hr w) hy, h.1, by rw [<- Act.put_comm a v undef h2]; exact h.2⟩
theorem anyR_first (hr : ∀ w, R w w) (ht : ∀ a b c, R a b -> R b c -> R a c) (hG : ∀ w w', Grown w w' -> R w w') {A : Array Oper} {J : Nat -> Bool} {E : Env} {i : Nat} {oi : Oper} {v : Value} {ab : List Nat} (hab : AbOk A ab) (hi : A[i]? = some oi) (hsel : ∀ (j : Nat) (o : Oper) cs b, A[j]? = some o -> o.op ≠ .select cs b) :
  ∀ (fuel : Nat) (D : List Nat) (listed : Array Bool) (a : Act) (w : World), Hears A listed D -> Closed A (· ∈ D) -> i ∉ D ->
   (∀ j oj, A[j]? = some oj -> j ≠ i -> j ∉ D -> i ∉ edges A j -> (nthN ab j).testBit i = false -> oi.apart A oj = true /\ ((∀ w w', R w w') \/ J j = true \/ (Val P oj /\ ∀ ρ, Gr P (execOp ρ oj)))) ->
   i ∈ Region.ready .any A listed -> YR P R A oi v a w ->
   wpAnyJ P A J (conc E Q) fuel (listed.setIfInBounds i true) (a.put oi.dst v) w -> wpAnyJ P A J (conc E Q) (fuel + 1) listed a w := by
 intro fuel
 induction fuel with
 | zero =>
  intro D listed a w _ _ _ _ hr' hy H
  refine ⟨fun h => (by rw [h] at hr'; cases hr'), fun j hj => ?_⟩
  by_cases hji : j = i
  ·subst hji; exact hy.wpOp hr hi ⟨fun _ => Grown.refl w, H⟩
  ·have := ready_mono hj hji
   rw [H.1] at this
   cases this
 | succ fuel ih =>
  intro D listed a w hh hc hiD hfree hr' hy H
  refine ⟨fun h => (by rw [h] at hr'; cases hr'), fun j hj => ?_⟩
  by_cases hji : j = i
  ·subst hji; exact hy.wpOp hr hi ⟨fun _ => Grown.refl w, H⟩
  ·have h1 := H.2 j (ready_mono hj hji)
   obtain ⟨hjlt, hjD, hjE⟩ := hh.ready hj
   obtain ⟨_, oj, hoj, _⟩ := mem_ready.1 hj
   have hanc : (nthN ab j).testBit i = false := by
    cases hb : (nthN ab j).testBit i with
    | false => rfl
    | true => exact absurd (hab (fun k => k ∈ D) hc _ _ hb hjE) hiD
   obtain ⟨f1, f2⟩ := hfree j oj hoj hji hjD (fun he => hiD (hjE i he)) hanc
   have h2 := wpOp_putR hr ht hG (Q := Q) (E := E) hoj f1 (fun cs b => hsel i oi cs b hi) (fun cs b => hsel j oj cs b hoj) f2 hy h1
   refine wpOp_mono (fun a' w' h3 => ⟨h3.2.1, ih (D ++ [j]) (listed.setIfInBounds j true) a' w' (hh.set j) ?_ ?_ ?_ (ready_mono hr' (Ne.symm hji)) h3.1 ?_⟩) h2
   ·intro k hk e he
    rcases List.mem_append.1 hk with h | h
    ·exact List.mem_append_left _ (hc k h e he)
    ·have : k = j := by simpa using h
     exact List.mem_append_left _ (hjE e (this ▸ he))
   ·intro hm
    rcases List.mem_append.1 hm with h | h
    ·exact hiD h
    ·exact hji (Eq.symm (by simpa using h))
   ·exact fun k ok hk hki hun he ha => hfree k ok hk hki (fun hm => hun (List.mem_append_left _ hm)) he ha
   ·rw [Array.setIfInBounds_comm _ _ hji]
    exact h3.2.2
end
def freeG (P : Program) [Tys P] (A : Array Oper) (ab : List Nat) (J : Nat -> Bool) (D : List Nat) (i : Nat) : Bool :=
 match A[i]? with
 | none => false
 | some oi => (List.range A.size).all fun j => Nat.beq j i || D.contains j || (nthN ab j).testBit i || match A[j]? with
   | some oj => oi.apart A oj && (J j || grB P oj.op)
   | none => true
def chkG (P : Program) [Tys P] (A : Array Oper) (ab : List Nat) (J : Nat -> Bool) (D : List Nat) (i : Nat) : Bool :=
 Nat.blt i A.size && !D.contains i && ((edges A i).all fun x => D.contains x) && (D.all fun k => (edges A k).all fun e => D.contains e) && Region.noSelect A && rdB P (opAt A i).op && freeG P A ab J D i
theorem hears_next {A : Array Oper} {D : List Nat} {i : Nat} (hlt : i < A.size) (hiD : i ∉ D) (hDn : D.Nodup) (hDlt : ∀ k ∈ D, k < A.size) : (D ++ [i]).Nodup /\ (∀ k ∈ D ++ [i], k < A.size) /\ D.length + 1 <= A.size := by
 refine ⟨List.nodup_append.2 ⟨hDn, by simp, fun x hx y hy exy => ?_⟩, fun k hk => ?_, ?_⟩
 ·have : y = i := by simpa using hy
  exact hiD (this ▸ exy ▸ hx)
 ·rcases List.mem_append.1 hk with h | h
  ·exact hDlt k h
  ·have : k = i := by simpa using h
   exact this ▸ hlt
 ·have := nodup_len A.size (i :: D) (List.nodup_cons.2 ⟨hiD, hDn⟩) (fun k hk => by
   rcases List.mem_cons.1 hk with h | h
   ·exact h ▸ hlt
   ·exact hDlt k h)
  simpa using this
theorem AnyL.ahead [T : Tys P] {A : Array Oper} {J : Nat -> Bool} {D : List Nat} {ab : List Nat} (hab : AbOk A ab) (i : Nat) (hc : chkG P A ab J D i = true) (h : QS P (AnyL P A J (D ++ [i]) Q) [opAt A i] st) : AnyL P A J D Q st := by
 simp only [chkG, Bool.and_eq_true, List.all_eq_true, Bool.not_eq_true'] at hc
 obtain ⟨⟨⟨⟨⟨⟨c1, c2⟩, c3⟩, c4⟩, c5⟩, c6⟩, c7⟩ := hc
 have hlt : i < A.size := Nat.le_of_ble_eq_true c1
 have hiD : i ∉ D := fun hm => by rw [List.contains_iff_mem.2 hm] at c2; cases c2
 have hAi : A[i]? = some (A.getD i default) := by simp [Array.getD, hlt]
 cases h with
 | cons u hq k =>
 cases k with
 | nil k =>
 refine ⟨fun E ι F a w fuel listed r hs hl hDn hDlt hfuel => ?_⟩
 have hh : Hears A listed D := ⟨hs, hl⟩
 obtain ⟨n1, n2, n3⟩ := hears_next hlt hiD hDn hDlt
 have hrdy : i ∈ Region.ready .any A listed := hh.toReady hlt hiD (fun x hx => ⟨List.contains_iff_mem.1 (c3 x hx), hDlt x (List.contains_iff_mem.1 (c3 x hx))⟩)
 obtain ⟨fuel, rfl⟩ : ∃ f, fuel = f + 1 := ⟨fuel - 1, by omega⟩
 obtain ⟨hval, hrd⟩ := rdB_ok (o := A.getD i default) c6
 have ho : ∀ ρ, execOp ρ (opAt A i).oper = execOp ρ (A.getD i default) := fun ρ => exec_gop ρ _ _
 obtain ⟨v, F', hr, hrun⟩ := qg_step hq (fun ρ w n w' e => hval ρ w n w' (by rw [<- ho]; exact e)) (by rw [ho]; exact hrd _) r
 have hset := hh.set i
 have h1 := k.out E ι F' _ w fuel _ hr hset.1 hset.2 n1 n2 (by simp; omega)
 refine anyR_first (R := Grown) Grown.refl (fun a b c => Grown.trans) (fun _ _ g => g) hab hAi (Region.noSelect_spec c5) fuel D listed a w hh (fun k hk e he => List.contains_iff_mem.1 (c4 k hk e he)) hiD ?_ hrdy ?_ h1
 ·intro j oj hj hji hjD _ hanc
  have hjlt : j < A.size := (Array.getElem?_eq_some_iff.1 hj).1
  simp only [freeG, hAi, List.all_eq_true, List.mem_range, Bool.or_eq_true] at c7
  rcases c7 j hjlt with ((h | h) | h) | h
  ·exact absurd (Nat.eq_of_beq_eq_true h) hji
  ·exact absurd (List.contains_iff_mem.1 h) hjD
  ·rw [h] at hanc; cases hanc
  ·rw [hj] at h
   simp only [Bool.and_eq_true, Bool.or_eq_true] at h
   exact ⟨h.1, .inr (h.2.imp id grB_ok)⟩
 ·have hw : (opAt A i).wanted a.tmps = Region.wanted (A.getD i default) (yielded A a.tmps) := wanted_prep A _ _
  rw [hw, ho] at hrun
  exact hrun.imp (fun ⟨x1, x2⟩ => ⟨x1, (hrd _ _ _ _ x2).2⟩) id
theorem AnyL.aheadC [T : Tys P] {A : Array Oper} {J : Nat -> Bool} {D : List Nat} (i : Nat) (nt : Operand -> Bool) (hn : ∀ x, nt x = true -> ∃ k n, st.eval x = .t (.int k n)) (hcn : cnB P nt (opAt A i).op = true) (hc : chkF A D i = true) (h : QS P (AnyL P A J (D ++ [i]) Q) [opAt A i] st) : AnyL P A J D Q st := by
 simp only [chkF, Bool.and_eq_true, List.all_eq_true, Bool.not_eq_true'] at hc
 obtain ⟨⟨⟨⟨⟨c1, c2⟩, c3⟩, c4⟩, c5⟩, c6⟩ := hc
 have hlt : i < A.size := Nat.le_of_ble_eq_true c1
 have hiD : i ∉ D := fun hm => by rw [List.contains_iff_mem.2 hm] at c2; cases c2
 have hAi : A[i]? = some (A.getD i default) := by simp [Array.getD, hlt]
 cases h with
 | cons u hq k =>
 cases k with
 | nil k =>
 refine ⟨fun E ι F a w fuel listed r hs hl hDn hDlt hfuel => ?_⟩
 have hh : Hears A listed D := ⟨hs, hl⟩
 obtain ⟨n1, n2, n3⟩ := hears_next hlt hiD hDn hDlt
 have hrdy : i ∈ Region.ready .any A listed := hh.toReady hlt hiD (fun x hx => ⟨List.contains_iff_mem.1 (c3 x hx), hDlt x (List.contains_iff_mem.1 (c3 x hx))⟩)
 obtain ⟨fuel, rfl⟩ : ∃ f, fuel = f + 1 := ⟨fuel - 1, by omega⟩
 obtain ⟨hval, hcn⟩ := cnB_ok (o := A.getD i default) (ρ := a.eval) (fun x hx => by
  obtain ⟨k, n, e⟩ := hn x hx
  exact ⟨k, n, int_eval r e⟩) hcn
 have ho : ∀ ρ, execOp ρ (opAt A i).oper = execOp ρ (A.getD i default) := fun ρ => exec_gop ρ _ _
 obtain ⟨v, F', hr, hrun⟩ := qg_step hq (fun ρ w n w' e => hval ρ w n w' (by rw [<- ho]; exact e)) (by rw [ho]; exact hcn.rd) r
 have hset := hh.set i
 have h1 := k.out E ι F' _ w fuel _ hr hset.1 hset.2 n1 n2 (by simp; omega)
 have hw : (opAt A i).wanted a.tmps = Region.wanted (A.getD i default) (yielded A a.tmps) := wanted_prep A _ _
 rw [hw, ho] at hrun
 refine anyR_first (R := fun _ _ => True) (fun _ => trivial) (fun _ _ _ _ _ => trivial) (fun _ _ _ => trivial) (AbOk.bef A) hAi (Region.noSelect_spec c4) fuel D listed a w hh (fun k hk e he => List.contains_iff_mem.1 (c6 k hk e he)) hiD ?_ hrdy (hrun.imp (fun ⟨x1, x2⟩ => ⟨x1, fun w2 _ => (hcn _ _ _ x2).2 w2⟩) id) h1
 intro j oj hj hji hjD hno hanc
 refine ⟨?_, .inl fun _ _ => trivial⟩
 have hjlt : j < A.size := (Array.getElem?_eq_some_iff.1 hj).1
 simp only [freeD, hAi, List.all_eq_true, List.mem_range, Bool.or_eq_true] at c5
 rcases c5 j hjlt with (h | h) | h
 ·exact absurd (Nat.eq_of_beq_eq_true h) hji
 ·exact absurd (List.contains_iff_mem.1 h) hjD
 ·rw [hj] at h
  simp only [Bool.or_eq_true] at h
  exact h.resolve_left fun h => hno (List.contains_iff_mem.1 h)
end Go.Abs
namespace Go.Abs
open Go
noncomputable section
variable {P : Program} {d : Option Tmp} {ty : TypeId} {L : List GOp} {ρ : Type}
theorem oper_conc {E : Env} {Q Q' : Exit -> St -> Prop} {o : Oper} {a : Act} {w : World} {K K' : Act -> World -> Prop} (h : ∀ a w, K a w -> K' a w) (hk : o.wp P a w K (conc E Q)) : o.wp P a w K' (conc E Q') := by
 unfold Oper.wp at hk ⊢
 generalize (execOp a.eval o).run P w = res at hk ⊢
 cases res with
 | ok n w' =>
  cases n <;> simp only [Oper.upon] at hk ⊢ <;> first
   | exact h _ _ hk
   | exact Calls.mono hk (fun e w'' he => by cases e <;> first | exact h _ _ he | exact he.elim | (obtain ⟨a, w, he⟩ := he; exact he.elim))
   | exact Rows.mono hk (fun _ _ he => h _ _ he)
 | halt x w' => cases x <;> simp only [Oper.upon] at hk ⊢ <;> exact hk
theorem lwp_conc {E : Env} {Q Q' : Exit -> St -> Prop} (hq : ∀ e st, Q e st -> Q' e st) : ∀ (L : List GOp) (a : Act) (w : World), lwp P L (conc E Q) a w -> lwp P L (conc E Q') a w
 | [], a, w, h => by
  obtain ⟨ι, F, st, r, k⟩ := h
  exact ⟨ι, F, st, r, hq _ _ k⟩
 | g :: L, a, w, h => by
  simp only [lwp] at h ⊢
  split
  ·rename_i hw
   rw [if_pos hw] at h
   exact oper_conc (lwp_conc hq L) h
  ·rename_i hw
   rw [if_neg hw] at h
   exact lwp_conc hq L _ _ h
section
variable [SU] [Codes] [Dats] [FFs] {Q : Exit -> ESt -> Prop}
def ESt.only (s : ESt) (xs : List Tmp) : ESt := { s with env := fun t => bif memT xs t then s.env t else .un }
theorem toSt_only (s : ESt) (xs : List Tmp) : toSt (s.only xs) = (toSt s).only xs := by
 simp only [toSt, ESt.only, St.only]
 congr 1
 funext t
 cases memT xs t <;> simp [toV]
def callQ (s so : ESt) (f : FuncId) (us : List EV) (d : Option Tmp) (K : ESt -> Option ρ) : List (Ctr P) -> Option ρ
 | [] => none
 | c :: T => bif Nat.beq c.f f && c.quiet then (match fitO c so us with
  | some z => callB (c.F z.x z.y) fun res => K (s.put d (mkE c.rv res.1))
  | none => callQ s so f us d K T) else callQ s so f us d K T
def lendQ (s so : ESt) (f : FuncId) (bs : List EV) (d : Option Tmp) (K : ESt -> Option ρ) : List (Ctr P) -> Option ρ
 | [] => none
 | c :: T => bif Nat.beq c.f f && (c.quiet && scalS c.rv) then (match fitO c (noS bs) bs with
  | some z => callB (c.F z.x z.y) fun res => K (s.put d (mkE c.rv res.1))
  | none => lendQ s so f bs d K T) else lendQ s so f bs d K T
def fitsQ (so : ESt) (f : FuncId) (us : List EV) : List (Ctr P) -> Bool
 | [] => false
 | c :: T => (Nat.beq c.f f && (c.quiet && (fitO c so us).isSome)) || fitsQ so f us T
def runQS (wr : Opt) (T : List (Ctr P)) [Tys P] [TyX P] (s : ESt) (d : Option Tmp) (op : Op) (K : ESt -> Option ρ) : Option ρ :=
 bif isPureX op then runOw P wr.wr (s.only (rds op)).eval s.heap op (fun u => K (s.put d u)) else
 match op with
 | .call c => match c.callee with
  | .value (.func f) => forceO (s.only (rds op)) c.args.toList fun us => match fitsQ (s.only (rds op)) f us T with
   | true => callQ s (s.only (rds op)) f us d K T
   | false => borrowsK (s.only (rds op)).heap us fun bs => lendQ s (s.only (rds op)) f bs d K T
  | _ => none
 | _ => none
variable {K0 : ESt -> Prop}
theorem callQ_ok {s : ESt} {f : FuncId} {args : Array Operand} {ats : Array TypeId} {K : ESt -> Option ρ} {res : ρ} (hK : ∀ s', K s' = some res -> QST P K0 L s') : ∀ {T : List (Ctr P)},
  callQ s (s.only (rds (.call { callee := .value (.func f), args := args, argTypes := ats }))) f (args.toList.map (s.only (rds (.call { callee := .value (.func f), args := args, argTypes := ats }))).eval) d K T = some res ->
  QST P K0 (⟨d, .call { callee := .value (.func f), args := args, argTypes := ats }, ty, none⟩ :: L) s
 | [], h => by cases h
 | c :: T, h => by
  unfold callQ at h
  cases hb : Nat.beq c.f f && c.quiet with
  | false => rw [hb] at h; exact callQ_ok hK (T := T) h
  | true =>
   rw [hb] at h
   simp only [Bool.and_eq_true] at hb
   obtain ⟨hb, hq⟩ := hb
   obtain rfl := Nat.eq_of_beq_eq_true hb
   simp only [cond_true] at h
   split at h
   ·rename_i z hz
    have hh := callB_out h
    clear h
    obtain ⟨y, hF, h⟩ := hh
    have := c.fnok
    have q := quiet_call hq (args_fn (d := d) (ty := ty) (ats := ats)) hz hF
    rw [toSt_only] at q
    refine ⟨QS.q q ?_⟩
    have := (hK _ h).out
    rwa [toSt_put] at this
   ·exact callQ_ok hK (T := T) h
theorem lendQ_ok {s : ESt} {f : FuncId} {args : Array Operand} {ats : Array TypeId} {K : ESt -> Option ρ} {res : ρ} (hK : ∀ s', K s' = some res -> QST P K0 L s') : ∀ {T : List (Ctr P)},
  lendQ s (s.only (rds (.call { callee := .value (.func f), args := args, argTypes := ats }))) f (borrows (s.only (rds (.call { callee := .value (.func f), args := args, argTypes := ats }))).heap (args.toList.map (s.only (rds (.call { callee := .value (.func f), args := args, argTypes := ats }))).eval)) d K T = some res ->
  QST P K0 (⟨d, .call { callee := .value (.func f), args := args, argTypes := ats }, ty, none⟩ :: L) s
 | [], h => by cases h
 | c :: T, h => by
  unfold lendQ at h
  cases hb : Nat.beq c.f f && (c.quiet && scalS c.rv) with
  | false => rw [hb] at h; exact lendQ_ok hK (T := T) h
  | true =>
   rw [hb] at h
   simp only [Bool.and_eq_true] at hb
   obtain ⟨hb, hq, hs⟩ := hb
   obtain rfl := Nat.eq_of_beq_eq_true hb
   simp only [cond_true] at h
   split at h
   ·rename_i z hz
    have hh := callB_out h
    clear h
    obtain ⟨y, hF, h⟩ := hh
    have q := lend_call (d := d) (ty := ty) (ats := ats) hq hs hz hF
    rw [toSt_only] at q
    refine ⟨QS.q q ?_⟩
    have := (hK _ h).out
    rwa [toSt_put] at this
   ·exact lendQ_ok hK (T := T) h
theorem runQS_ok {wr : Opt} {T : List (Ctr P)} [Tys P] [TyX P] {s : ESt} {op : Op} {K : ESt -> Option ρ} {res : ρ} (hK : ∀ s', K s' = some res -> QST P K0 L s') (h : runQS wr T s d op K = some res) : QST P K0 (⟨d, op, ty, none⟩ :: L) s := by
 unfold runQS at h
 cases hp : isPureX op with
 | true =>
  rw [hp] at h
  simp only [cond_true] at h
  obtain ⟨u, h1, h2⟩ := runOw_ok (s := s.only (rds op)) h
  refine ⟨QS.o (u := toV s.heap.len u) (by rw [<- toSt_only]; exact h1 d ty) ?_⟩
  have := (hK _ h2).out
  rwa [toSt_put] at this
 | false =>
  rw [hp] at h
  simp only [cond_false] at h
  split at h
  ·rename_i c
   obtain ⟨callee, args, ats⟩ := c
   split at h
   ·rename_i f hc
    simp only at hc
    subst hc
    rw [forceO_eq] at h
    split at h
    ·exact callQ_ok hK h
    ·exact lendQ_ok hK (borrowsK_out h)
   ·cases h
  ·cases h
def runQ (wr : Opt) (T : List (Ctr P)) [Tys P] [TyX P] (K : ESt -> Option ρ) : List GOp -> ESt -> Option ρ
 | [], s => K s
 | ⟨d, op, ty, none⟩ :: L, s => runQS wr T s d op (runQ wr T K L)
 | ⟨d, op, ty, some (some t, w)⟩ :: L, s => match s.env t with
  | .und => runQ wr T K L (s.put d .und)
  | .b b => bif Nat.blt t s.nt then
    (bif w then (bif b then runQS wr T (s.put (some t) (.b true)) d op (runQ wr T K L) else runQ wr T K L ((s.put (some t) (.b false)).put d .und))
      else (bif b then runQ wr T K L ((s.put (some t) (.b true)).put d .und) else runQS wr T (s.put (some t) (.b false)) d op (runQ wr T K L))) else none
  | _ => none
 | ⟨_, _, _, some (none, _)⟩ :: _, _ => none
theorem runQ_ok {wr : Opt} {T : List (Ctr P)} [Tys P] [TyX P] {K : ESt -> Option ρ} {res : ρ} (hK : ∀ s', K s' = some res -> K0 s') : ∀ (L : List GOp) (s : ESt), runQ wr T K L s = some res -> QST P K0 L s
 | [], s, h => ⟨QS.nil ⟨s, rfl, hK _ h⟩⟩
 | ⟨d, op, ty, none⟩ :: L, s, h => runQS_ok (runQ_ok hK L) h
 | ⟨d, op, ty, some (some t, w)⟩ :: L, s, h => by
  unfold runQ at h
  split at h
  ·rename_i hu
   have hu := envT hu
   simp only [toV] at hu
   refine ⟨QS.gu hu ?_⟩
   have := (runQ_ok hK L _ h).out
   rwa [toSt_put] at this
  ·rename_i b hb
   have hb := envT hb
   simp only [toV] at hb
   have hh := bif_none h
   clear h
   obtain ⟨hlt, h⟩ := hh
   have hlt' : Nat.blt t (toSt s).nt = true := hlt
   cases w with
   | true =>
    simp only [cond_true] at h
    obtain ⟨h1, h2⟩ := bifs h
    refine ⟨QS.splitG (w := true) rfl hb hlt' (fun e => ?_) (fun e => ?_)⟩
    ·have := (runQS_ok (ty := ty) (runQ_ok hK L) (h1 e)).out
     rw [toSt_put] at this
     exact QS.gy (by rw [put_env_eq, hlt']; rfl) hlt' this
    ·have := (runQ_ok hK L _ (h2 e)).out
     rw [toSt_put, toSt_put] at this
     exact QS.gn (by rw [put_env_eq, hlt']; rfl) hlt' this
   | false =>
    simp only [cond_false] at h
    obtain ⟨h1, h2⟩ := bifs h
    refine ⟨QS.splitG (w := false) rfl hb hlt' (fun e => ?_) (fun e => ?_)⟩
    ·have := (runQ_ok hK L _ (h1 e)).out
     rw [toSt_put, toSt_put] at this
     exact QS.gn (by rw [put_env_eq, hlt']; rfl) hlt' this
    ·have := (runQS_ok (ty := ty) (runQ_ok hK L) (h2 e)).out
     rw [toSt_put] at this
     exact QS.gy (by rw [put_env_eq, hlt']; rfl) hlt' this
  ·cases h
 | ⟨_, _, _, some (none, _)⟩ :: _, _, h => by cases h
def quietIn (f : FuncId) : List (Ctr P) -> Bool
 | [] => false
 | c :: T => (Nat.beq c.f f && c.quiet) || quietIn f T
def quietOp (T : List (Ctr P)) (op : Op) : Bool := isPureX op || (match op with
 | .call c => match c.callee with
  | .value (.func f) => quietIn f T
  | _ => false
 | _ => false)
def planOf (T : List (Ctr P)) : List Oper -> Nat -> List (Nat × Bool)
 | [], 0 => []
 | [], n => [(n, true)]
 | o :: l, n => bif quietOp T o.op then planOf T l (n + 1) else (bif Nat.beq n 0 then (1, false) :: planOf T l 0 else (n, true) :: (1, false) :: planOf T l 0)
def planOk (A : Array Oper) : Nat -> List (Nat × Bool) -> Bool
 | k, [] => allIn A.size (List.range k)
 | k, (n, true) :: l => chk A (befL A) (List.range k) ((List.range n).map (k + ·)) && planOk A (k + n) l
 | k, (_, false) :: l => chk1 A (befL A) (List.range k) k && planOk A (k + 1) l
theorem QS.mono {K K' : St -> Prop} (hk : ∀ st, K st -> K' st) : ∀ {L : List GOp} {st : St}, QS P K L st -> QS P K' L st := fun h => by
 induction h with
 | nil h => exact .nil (hk _ h)
 | cons u h k ih => exact .cons u h ih
def runPlan (wr : Opt) (T : List (Ctr P)) [Tys P] [TyE P] [TyX P] (A : Array Oper) (K : ESt -> Option ρ) : List (Nat × Bool) -> Nat -> ESt -> Option ρ
 | [], k, s => K s
 | (n, true) :: l, k, s => runQ wr T (runPlan wr T A K l (k + n)) (((List.range n).map (k + ·)).map (opAt A)) s
 | (_, false) :: l, k, s => runL wr T (runPlan wr T A K l (k + 1)) [opAt A k] s
theorem runPlan_ok {wr : Opt} {T : List (Ctr P)} [Tys P] [TyE P] [TyX P] {A : Array Oper} {K : ESt -> Option ρ} {res : ρ} (hK : ∀ s', K s' = some res -> Q .normal s') : ∀ (l : List (Nat × Bool)) (k : Nat) (s : ESt), planOk A k l = true -> runPlan wr T A K l k s = some res ->
  AnyL P A (fun _ => false) (List.range k) (liftQ Q) (toSt s)
 | [], k, s, hc, h => AnyL.done hc ⟨s, rfl, hK _ h⟩
 | (n, true) :: l, k, s, hc, h => by
  simp only [planOk, Bool.and_eq_true] at hc
  refine AnyL.quiet (AbOk.bef A) _ hc.1 (QS.mono ?_ (runQ_ok (K0 := fun s => runPlan wr T A K l (k + n) s = some res) (fun s' h => h) _ _ h).out)
  rintro st ⟨s', rfl, h'⟩
  have := runPlan_ok hK l (k + n) s' hc.2 h'
  rwa [List.range_add] at this
 | (_, false) :: l, k, s, hc, h => by
  simp only [planOk, Bool.and_eq_true] at hc
  have hs := (runL_ok (Q := fun e s => match e with | .normal => runPlan wr T A K l (k + 1) s = some res | _ => False) (fun s' h => h) _ _ h).out
  refine AnyL.step (AbOk.bef A) k hc.1 (.inl ⟨rfl, ⟨fun E ι F a w r => ?_⟩⟩)
  have := hs.out E ι F a w r
  refine lwp_conc ?_ _ _ _ this
  rintro e st ⟨s', rfl, h'⟩
  cases e <;> first | exact h'.elim | skip
  have := runPlan_ok hK l (k + 1) s' hc.2 h'
  rwa [List.range_succ] at this
def brO {ρ : Type} (x y : Option ρ) : Option ρ := @ite _ (x = y) (Classical.propDecidable _) x none
theorem brO_out {ρ : Type} {x y : Option ρ} {r : ρ} (h : brO x y = some r) : x = some r /\ y = some r := by
 unfold brO at h
 split at h
 ·rename_i e; exact ⟨h, e ▸ h⟩
 ·cases h
@[simp] theorem brO_self {ρ : Type} (x : Option ρ) : brO x x = x := by unfold brO; rw [if_pos rfl]
def isI : EV -> Bool
 | .i _ _ => true
 | _ => false
def growJ (T : List (Ctr P)) (A : Array Oper) (i : Nat) : Bool := match (opAt A i).g with
 | none => isGrow T (opAt A i).op
 | some _ => false
def isTC : Operand -> Bool
 | .tmp _ => true
 | .const (.int _ _) => true
 | _ => false
def findFl (P : Program) [Tys P] (A : Array Oper) (ab : List Nat) (J : Nat -> Bool) (D : List Nat) : List Nat -> Nat × Nat
 | [] => (0, 0)
 | i :: l => bif cnB P isTC (opAt A i).op && chkF A D i then (1, i) else (bif chkG P A ab J D i then (2, i) else findFl P A ab J D l)
def quietAhead (T : List (Ctr P)) (A : Array Oper) : List Nat -> List Nat
 | [] => []
 | i :: l => bif quietOp T (opAt A i).op then i :: quietAhead T A l else []
def isNl : List Nat -> Bool
 | [] => true
 | _ => false
def planF (T : List (Ctr P)) [Tys P] (A : Array Oper) (ab : List Nat) : Nat -> List Nat -> List Nat -> Pn
 | 0, _, _ => .no
 | n + 1, D, l => match l with
  | [] => .nil
  | i :: m => bif !(isNl (quietAhead T A l)) && chk A ab D (quietAhead T A l) then .qu (quietAhead T A l) (planF T A ab n (D ++ quietAhead T A l) (l.drop (quietAhead T A l).length))
   else (bif chk1 A ab D i then .on i (planF T A ab n (D ++ [i]) m) else (match findFl P A ab (growJ T A) D l with
    | (1, j) => .fl j (planF T A ab n (D ++ [j]) (l.filter fun k => !Nat.beq k j))
    | (2, j) => .rd j (planF T A ab n (D ++ [j]) (l.filter fun k => !Nat.beq k j))
    | _ => bif Nat.ble l.length 12 then (rdyL A D).foldr (fun j q => .br j (planF T A ab n (D ++ [j]) (l.filter fun k => !Nat.beq k j)) q) .no else .no))
def altOf : Pn -> List Nat
 | .br i _ q => i :: altOf q
 | _ => []
def planOkF (P : Program) [Tys P] (T : List (Ctr P)) (A : Array Oper) (ab : List Nat) : Pn -> Bool -> List Nat -> Bool
 | .nil, b, D => !b && allIn A.size D
 | .fl i p, b, D => !b && (chkF A D i && planOkF P T A ab p false (D ++ [i]))
 | .rd i p, b, D => !b && (chkG P A ab (growJ T A) D i && planOkF P T A ab p false (D ++ [i]))
 | .qu X p, b, D => !b && (chk A ab D X && planOkF P T A ab p false (D ++ X))
 | .on i p, b, D => !b && (chk1 A ab D i && planOkF P T A ab p false (D ++ [i]))
 | .br i p q, b, D => (b || lbeq (i :: altOf q) (rdyL A D)) && (planOkF P T A ab p false (D ++ [i]) && planOkF P T A ab q true D)
 | .no, b, _ => b
def runOne (wr : Opt) (T : List (Ctr P)) [Tys P] [TyE P] [TyX P] (A : Array Oper) (i : Nat) (K : ESt -> Option ρ) (s : ESt) : Option ρ :=
 bif growJ T A i then runG T K (opAt A i) s else runL wr T K [opAt A i] s
def runPlanF (wr : Opt) (T : List (Ctr P)) [Tys P] [TyE P] [TyX P] (A : Array Oper) (K : ESt -> Option ρ) : Pn -> ESt -> Option ρ
 | .nil, s => K s
 | .fl i p, s => bif cnB P (fun x => isI (s.eval x)) (opAt A i).op then runQ wr T (runPlanF wr T A K p) [opAt A i] s else none
 | .rd i p, s => runQ wr T (runPlanF wr T A K p) [opAt A i] s
 | .qu X p, s => runQ wr T (runPlanF wr T A K p) (X.map (opAt A)) s
 | .on i p, s => runOne wr T A i (runPlanF wr T A K p) s
 | .br i p .no, s => runOne wr T A i (runPlanF wr T A K p) s
 | .br i p q, s => brO (runOne wr T A i (runPlanF wr T A K p) s) (runPlanF wr T A K q s)
 | .no, _ => none
theorem runOne_ok {wr : Opt} {T : List (Ctr P)} [Tys P] [TyE P] [TyX P] {A : Array Oper} {i : Nat} {K : ESt -> Option ρ} {s : ESt} {res : ρ} {K1 : St -> Prop} (h : runOne wr T A i K s = some res) (hK : ∀ s', K s' = some res -> K1 (toSt s')) :
  (growJ T A i = false /\ SL P [opAt A i] (normalQ K1) (toSt s)) \/ SLG P (opAt A i) K1 (toSt s) := by
 unfold runOne at h
 cases hg : growJ T A i with
 | true =>
  rw [hg] at h
  have h1 := (runG_ok (K1 := fun s => K s = some res) (fun s' h => h) h).out
  refine .inr ⟨fun E ι F a w r => ?_⟩
  obtain ⟨e, h2⟩ := h1.out E ι F a w r
  refine ⟨e, Oper.wp_mono (fun a' w' ⟨g, ι', F', st', r', s', e1, hk⟩ => ⟨g, ι', F', st', r', ?_⟩) h2⟩
  subst e1
  exact hK s' hk
 | false =>
  rw [hg] at h
  have hs := (runL_ok (Q := fun e s => match e with | .normal => K s = some res | _ => False) (fun s' h => h) _ _ h).out
  refine .inl ⟨rfl, ⟨fun E ι F a w r => ?_⟩⟩
  have := hs.out E ι F a w r
  refine lwp_conc ?_ _ _ _ this
  rintro e st ⟨s', rfl, h'⟩
  cases e <;> first | exact h'.elim | skip
  exact hK s' h'
theorem lbeq_eq {a b : List Nat} (h : lbeq a b = true) : a = b := lbeq_iff.1 h
theorem runPlanF_ok {wr : Opt} {T : List (Ctr P)} [Tys P] [TyE P] [TyX P] {A : Array Oper} {ab : List Nat} (hab : AbOk A ab) {K : ESt -> Option ρ} {res : ρ} (hK : ∀ s', K s' = some res -> Q .normal s') : ∀ (p : Pn) (D : List Nat) (s : ESt),
  (planOkF P T A ab p false D = true -> runPlanF wr T A K p s = some res -> AnyL P A (growJ T A) D (liftQ Q) (toSt s)) /\
  (planOkF P T A ab p true D = true -> p ≠ .no -> runPlanF wr T A K p s = some res -> ∀ e ∈ altOf p, (growJ T A e = false /\ SL P [opAt A e] (normalQ (AnyL P A (growJ T A) (D ++ [e]) (liftQ Q))) (toSt s)) \/ SLG P (opAt A e) (AnyL P A (growJ T A) (D ++ [e]) (liftQ Q)) (toSt s))
 | .nil, D, s => by
  refine ⟨fun hc h => ?_, fun hc => by cases hc⟩
  simp only [planOkF, Bool.and_eq_true] at hc
  exact AnyL.done hc.2 ⟨s, rfl, hK _ h⟩
 | .no, D, s => ⟨fun hc => (by cases hc), fun _ h => absurd rfl h⟩
 | .fl i p, D, s => by
  refine ⟨fun hc h => ?_, fun hc => by simp [planOkF] at hc⟩
  simp only [planOkF, Bool.and_eq_true] at hc
  unfold runPlanF at h
  have hh := bif_none h
  clear h
  obtain ⟨hcn, h⟩ := hh
  refine AnyL.aheadC i (fun x => isI (s.eval x)) (fun x hx => ?_) hcn hc.2.1 (QS.mono ?_ (runQ_ok (K0 := fun s => runPlanF wr T A K p s = some res) (fun s' h => h) _ _ h).out)
  ·cases he : s.eval x <;> rw [he] at hx <;> first | cases hx | skip
   rename_i k n
   exact ⟨k, n, eval_eq he rfl⟩
  ·rintro st ⟨s', rfl, h'⟩
   exact (runPlanF_ok hab hK p (D ++ [i]) s').1 hc.2.2 h'
 | .rd i p, D, s => by
  refine ⟨fun hc h => ?_, fun hc => by simp [planOkF] at hc⟩
  simp only [planOkF, Bool.and_eq_true] at hc
  unfold runPlanF at h
  refine AnyL.ahead hab i hc.2.1 (QS.mono ?_ (runQ_ok (K0 := fun s => runPlanF wr T A K p s = some res) (fun s' h => h) _ _ h).out)
  rintro st ⟨s', rfl, h'⟩
  exact (runPlanF_ok hab hK p (D ++ [i]) s').1 hc.2.2 h'
 | .qu X p, D, s => by
  refine ⟨fun hc h => ?_, fun hc => by simp [planOkF] at hc⟩
  simp only [planOkF, Bool.and_eq_true] at hc
  unfold runPlanF at h
  refine AnyL.quiet hab _ hc.2.1 (QS.mono ?_ (runQ_ok (K0 := fun s => runPlanF wr T A K p s = some res) (fun s' h => h) _ _ h).out)
  rintro st ⟨s', rfl, h'⟩
  exact (runPlanF_ok hab hK p (D ++ X) s').1 hc.2.2 h'
 | .on i p, D, s => by
  refine ⟨fun hc h => ?_, fun hc => by simp [planOkF] at hc⟩
  simp only [planOkF, Bool.and_eq_true] at hc
  unfold runPlanF at h
  exact AnyL.step hab i hc.2.1 (runOne_ok h fun s' h' => (runPlanF_ok hab hK p (D ++ [i]) s').1 hc.2.2 h')
 | .br i p q, D, s => by
  have key : ∀ b, planOkF P T A ab (.br i p q) b D = true -> runPlanF wr T A K (.br i p q) s = some res -> ∀ e ∈ altOf (.br i p q), (growJ T A e = false /\ SL P [opAt A e] (normalQ (AnyL P A (growJ T A) (D ++ [e]) (liftQ Q))) (toSt s)) \/ SLG P (opAt A e) (AnyL P A (growJ T A) (D ++ [e]) (liftQ Q)) (toSt s) := by
   intro b hc h e he
   simp only [planOkF, Bool.and_eq_true] at hc
   by_cases hq : q = .no
   ·subst hq
    simp only [altOf, List.mem_cons, List.not_mem_nil, or_false] at he
    subst he
    exact runOne_ok h fun s' h' => (runPlanF_ok hab hK p (D ++ [e]) s').1 hc.2.1 h'
   ·have h : brO (runOne wr T A i (runPlanF wr T A K p) s) (runPlanF wr T A K q s) = some res := by
     cases q <;> first | exact absurd rfl hq | exact h
    obtain ⟨h1, h2⟩ := brO_out h
    simp only [altOf, List.mem_cons] at he
    rcases he with rfl | he
    ·exact runOne_ok h1 fun s' h' => (runPlanF_ok hab hK p (D ++ [e]) s').1 hc.2.1 h'
    ·exact (runPlanF_ok hab hK q D s).2 hc.2.2 hq h2 e he
  refine ⟨fun hc h => ?_, fun hc _ h => key true hc h⟩
  have hc' := hc
  simp only [planOkF, Bool.false_or, Bool.and_eq_true] at hc'
  have he := lbeq_eq hc'.1
  refine AnyL.branch (by rw [<- he]; rfl) fun e hm => key false hc h e ?_
  rw [<- he] at hm
  exact hm
def planFA (T : List (Ctr P)) [Tys P] (A : Array Oper) (ab : List Nat) : Pn := planF T A ab (A.size + 1) [] (List.range A.size)
def isNo : Pn -> Bool
 | .no => true
 | _ => false
def runRegB (wr : Opt) (T : List (Ctr P)) [Tys P] [TyE P] [TyX P] (A : Array Oper) (draw : Bool) (K : ESt -> Option ρ) (s : ESt) : Option ρ :=
 bif draw then (bif isNo wr.pl then (bif planOk A 0 (planOf T A.toList 0) then runPlan wr T A K (planOf T A.toList 0) 0 s else
  (bif planOkF P T A (befL A) (planFA T A (befL A)) false [] then runPlanF wr T A K (planFA T A (befL A)) s else none))
  else (bif abChk A wr.ab && planOkF P T A wr.ab wr.pl false [] then runPlanF wr T A K wr.pl s else none)) else runL wr T K (prep A) s
theorem runRegB_ok {wr : Opt} {T : List (Ctr P)} [Tys P] [TyE P] [TyX P] [m : Mixed P] {A : Array Oper} {draw : Bool} {K : ESt -> Option ρ} {res : ρ} {id : Nat} {s : ESt} (hK : ∀ s', K s' = some res -> Q .normal s') (h : runRegB wr T A draw K s = some res) : SCT P (.region id A draw) Q s := by
 unfold runRegB at h
 cases draw with
 | true =>
  simp only [cond_true] at h
  cases hno : isNo wr.pl with
  | false =>
   rw [hno] at h
   simp only [cond_false] at h
   have hh := bif_none h
   clear h
   obtain ⟨hc, h⟩ := hh
   simp only [Bool.and_eq_true] at hc
   exact ⟨SC.draw m.m ((runPlanF_ok (AbOk.of hc.1) hK _ [] s).1 hc.2 h)⟩
  | true =>
  rw [hno] at h
  simp only [cond_true] at h
  cases hp : planOk A 0 (planOf T A.toList 0) with
  | true =>
   rw [hp] at h
   exact ⟨SC.draw m.m (runPlan_ok hK _ 0 s hp h)⟩
  | false =>
   rw [hp] at h
   simp only [cond_false] at h
   have hh := bif_none h
   clear h
   obtain ⟨hc, h⟩ := hh
   exact ⟨SC.draw m.m ((runPlanF_ok (AbOk.bef A) hK _ [] s).1 hc h)⟩
 | false => exact ⟨SC.region (runL_ok hK _ _ h).out⟩
def ESt.mdd (s : ESt) (l : List Nat) : ESt := { s with heap := { s.heap with md := l } }
theorem WeakT.up {s : ESt} {k : Nat} {e : TypeId} {i j : Nat} {f : SU.D i -> SU.D j} {l : List (SU.D i)} (ho : s.heap.obj k = .lst ⟨e, .st i, l⟩) (h : Codes.upF i j = some f) : WeakT s (s.on (s.heap.set k (.lst ⟨e, .st j, l.map f⟩))) := by
 unfold WeakT
 rw [toSt_up ho h]
 exact WeakT.refl s
def tellO (s : ESt) (K : ESt -> Option ρ) : List (Nat × Nat) -> Option ρ
 | [] => K s
 | (t, j) :: l => match s.env t with
  | .sfull k [] => (match s.heap.obj k with
   | .lst ⟨e, .st i, x⟩ => (match Codes.upF i j with
    | some f => tellO (s.on (s.heap.set k (.lst ⟨e, .st j, x.map f⟩))) K l
    | none => none)
   | _ => none)
  | _ => none
theorem tellO_out {K : ESt -> Option ρ} {res : ρ} : ∀ (l : List (Nat × Nat)) (s : ESt), tellO s K l = some res -> ∃ s', WeakT s s' /\ K s' = some res
 | [], s, h => ⟨s, WeakT.refl s, h⟩
 | (t, j) :: l, s, h => by
  unfold tellO at h
  split at h
  ·split at h
   ·rename_i ho
    split at h
    ·rename_i f hf
     obtain ⟨s', w, h'⟩ := tellO_out l _ h
     exact ⟨s', (WeakT.up ho hf).trans w, h'⟩
    ·cases h
   ·cases h
  ·cases h
def runReg (wr : Opt) (T : List (Ctr P)) [Tys P] [TyE P] [TyX P] (A : Array Oper) (draw : Bool) (K : ESt -> Option ρ) (s : ESt) : Option ρ :=
 tellO (s.mdd wr.md) (runRegB wr T A draw K) wr.rt
theorem runReg_ok {wr : Opt} {T : List (Ctr P)} [Tys P] [TyE P] [TyX P] [m : Mixed P] {A : Array Oper} {draw : Bool} {K : ESt -> Option ρ} {res : ρ} {id : Nat} {s : ESt} (hK : ∀ s', K s' = some res -> Q .normal s') (h : runReg wr T A draw K s = some res) : SCT P (.region id A draw) Q s := by
 obtain ⟨s', w, h⟩ := tellO_out _ _ h
 have := SCT.weak w (runRegB_ok (id := id) hK h)
 exact ⟨this.out⟩
end
end
end Go.Abs
namespace Go.Abs
open Go
noncomputable section
variable {P : Program}
section
variable {D X : Type}
def iterO (f : D -> Option (D ⊕ X)) : Nat -> D -> Option X
 | 0, _ => none
 | n + 1, y => match f y with
  | some (.inl z) => iterO f n z
  | some (.inr x) => some x
  | none => none
theorem iterO_up {f : D -> Option (D ⊕ X)} : ∀ {n : Nat} {y : D} {x : X}, iterO f n y = some x -> ∀ m, n <= m -> iterO f m y = some x
 | 0, _, _, h, _, _ => by cases h
 | n + 1, y, x, h, 0, hm => by omega
 | n + 1, y, x, h, m + 1, hm => by
  simp only [iterO] at h ⊢
  split at h
  ·exact iterO_up h m (by omega)
  ·exact h
  ·cases h
open Classical in
noncomputable def whileO (f : D -> Option (D ⊕ X)) (y : D) : Option X := if h : ∃ n x, iterO f n y = some x then some (Classical.choose (Classical.choose_spec h)) else none
theorem whileO_iff {f : D -> Option (D ⊕ X)} {y : D} {x : X} : whileO f y = some x ↔ ∃ n, iterO f n y = some x := by
 unfold whileO
 constructor
 ·intro h
  split at h
  ·rename_i hh
   injection h with h
   subst h
   exact ⟨_, Classical.choose_spec (Classical.choose_spec hh)⟩
  ·cases h
 ·rintro ⟨n, hn⟩
  have hh : ∃ n x, iterO f n y = some x := ⟨n, x, hn⟩
  rw [dif_pos hh]
  have h2 := Classical.choose_spec (Classical.choose_spec hh)
  have a := iterO_up h2 (max n (Classical.choose hh)) (Nat.le_max_right _ _)
  have b := iterO_up hn (max n (Classical.choose hh)) (Nat.le_max_left _ _)
  rw [a] at b
  exact b
theorem whileO_eq (f : D -> Option (D ⊕ X)) (y : D) : whileO f y = match f y with
  | some (.inl z) => whileO f z
  | some (.inr x) => some x
  | none => none := by
 have key : ∀ x, whileO f y = some x ↔ (match f y with
  | some (.inl z) => whileO f z
  | some (.inr x) => some x
  | none => none) = some x := by
  intro x
  rw [whileO_iff]
  cases hf : f y with
  | none =>
   simp only
   constructor
   ·rintro ⟨n, hn⟩; cases n <;> simp [iterO, hf] at hn
   ·intro h; cases h
  | some v =>
   cases v with
   | inl z =>
    simp only
    rw [whileO_iff]
    constructor
    ·rintro ⟨n, hn⟩
     cases n with
     | zero => cases hn
     | succ n => simp only [iterO, hf] at hn; exact ⟨n, hn⟩
    ·rintro ⟨n, hn⟩; exact ⟨n + 1, by simp only [iterO, hf]; exact hn⟩
   | inr x' =>
    simp only
    constructor
    ·rintro ⟨n, hn⟩
     cases n with
     | zero => cases hn
     | succ n => simp only [iterO, hf] at hn; exact hn
    ·intro h; exact ⟨1, by simp only [iterO, hf]; exact h⟩
 cases h1 : whileO f y with
 | some x => exact ((key x).1 h1).symm
 | none =>
  cases h2 : (match f y with
  | some (.inl z) => whileO f z
  | some (.inr x) => some x
  | none => none) with
  | none => rfl
  | some x => rw [(key x).2 h2] at h1; cases h1
def sumO {ρ A B : Type} (f : A -> Option ρ) (g : B -> Option ρ) (x : A ⊕ B) : Option ρ := match x with
 | .inl a => f a
 | .inr b => g b
def jpO {ρ : Type} (f : D -> Option ρ) (g : (D -> Option ρ) -> Option ρ) : Option ρ := g f
end
inductive Ek where
 | ret
 | exit (n : Nat)
def Ek.ex : Ek -> Exit
 | .ret => .ret
 | .exit n => .exit n
def Ek.is : Ek -> Exit -> Bool
 | .ret, .ret => true
 | .exit n, .exit m => Nat.beq n m
 | _, _ => false
theorem Ek.is_out {k : Ek} {e : Exit} (h : k.is e = true) : e = k.ex := by
 cases k <;> cases e <;> first | rfl | (cases h; done) | (obtain rfl := Nat.eq_of_beq_eq_true h; rfl)
inductive Ann where
 | o
 | w
 | x (o : Opt)
 | seq (a b : Ann)
 | join (sh : SSh) (a b : Ann)
 | cond (a b : Ann)
 | block (a : Ann)
 | loop (sh : SSh) (ex : List (Ek × SSh)) (a : Ann)
def Ann.wr : Ann -> Opt
 | .w => { wr := true }
 | .x q => q
 | _ => {}
section
variable [SU] [Codes] [Dats] [FFs]
@[reducible] def SSh.D (sh : SSh) : Type := DT sh.sl × DO sh.os
@[reducible] def ExD : List (Ek × SSh) -> Type
 | [] => Empty
 | [a] => a.2.D
 | a :: b :: l => a.2.D ⊕ ExD (b :: l)
variable {ρ : Type}
def up1 (s : ESt) : OSh -> Option Nat -> ESt
 | .lst _ (.st j), some k => (match s.heap.obj k with
  | .lst ⟨e, .st i, l⟩ => (match Codes.upF i j with
   | some f => s.on (s.heap.set k (.lst ⟨e, .st j, l.map f⟩))
   | none => s)
  | _ => s)
 | _, _ => s
def upS : List OSh -> List (Option Nat) -> ESt -> ESt
 | [], _, s => s
 | _ :: _, [], s => s
 | o :: os, k :: ks, s => upS os ks (up1 s o k)
theorem up1_ok (s : ESt) (o : OSh) (k : Option Nat) : toSt (up1 s o k) = toSt s := by
 unfold up1
 split
 ·split
  ·rename_i ho
   split
   ·rename_i f hf
    exact toSt_up ho hf
   ·rfl
  ·rfl
 ·rfl
theorem upS_ok : ∀ (os : List OSh) (ks : List (Option Nat)) (s : ESt), toSt (upS os ks s) = toSt s
 | [], _, _ => rfl
 | _ :: _, [], _ => rfl
 | o :: os, k :: ks, s => (upS_ok os ks (up1 s o k)).trans (up1_ok s o k)
def meetO (nt lo : Nat) (s : ESt) (sh : SSh) (K : sh.D -> Option ρ) : Option ρ := bif Nat.beq s.nt nt && Nat.beq s.heap.lo lo then (match exS (upS sh.os (ksFor s sh) s) (ksFor s sh) sh with
 | some z => K z
 | none => none) else none
theorem meetO_out {nt lo : Nat} {s : ESt} {sh : SSh} {K : sh.D -> Option ρ} {r : ρ} (h : meetO nt lo s sh K = some r) : ∃ z, WeakT s (mkS nt lo sh z.1 z.2) /\ K z = some r := by
 unfold meetO at h
 have hh := bif_none h
 clear h
 obtain ⟨hb, h⟩ := hh
 simp only [Bool.and_eq_true] at hb
 obtain rfl := natBeq hb.1
 obtain rfl := natBeq hb.2
 split at h
 ·rename_i z hz
  have e := upS_ok sh.os (ksFor s sh) s
  have e1 : (upS sh.os (ksFor s sh) s).nt = s.nt := congrArg St.nt e
  have e2 : (upS sh.os (ksFor s sh) s).heap.lo = s.heap.lo := congrArg (fun x : St => x.heap.lo) e
  have w := exS_ok hz
  unfold WeakT at w ⊢
  rw [e, e1, e2] at w
  exact ⟨z, w, h⟩
 ·cases h
def exitO (nt lo : Nat) (s : ESt) (e : Exit) : (l : List (Ek × SSh)) -> (ExD l -> Option ρ) -> Option ρ
 | [], _ => none
 | [a], K => bif a.1.is e then meetO nt lo s a.2 K else none
 | a :: b :: l, K => bif a.1.is e then meetO nt lo s a.2 (fun z => K (.inl z)) else exitO nt lo s e (b :: l) (fun z => K (.inr z))
def onExit (nt lo : Nat) (k : Exit -> ESt -> Option ρ) : (l : List (Ek × SSh)) -> ExD l -> Option ρ
 | [], _ => none
 | [a], z => k a.1.ex (mkS nt lo a.2 z.1 z.2)
 | a :: b :: l, z => sumO (fun z => k a.1.ex (mkS nt lo a.2 z.1 z.2)) (fun z => onExit nt lo k (b :: l) z) z
theorem exitO_out {nt lo : Nat} {s : ESt} {e : Exit} {k : Exit -> ESt -> Option ρ} : ∀ {l : List (Ek × SSh)} {σ : Type} {K : ExD l -> Option σ} {x : σ}, exitO nt lo s e l K = some x -> ∃ z, K z = some x /\ ∃ s', WeakT s s' /\ ∀ r, onExit nt lo k l z = some r -> k e s' = some r
 | [], _, _, _, h => by cases h
 | [a], σ, K, x, h => by
  unfold exitO at h
  have hh := bif_none h
  clear h
  obtain ⟨hb, h⟩ := hh
  obtain ⟨z, w, h⟩ := meetO_out h
  exact ⟨z, h, _, w, fun r hr => by rw [Ek.is_out hb]; exact hr⟩
 | a :: b :: l, σ, K, x, h => by
  unfold exitO at h
  cases hb : a.1.is e with
  | true =>
   rw [hb] at h
   obtain ⟨z, w, h⟩ := meetO_out h
   exact ⟨.inl z, h, _, w, fun r hr => by rw [Ek.is_out hb]; exact hr⟩
  | false =>
   rw [hb] at h
   obtain ⟨z, h1, s', w, h2⟩ := exitO_out (l := b :: l) h
   exact ⟨.inr z, h1, s', w, h2⟩
def thenK (K : ESt -> Option ρ) (k : Exit -> ESt -> Option ρ) : Exit -> ESt -> Option ρ
 | .normal, s => K s
 | e, s => k e s
def inK (id : Nat) (k : Exit -> ESt -> Option ρ) : Exit -> ESt -> Option ρ
 | .exit id', s => bif Nat.beq id' id then k .normal s else k (.exit id') s
 | e, s => k e s
def roundK (nt lo : Nat) (sh : SSh) (ex : List (Ek × SSh)) : Exit -> ESt -> Option (sh.D ⊕ ExD ex)
 | .normal, s => meetO nt lo s sh (fun z => some (.inl z))
 | e, s => exitO nt lo s e ex (fun z => some (.inr z))
noncomputable def runC (T : List (Ctr P)) [Tys P] [TyE P] [TyX P] (nt lo : Nat) : Ann -> Code -> {ρ : Type} -> (Exit -> ESt -> Option ρ) -> ESt -> Option ρ
 | _, .skip, _, k, s => k .normal s
 | _, .exit id, _, k, s => k (.exit id) s
 | _, .ret, _, k, s => k .ret s
 | a, .region _ A draw, _, k, s => runReg a.wr T A draw (k .normal) s
 | .seq a b, .seq x y, _, k, s => runC T nt lo a x (thenK (runC T nt lo b y k) k) s
 | .o, .seq x y, _, k, s => runC T nt lo .o x (thenK (runC T nt lo .o y k) k) s
 | .join sh a b, .seq x y, _, k, s => jpO (fun z : sh.D => runC T nt lo b y k (mkS nt lo sh z.1 z.2)) fun j => runC T nt lo a x (thenK (fun s' => meetO nt lo s' sh j) k) s
 | .cond a b, .cond (.tmp t) x y, _, k, s => match s.env t with
  | .b c => bif Nat.blt t s.nt then (bif c then runC T nt lo a x k (s.put (some t) (.b true)) else runC T nt lo b y k (s.put (some t) (.b false))) else none
  | _ => none
 | .o, .cond (.tmp t) x y, _, k, s => match s.env t with
  | .b c => bif Nat.blt t s.nt then (bif c then runC T nt lo .o x k (s.put (some t) (.b true)) else runC T nt lo .o y k (s.put (some t) (.b false))) else none
  | _ => none
 | .cond a b, .cond (.const (.bool c)) x y, _, k, s => bif c then runC T nt lo a x k s else runC T nt lo b y k s
 | .o, .cond (.const (.bool c)) x y, _, k, s => bif c then runC T nt lo .o x k s else runC T nt lo .o y k s
 | .block a, .block id x, _, k, s => runC T nt lo a x (inK id k) s
 | .o, .block id x, _, k, s => runC T nt lo .o x (inK id k) s
 | .loop sh ex a, .loop x, _, k, s => meetO nt lo s sh fun y0 =>
   callB (whileO (fun y => runC T nt lo a x (roundK nt lo sh ex) (mkS nt lo sh y.1 y.2)) y0) fun z => onExit nt lo k ex z
 | _, _, _, _, _ => none
def Down (Q : Exit -> ESt -> Prop) : Prop := ∀ e s s', WeakT s s' -> Q e s' -> Q e s
theorem runC_ok (T : List (Ctr P)) [Tys P] [TyE P] [TyX P] [Mixed P] (nt lo : Nat) : ∀ (c : Code) (a : Ann) {ρ : Type} (k : Exit -> ESt -> Option ρ) (s : ESt) (res : ρ) (Q : Exit -> ESt -> Prop), Down Q -> (∀ e s', k e s' = some res -> Q e s') -> runC T nt lo a c k s = some res -> SCT P c Q s
 | .skip, a, ρ, k, s, res, Q, hQ, hk, h => by
  have h : k .normal s = some res := by cases a <;> exact h
  exact ⟨SC.skip ⟨s, rfl, hk _ _ h⟩⟩
 | .exit id, a, ρ, k, s, res, Q, hQ, hk, h => by
  have h : k (.exit id) s = some res := by cases a <;> exact h
  exact ⟨SC.exit ⟨s, rfl, hk _ _ h⟩⟩
 | .ret, a, ρ, k, s, res, Q, hQ, hk, h => by
  have h : k .ret s = some res := by cases a <;> exact h
  exact ⟨SC.ret ⟨s, rfl, hk _ _ h⟩⟩
 | .region id A draw, a, ρ, k, s, res, Q, hQ, hk, h => by
  have h : runReg a.wr T A draw (k .normal) s = some res := by cases a <;> exact h
  exact runReg_ok (fun s' => hk _ _) h
 | .seq x y, a, ρ, k, s, res, Q, hQ, hk, h => by
  have key : ∀ a b, runC T nt lo a x (thenK (runC T nt lo b y k) k) s = some res -> SCT P (.seq x y) Q s := fun a b h => by
   refine SCT.seq' (runC_ok T nt lo x a (thenK (runC T nt lo b y k) k) s res _ (fun e s s' w q => ?_) (fun e s' q => ?_) h)
   ·cases e <;> first | exact SCT.weak w q | exact hQ _ _ _ w q
   ·cases e <;> first | exact runC_ok T nt lo y b k s' res Q hQ hk q | exact hk _ _ q
  cases a with
  | o => exact key _ _ h
  | seq a b => exact key _ _ h
  | join sh a b =>
   have h : runC T nt lo a x (thenK (fun s' => meetO nt lo s' sh (fun z : sh.D => runC T nt lo b y k (mkS nt lo sh z.1 z.2))) k) s = some res := h
   refine SCT.seq' (runC_ok T nt lo x a _ s res _ (fun e s s' w q => ?_) (fun e s' q => ?_) h)
   ·cases e <;> first | exact SCT.weak w q | exact hQ _ _ _ w q
   ·cases e <;> first | (obtain ⟨z, w, q⟩ := meetO_out q; exact SCT.weak w (runC_ok T nt lo y b k _ res Q hQ hk q)) | exact hk _ _ q
  | _ => cases h
 | .cond (.tmp t) x y, a, ρ, k, s, res, Q, hQ, hk, h => by
  have key : ∀ a b, (match s.env t with
   | .b c => bif Nat.blt t s.nt then (bif c then runC T nt lo a x k (s.put (some t) (.b true)) else runC T nt lo b y k (s.put (some t) (.b false))) else none
   | _ => none) = some res -> SCT P (.cond (.tmp t) x y) Q s := fun a b h => by
   split at h
   ·rename_i c hc
    have hb := envT hc
    simp only [toV] at hb
    have hh := bif_none h
    clear h
    obtain ⟨hlt, h⟩ := hh
    obtain ⟨h1, h2⟩ := bifs h
    refine ⟨SC.cond (b := c) hb (fun e => ?_) (fun e => ?_)⟩
    ·have := (runC_ok T nt lo x a k _ res Q hQ hk (h1 e)).out
     rw [toSt_put] at this
     rwa [St.know (by rw [hb, e]; simp only [toV]) hlt] at this
    ·have := (runC_ok T nt lo y b k _ res Q hQ hk (h2 e)).out
     rw [toSt_put] at this
     rwa [St.know (by rw [hb, e]; simp only [toV]) hlt] at this
   ·cases h
  cases a with
  | o => exact key _ _ h
  | cond a b => exact key _ _ h
  | _ => cases h
 | .block id x, a, ρ, k, s, res, Q, hQ, hk, h => by
  have key : ∀ a, runC T nt lo a x (inK id k) s = some res -> SCT P (.block id x) Q s := fun a h => by
   refine SCT.block (runC_ok T nt lo x a (inK id k) s res _ (fun e s s' w q => ?_) (fun e s' q => ?_) h)
   ·cases e with
    | exit id' =>
     simp only [inT] at q ⊢
     cases hb : Nat.beq id' id <;> rw [hb] at q <;> exact hQ _ _ _ w q
    | _ => exact hQ _ _ _ w q
   ·cases e with
    | exit id' =>
     simp only [inT, inK] at q ⊢
     cases hb : Nat.beq id' id <;> rw [hb] at q <;> exact hk _ _ q
    | _ => exact hk _ _ q
  cases a with
  | o => exact key _ h
  | block a => exact key _ h
  | _ => cases h
 | .loop x, a, ρ, k, s, res, Q, hQ, hk, h => by
  cases a with
  | loop sh ex a =>
   have h : (meetO nt lo s sh fun y0 =>
    callB (whileO (fun y => runC T nt lo a x (roundK nt lo sh ex) (mkS nt lo sh y.1 y.2)) y0) fun z => onExit nt lo k ex z) = some res := h
   obtain ⟨y0, w0, h⟩ := meetO_out h
   obtain ⟨z, hz, h⟩ := callB_out h
   obtain ⟨n, hn⟩ := whileO_iff.1 hz
   refine SCT.weak w0 (SCT.loop fun J hW hJ => ?_)
   have main : ∀ n y, iterO (fun y : sh.D => runC T nt lo a x (roundK nt lo sh ex) (mkS nt lo sh y.1 y.2)) n y = some z -> J (mkS nt lo sh y.1 y.2) := by
    intro n
    induction n with
    | zero => intro y hy; cases hy
    | succ n ih =>
     intro y hy
     simp only [iterO] at hy
     split at hy
     ·rename_i y' hf
      refine hJ _ (runC_ok T nt lo x a _ _ _ _ (fun e s s' w q => ?_) (fun e s' q => ?_) hf)
      ·cases e <;> first | exact hW _ _ w q | exact hQ _ _ _ w q
      ·have no : ∀ e, exitO nt lo s' e ex (fun z => some (Sum.inr z : sh.D ⊕ ExD ex)) = some (.inl y') -> False := fun e q => by
        obtain ⟨z, q, _⟩ := exitO_out (ρ := ρ) (k := k) q
        cases q
       cases e <;> first
        | (obtain ⟨z, w, q⟩ := meetO_out q; injection q with q; injection q with q; subst q; exact hW _ _ w (ih _ hy))
        | exact (no _ q).elim
     ·rename_i z' hf
      injection hy with hy
      subst hy
      refine hJ _ (runC_ok T nt lo x a _ _ _ _ (fun e s s' w q => ?_) (fun e s' q => ?_) hf)
      ·cases e <;> first | exact hW _ _ w q | exact hQ _ _ _ w q
      ·have yes : ∀ e, exitO nt lo s' e ex (fun z => some (Sum.inr z : sh.D ⊕ ExD ex)) = some (.inr z') -> Q e s' := fun e q => by
        obtain ⟨z, q, s1, w, q2⟩ := exitO_out (ρ := ρ) (k := k) q
        injection q with q; injection q with q; subst q
        exact hQ _ _ _ w (hk _ _ (q2 _ h))
       cases e <;> first
        | (obtain ⟨z, w, q⟩ := meetO_out q; cases q; done)
        | exact yes _ q
     ·cases hy
   exact main n y0 hn
  | _ => cases h
 | .cond (.const v) x y, a, ρ, k, s, res, Q, hQ, hk, h => by
  have key : ∀ a b c, v = .bool c -> (bif c then runC T nt lo a x k s else runC T nt lo b y k s) = some res -> SCT P (.cond (.const v) x y) Q s := fun a b c hv g => by
   clear h
   subst hv
   have hb : (toSt s).eval (.const (.bool c)) = .t (.bool c) := rfl
   refine ⟨SC.cond (b := c) hb (fun e => ?_) (fun e => ?_)⟩
   ·subst e; exact (runC_ok T nt lo x a k _ res Q hQ hk g).out
   ·subst e; exact (runC_ok T nt lo y b k _ res Q hQ hk g).out
  cases v with
  | bool c =>
   cases a with
   | o => exact key .o .o c rfl h
   | cond a b => exact key a b c rfl h
   | _ => cases h
  | _ => cases a <;> cases h
 | .cond (.global _) x y, a, ρ, k, s, res, Q, hQ, hk, h => by cases a <;> cases h
 | .cond (.func _) x y, a, ρ, k, s, res, Q, hQ, hk, h => by cases a <;> cases h
 | .rangeFunc _ _ _ _, a, ρ, k, s, res, Q, hQ, hk, h => by cases a <;> cases h
 | .scope _, a, ρ, k, s, res, Q, hQ, hk, h => by cases a <;> cases h
 | .label _, a, ρ, k, s, res, Q, hQ, hk, h => by cases a <;> cases h
 | .goto _, a, ρ, k, s, res, Q, hQ, hk, h => by cases a <;> cases h
 | .refuse _, a, ρ, k, s, res, Q, hQ, hk, h => by cases a <;> cases h
end
end
end Go.Abs
namespace Go.Abs
open Go
noncomputable section
variable {P : Program} {ρ : Type}
section
variable [SU] [Codes] [Dats] [FFs]
def valR (P : Program) [Tys P] (s : ESt) : ResultVar -> (EV -> Option ρ) -> Option ρ
 | .tmp t, K => fE (s.env t) K
 | .cell ad t, K => runLoad (P := P) s.heap t (s.env ad) K
def valsR (P : Program) [Tys P] (s : ESt) : List ResultVar -> (List EV -> Option ρ) -> Option ρ
 | [], K => K []
 | r :: l, K => valR P s r fun u => valsR P s l fun us => K (u :: us)
theorem valR_ok [Tys P] {s : ESt} {rv : ResultVar} {K : EV -> Option ρ} {res : ρ} (h : valR P s rv K = some res) : ∃ u, RV P (toSt s) rv (toV s.heap.len u) /\ K u = some res := by
 cases rv with
 | tmp t =>
  simp only [valR, fE_eq] at h
  exact ⟨_, RV.tmp t, h⟩
 | cell ad t =>
  obtain ⟨u, h1, h2⟩ := runLoad_ok (a := .tmp ad) h
  refine ⟨u, fun E ι F a w r => ?_, h2⟩
  obtain ⟨v, h3, h4⟩ := h1 none t E ι F a w r
  refine ⟨v, ?_, h4⟩
  have e : a.eval (.tmp ad) = a.tmps.getD ad undef := rfl
  simp only [execOp, GOp.oper, e, Instr.loadAt] at h3
  simp only [rvSem]
  generalize a.tmps.getD ad undef = x at h3 ⊢
  have bad : ∀ m : String, ((Instr.sureAddr x >>= loadVar t) >>= fun y => (Pure.pure (Next.value y) : Sem Next)).run P w = .ok (.value v) w -> (Instr.sureAddr x = stuck m) -> False := fun m h e => by
   rw [e] at h
   simp [Sem.run_bind, stuck] at h
  cases x with
  | pointer o =>
   cases o with
   | none => exact (bad _ h3 rfl).elim
   | some ad' =>
    simp only [Instr.sureAddr, asAddr, Sem.run_bind, Sem.run_pure, Result.andThen_ok] at h3 ⊢
    cases hl : (loadVar t ad').run P w with
    | ok c w' =>
     rw [hl] at h3
     simp only [Result.andThen_ok] at h3
     injection h3 with h5 h6
     injection h5 with h5
     subst h5; subst h6
     rfl
    | halt x w' => rw [hl] at h3; cases h3
  | _ => exact (bad _ h3 rfl).elim
theorem valsR_ok [Tys P] {s : ESt} : ∀ {l : List ResultVar} {K : List EV -> Option ρ} {res : ρ}, valsR P s l K = some res -> ∃ us, K us = some res /\ ∀ E ι F a w, Rel E ι F (toSt s) a w -> ∃ cs : List Value, (l.mapM (rvSem a.tmps)).run P w = .ok cs w /\ cs.length = us.length /\ ∀ j, j < us.length -> ∃ c, cs[j]? = some c /\ VRel (toH s.heap) ι F w (toV s.heap.len (nthE us j)) c
 | [], K, res, h => ⟨[], h, fun E ι F a w r => ⟨[], rfl, rfl, fun j hj => absurd hj (Nat.not_lt_zero _)⟩⟩
 | rv :: l, K, res, h => by
  obtain ⟨u, h1, h⟩ := valR_ok h
  obtain ⟨us, h, h2⟩ := valsR_ok (l := l) h
  refine ⟨u :: us, h, fun E ι F a w r => ?_⟩
  obtain ⟨c, c1, c2⟩ := h1 E ι F a w r
  obtain ⟨cs, c3, c4, c5⟩ := h2 E ι F a w r
  refine ⟨c :: cs, by simp [List.mapM_cons, c1, c3], by simp [c4], fun j hj => ?_⟩
  cases j with
  | zero => exact ⟨c, rfl, c2⟩
  | succ j => obtain ⟨c', d1, d2⟩ := c5 j (by simpa using hj); exact ⟨c', by simpa using d1, d2⟩
def oneR : List EV -> EV
 | [u] => u
 | l => .tup l
def wantF : Sh -> EV -> List Nat
 | .fz _, .sfull k [] => [k]
 | .st _, .agg m => rootsOf (.agg m)
 | .agg l, .agg m => wantFs l m
 | .tup l, .tup m => wantFs l m
 | _, _ => []
where wantFs : List Sh -> List EV -> List Nat
 | a :: l, u :: m => wantF a u ++ wantFs l m
 | _, _ => []
def endS (s : ESt) (u : EV) : ESt := ⟨1, nthE [u], s.heap⟩
def retO (P : Program) [Tys P] (rs : List ResultVar) (lo : Nat) (rv : Sh) (ro : List OSh) (s : ESt) : Option (rv.D × DO ro) :=
 valsR P s rs fun us => frzAll (endS s (oneR us)) (fun s' => meetO 1 lo s' ⟨[(0, rv)], ro⟩ (fun z => some (z.1.1, z.2))) (wantF rv (oneR us))
def retK (P : Program) [Tys P] (rs : List ResultVar) (lo : Nat) (rv : Sh) (ro : List OSh) : Exit -> ESt -> Option (rv.D × DO ro)
 | .ret, s => retO P rs lo rv ro s
 | .normal, s => retO P rs lo rv ro s
 | _, _ => none
structure EndOk (P : Program) (fn : Func) (lo : Nat) (rv : Sh) (ro : List OSh) (res : rv.D × DO ro) (s : ESt) : Prop where
 out : ∀ E ι F a w, Rel E ι F (toSt s) a w -> ∃ c ι' F', (results fn a.tmps).run P w = .ok c w /\ RelH E ι' F' (toH (mkH lo ro res.2)) w /\ VRel (toH (mkH lo ro res.2)) ι' F' w (toV (mkH lo ro res.2).len (mkE rv res.1)) c
theorem EndOk.weak {fn : Func} {lo : Nat} {rv : Sh} {ro : List OSh} {res : rv.D × DO ro} {s s' : ESt} (w : WeakT s s') (h : EndOk P fn lo rv ro res s') : EndOk P fn lo rv ro res s :=
 ⟨fun E ι F a w' r => by obtain ⟨ι', F', r'⟩ := w E ι F a w' r; exact h.out E ι' F' a w' r'⟩
theorem retO_ok [Tys P] {fn : Func} {lo : Nat} {rv : Sh} {ro : List OSh} {res : rv.D × DO ro} {s : ESt} (h : retO P fn.results.toList lo rv ro s = some res) : EndOk P fn lo rv ro res s := by
 obtain ⟨us, h, hu⟩ := valsR_ok h
 obtain ⟨s', w, h⟩ := frzAll_out _ _ h
 obtain ⟨z, w2, h⟩ := meetO_out h
 injection h with h
 subst h
 refine ⟨fun E ι F a w' r => ?_⟩
 obtain ⟨cs, c1, c2, c3⟩ := hu E ι F a w' r
 have hc : ∃ c, (results fn a.tmps).run P w' = .ok c w' /\ VRel (toH s.heap) ι F w' (toV s.heap.len (oneR us)) c := by
  rw [results_eq]
  have e : (fn.results.mapM (rvSem a.tmps)).run P w' = .ok cs.toArray w' := by
   rw [Array.mapM_eq_mapM_toList, Sem.run_map, c1]; rfl
  rw [Sem.run_bind, e]
  simp only [Result.andThen_ok]
  have tupR : ∀ us : List EV, us.length ≠ 1 -> cs.length = us.length -> (∀ j, j < us.length -> ∃ c, cs[j]? = some c /\ VRel (toH s.heap) ι F w' (toV s.heap.len (nthE us j)) c) ->
    ∃ c, (Pure.pure (if h : cs.toArray.size = 1 then cs.toArray[0] else .tuple cs.toArray) : Sem Value).run P w' = .ok c w' /\ VRel (toH s.heap) ι F w' (toV s.heap.len (.tup us)) c := fun us h1 h2 h3 => by
   rw [dif_neg (by simpa [h2] using h1)]
   refine ⟨_, rfl, ?_⟩
   simp only [toV]
   exact ⟨cs.toArray, rfl, by simpa using h2, fun j hj => by obtain ⟨c, q1, q2⟩ := h3 j hj; exact ⟨c, by simpa using q1, by rw [<- nthE_eq]; exact q2⟩⟩
  match us, c2, c3 with
  | [], c2, c3 => exact tupR [] (by simp) c2 c3
  | [u], c2, c3 =>
   obtain ⟨c, q1, q2⟩ := c3 0 (by simp)
   refine ⟨c, ?_, q2⟩
   have : cs = [c] := by
    match cs, c2, q1 with
    | [x], _, q1 => simpa using q1
   subst this
   rfl
  | u :: v :: l, c2, c3 => exact tupR _ (by simp) c2 c3
 obtain ⟨c, k1, k2⟩ := hc
 have r1 : Rel E ι F (toSt (endS s (oneR us))) { tmps := #[c], defers := [] } w' := ⟨r.h, fun t => by
  cases t with
  | zero => exact k2
  | succ t => exact trivial, rfl, rfl⟩
 obtain ⟨ι1, F1, r2⟩ := w _ _ _ _ _ r1
 obtain ⟨ι2, F2, r3⟩ := w2 _ _ _ _ _ r2
 exact ⟨c, ι2, F2, k1, r3.h, r3.env 0⟩
noncomputable def runF (T : List (Ctr P)) [Tys P] [TyE P] [TyX P] (fn : Func) (a : Ann) (ar : List (Nat × Sh)) (os : List OSh) (rv : Sh) (ro : List OSh) (x : DT ar) (y : DO os) : Option (rv.D × DO ro) :=
 bif Nat.ble ar.length fn.ntmps then (match fn.body with
  | some c => runC T fn.ntmps os.length a c (retK P fn.results.toList os.length rv ro) ⟨fn.ntmps, nthE (mkArgs ar x), mkH os.length os y⟩
  | none => none) else none
theorem CT.of {T : List (Ctr P)} [Tys P] [TyE P] [TyX P] [Mixed P] {f : FuncId} {fn : Func} {a : Ann} {ar : List (Nat × Sh)} {os : List OSh} {rv : Sh} {ro : List OSh} {x : DT ar} {y : DO os} {r : rv.D × DO ro} (hf : P.funcs[f]? = some fn)
  (h : runF T fn a ar os rv ro x y = some r) : CT P f (mkArgs ar x) (mkH os.length os y) (fun v H' => v = mkE rv r.1 /\ H' = mkH os.length ro r.2) := by
 unfold runF at h
 have hh := bif_none h
 clear h
 obtain ⟨hle, h⟩ := hh
 have hle := Nat.le_of_ble_eq_true hle
 split at h
 ·rename_i c hb
  have hs := (runC_ok T fn.ntmps os.length c a _ _ r (fun e s => (e = .ret \/ e = .normal) /\ EndOk P fn os.length rv ro r s) (fun e s s' w q => ⟨q.1, q.2.weak w⟩) (fun e s' q => by
   cases e <;> first | exact ⟨.inl rfl, retO_ok q⟩ | exact ⟨.inr rfl, retO_ok q⟩ | cases q) h).out
  refine ⟨fun E ι F w cargs r0 hl ha => calls_of_wp hf hb ?_⟩
  have r1 : Rel E ι F (toSt ⟨fn.ntmps, nthE (mkArgs ar x), mkH os.length os y⟩) { tmps := cargs ++ Array.replicate (fn.ntmps - cargs.size) undef, defers := [] } w := by
   have hl' : (mkArgs ar x).length = ar.length := mkArgs_len _ _
   refine ⟨r0, fun t => ?_, ?_, rfl⟩
   ·show VRel _ ι F w (toV _ (nthE (mkArgs ar x) t)) ((cargs ++ Array.replicate (fn.ntmps - cargs.size) undef).getD t undef)
    by_cases ht : t < (mkArgs ar x).length
    ·have e : (cargs ++ Array.replicate (fn.ntmps - cargs.size) undef).getD t undef = cargs.getD t undef := by
      rw [Array.getD_eq_getD_getElem?, Array.getElem?_append_left (by omega), Array.getD_eq_getD_getElem?]
     rw [e]; exact ha t ht
    ·have : ∀ (l : List EV) (t : Nat), l.length <= t -> nthE l t = .un := by
      intro l
      induction l with
      | nil => intro t _; rfl
      | cons a l ih => intro t ht; cases t with
       | zero => simp at ht
       | succ t => exact ih t (by simpa using ht)
     rw [this _ _ (Nat.le_of_not_lt ht)]
     simp only [toV]; exact trivial
   ·show (cargs ++ Array.replicate (fn.ntmps - cargs.size) undef).size = fn.ntmps
    simp; omega
  have fin : ∀ e a w', (e = .ret \/ e = .normal) -> conc E (liftQ (fun e s => (e = .ret \/ e = .normal) /\ EndOk P fn os.length rv ro r s)) e a w' -> ∃ st : St, a.defers = [] /\ ∃ c, (results fn a.tmps).run P w' = .ok c w' /\ ∃ ι' F', RelH E ι' F' (toH (mkH os.length ro r.2)) w' /\ VRel (toH (mkH os.length ro r.2)) ι' F' w' (toV (mkH os.length ro r.2).len (mkE rv r.1)) c := fun e a w' he hc => by
   have : ∃ ι F st, Rel E ι F st a w' /\ liftQ (fun e s => (e = .ret \/ e = .normal) /\ EndOk P fn os.length rv ro r s) e st := by
    rcases he with rfl | rfl <;> exact hc
   obtain ⟨ι, F, st, rr, s, rfl, _, ho⟩ := this
   obtain ⟨c, ι', F', k1, k2, k3⟩ := ho.out E ι F a w' rr
   exact ⟨toSt s, rr.defers, c, k1, ι', F', k2, k3⟩
  refine wp_mono (hs.out E ι F _ w r1) fun e a w' hc => ?_
  cases e with
  | ret =>
   obtain ⟨_, d, c, k1, ι', F', k2, k3⟩ := fin _ _ _ (.inl rfl) hc
   exact ⟨d, c, k1, mkE rv r.1, ι', F', mkH os.length ro r.2, c, rfl, k2, k3, rfl, rfl⟩
  | normal =>
   obtain ⟨_, d, c, k1, ι', F', k2, k3⟩ := fin _ _ _ (.inr rfl) hc
   exact ⟨d, c, k1, mkE rv r.1, ι', F', mkH os.length ro r.2, c, rfl, k2, k3, rfl, rfl⟩
  | exit id => obtain ⟨ι, F, st, r, s, rfl, h, _⟩ := hc; rcases h with h | h <;> cases h
  | goto l => obtain ⟨ι, F, st, r, s, rfl, h, _⟩ := hc; rcases h with h | h <;> cases h
  | panic c => exact hc.elim
  | outgrown => exact hc.elim
 ·cases h
end
end
end Go.Abs
namespace Go.Abs
open Go
noncomputable section
section
variable [SU] [Codes] [Dats] [FFs] {P : Program}
def mkCtr [Tys P] [TyE P] [TyX P] [Mixed P] (f : FuncId) [k : FnOk P f] (fn : Func) (hf : P.funcs[f]? = some fn) (T : List (Ctr P)) (a : Ann) (ar : List (Nat × Sh)) (os : List OSh) (rv : Sh) (ro : List OSh)
  (F : DT ar -> DO os -> Option (rv.D × DO ro)) (h : ∀ x y r, F x y = some r -> runF T fn a ar os rv ro x y = some r) : Ctr P :=
 ⟨f, k, ar, os, rv, ro, F, fun x y r e => CT.of hf (h x y r e)⟩
end
section
variable {ρ α : Type}
theorem grd_of {b : Bool} {x : Option ρ} (h : b = true) : grd b x = x := by rw [h]; rfl
@[simp] theorem grd_true {x : Option ρ} : grd true x = x := rfl
theorem grd_dec {p : Prop} {x : Option ρ} (h : p) : grd (okB p) x = x := grd_of (okB_of h)
theorem grd_blt {a b : Nat} {x : Option ρ} (h : a < b) : grd (Nat.blt a b) x = x := grd_of (by simpa using h)
@[simp] theorem callB_some {y : α} {K : α -> Option ρ} : callB (some y) K = K y := rfl
@[simp] theorem callB_grd {b : Bool} {x : Option α} {K : α -> Option ρ} : callB (grd b x) K = grd b (callB x K) := by cases b <;> rfl
@[simp] theorem jpO_eq {f : α -> Option ρ} {g : (α -> Option ρ) -> Option ρ} : jpO f g = g f := rfl
@[simp] theorem bif_decide {p : Prop} [Decidable p] {β : Type} {x y : β} : (bif decide p then x else y) = if p then x else y := by by_cases h : p <;> simp [h]
theorem bif_not {b : Bool} {β : Type} {x y : β} : (bif !b then x else y) = bif b then y else x := by cases b <;> rfl
theorem getD_ok {β : Type} {by_ : Nat} {ok : β -> Prop} {l : List β} (h : All by_ ok l) (d : β) {i : Nat} (hi : i < l.length) : ok (l.getD i d) := by
 have := h.2 l[i] (List.getElem_mem hi)
 simpa [List.getD_eq_getElem?_getD, hi] using this
theorem callB_of {x : Option α} {y : α} {K : α -> Option ρ} {r : Option ρ} (h : x = some y) (k : K y = r) : callB x K = r := by rw [h]; exact k
section
variable {D X : Type} {f : D -> Option (D ⊕ X)} {st : Nat -> D}
theorem whileO_for {X0 : X} {y0 : D} (hy : y0 = st 0) (n : Nat) (G : Nat -> Prop) (h0 : G 0) (hs : ∀ i, i < n -> G i -> (f (st i) = some (.inl (st (i + 1))) /\ G (i + 1)) \/ f (st i) = some (.inr X0)) (he : G n -> f (st n) = some (.inr X0)) : whileO f y0 = some X0 := by
 subst hy
 have key : ∀ k i, i + k = n -> G i -> whileO f (st i) = some X0 := by
  intro k
  induction k with
  | zero => intro i hi hg; rw [whileO_eq, show i = n by omega, he (by rw [show n = i by omega]; exact hg)]
  | succ k ih =>
   intro i hi hg
   rw [whileO_eq]
   rcases hs i (by omega) hg with ⟨h1, h2⟩ | h1
   ·rw [h1]; exact ih (i + 1) (by omega) h2
   ·rw [h1]
 exact key n 0 (by omega) h0
theorem whileO_all {β : Type} {l : List β} {y0 : D} (hy : y0 = st 0) (z : β) (p : β -> Bool) {A B : X} (h1 : ∀ i, i < l.length -> p (l.getD i z) = true -> f (st i) = some (.inl (st (i + 1)))) (h2 : ∀ i, i < l.length -> p (l.getD i z) = false -> f (st i) = some (.inr B))
  (h3 : l.all p = true -> f (st l.length) = some (.inr A)) : whileO f y0 = some (if l.all p then A else B) := by
 refine whileO_for hy l.length (fun i => ∀ j, j < i -> p (l.getD j z) = true) (fun j hj => absurd hj (Nat.not_lt_zero _)) (fun i hi hg => ?_) (fun hg => ?_)
 ·cases hp : p (l.getD i z) with
  | true =>
   refine .inl ⟨h1 i hi hp, fun j hj => ?_⟩
   by_cases e : j = i
   ·rw [e]; exact hp
   ·exact hg j (by omega)
  | false =>
   right
   have : l.all p = false := by
    rw [List.all_eq_false]
    refine ⟨l[i], List.getElem_mem hi, ?_⟩
    have e : l.getD i z = l[i] := by simp [List.getD_eq_getElem?_getD, hi]
    rw [<- e, hp]; simp
   rw [this]
   exact h2 i hi hp
 ·have : l.all p = true := by
   rw [List.all_eq_true]
   intro x hx
   obtain ⟨i, hi, rfl⟩ := List.getElem_of_mem hx
   have e : l.getD i z = l[i] := by simp [List.getD_eq_getElem?_getD, hi]
   rw [<- e]; exact hg i hi
  rw [h3 this, this]; rfl
theorem whileO_to {X0 : X} {y0 : D} (hy : y0 = st 0) (n : Nat) (h1 : ∀ i, i < n -> f (st i) = some (.inl (st (i + 1)))) (h2 : f (st n) = some (.inr X0)) : whileO f y0 = some X0 :=
 whileO_for hy n (fun _ => True) trivial (fun i hi _ => .inl ⟨h1 i hi, trivial⟩) (fun _ => h2)
end
theorem grd_ok {p : Prop} {x : Option ρ} (h : p) : grd (okB p) x = x := grd_of (okB_of h)
theorem FE {run go : Option ρ} {s r : ρ} (hr : run = go) (ok : go = some s) (h : some s = some r) : run = some r := by rw [hr, ok, h]
theorem FO {p : Prop} {run go : Option ρ} {s r : ρ} (hr : run = go) (ok : p -> go = some s) (h : grd (okB p) (some s) = some r) : run = some r := by
 cases hb : okB p with
 | false => rw [hb] at h; cases h
 | true =>
  rw [hb] at h
  rw [hr, ok (okB_out hb)]
  exact h
theorem lenVal : LEN = 281474976710656 := rfl
@[simp] theorem sumO_inl {A B : Type} {f : A -> Option ρ} {g : B -> Option ρ} {a : A} : sumO f g (.inl a) = f a := rfl
@[simp] theorem sumO_inr {A B : Type} {f : A -> Option ρ} {g : B -> Option ρ} {b : B} : sumO f g (.inr b) = g b := rfl
end
end
noncomputable section
theorem gsA : type_of% (And.intro @grd_dec (And.intro @grd_blt (And.intro @grd_true (And.intro @jpO_eq (And.intro @shO_eq (And.intro @callB_some (And.intro @callB_grd (And.intro @bif_decide (And.intro @sumO_inl (And.intro @sumO_inr (And.intro @if_pos.{1} (And.intro @if_neg.{1} (And.intro @cond_true.{1} (And.intro @cond_false.{1} (And.intro @bif_not (And.intro @if_true.{1} @if_false.{1})))))))))))))))) := And.intro @grd_dec (And.intro @grd_blt (And.intro @grd_true (And.intro @jpO_eq (And.intro @shO_eq (And.intro @callB_some (And.intro @callB_grd (And.intro @bif_decide (And.intro @sumO_inl (And.intro @sumO_inr (And.intro @if_pos.{1} (And.intro @if_neg.{1} (And.intro @cond_true.{1} (And.intro @cond_false.{1} (And.intro @bif_not (And.intro @if_true.{1} @if_false.{1})))))))))))))))
theorem gsB : type_of% (And.intro @Int.toNat_natCast (And.intro @Bool.not_true (And.intro @Bool.not_false (And.intro @decide_true (And.intro @decide_false (And.intro @Bool.false_eq_true (And.intro @Int.natCast_add (And.intro @Int.cast_ofNat_Int (And.intro @Bool.not_eq_true' (And.intro @decide_eq_false_iff_not (And.intro @not_true_eq_false @not_false_eq_true))))))))))) := And.intro @Int.toNat_natCast (And.intro @Bool.not_true (And.intro @Bool.not_false (And.intro @decide_true (And.intro @decide_false (And.intro @Bool.false_eq_true (And.intro @Int.natCast_add (And.intro @Int.cast_ofNat_Int (And.intro @Bool.not_eq_true' (And.intro @decide_eq_false_iff_not (And.intro @not_true_eq_false @not_false_eq_true))))))))))
end
end Go.Abs
namespace Go.Abs
open Go Go.Proofs
def tyc2 : TyC := { agg := false, sz := 1, desc := some (.int .i64), zero := some (.int .i64 0) }
theorem tyc2_ok : TyC.Ok Try.prog 2 tyc2 := ⟨(fun h => inferInstance), (fun f off a s h => by cases h), (fun e s b h => by cases h), (fun x h => by cases h; infer_instance), (fun v h => by cases h; infer_instance)⟩
def tyc3 : TyC := { agg := false, sz := 1, desc := some (.int .i64), zero := some (.int .i64 0) }
theorem tyc3_ok : TyC.Ok Try.prog 3 tyc3 := ⟨(fun h => inferInstance), (fun f off a s h => by cases h), (fun e s b h => by cases h), (fun x h => by cases h; infer_instance), (fun v h => by cases h; infer_instance)⟩
def tyc4 : TyC := { agg := false, sz := 1, desc := some .bool, zero := some (.bool false) }
theorem tyc4_ok : TyC.Ok Try.prog 4 tyc4 := ⟨(fun h => inferInstance), (fun f off a s h => by cases h), (fun e s b h => by cases h), (fun x h => by cases h; infer_instance), (fun v h => by cases h; infer_instance)⟩
def tyc5 : TyC := { agg := false, sz := 1, desc := some (.int .u8), zero := some (.int .u8 0) }
theorem tyc5_ok : TyC.Ok Try.prog 5 tyc5 := ⟨(fun h => inferInstance), (fun f off a s h => by cases h), (fun e s b h => by cases h), (fun x h => by cases h; infer_instance), (fun v h => by cases h; infer_instance)⟩
def tyc9 : TyC := { agg := false, sz := 1, desc := some .string, zero := some (.string ByteArray.empty) }
theorem tyc9_ok : TyC.Ok Try.prog 9 tyc9 := ⟨(fun h => inferInstance), (fun f off a s h => by cases h), (fun e s b h => by cases h), (fun x h => by cases h; infer_instance), (fun v h => by cases h; infer_instance)⟩
def tyc23 : TyC := { agg := false, sz := 1, zero := some (.nilFunc) }
theorem tyc23_ok : TyC.Ok Try.prog 23 tyc23 := ⟨(fun h => inferInstance), (fun f off a s h => by cases h), (fun e s b h => by cases h), (fun x h => by cases h), (fun v h => by cases h; infer_instance)⟩
def tyc24 : TyC := { agg := false, sz := 1, zero := some (.nilFunc) }
theorem tyc24_ok : TyC.Ok Try.prog 24 tyc24 := ⟨(fun h => inferInstance), (fun f off a s h => by cases h), (fun e s b h => by cases h), (fun x h => by cases h), (fun v h => by cases h; infer_instance)⟩
def tyc25 : TyC := { agg := false, sz := 1, sl := some (3, 1, 8), zero := some (.slice none 0 0) }
theorem tyc25_ok : TyC.Ok Try.prog 25 tyc25 := ⟨(fun h => inferInstance), (fun f off a s h => by cases h), (fun e s b h => by cases h; infer_instance), (fun x h => by cases h), (fun v h => by cases h; infer_instance)⟩
def tyc26 : TyC := { agg := false, sz := 1, sl := some (53, 5, 48), zero := some (.slice none 0 0) }
theorem tyc26_ok : TyC.Ok Try.prog 26 tyc26 := ⟨(fun h => inferInstance), (fun f off a s h => by cases h), (fun e s b h => by cases h; infer_instance), (fun x h => by cases h), (fun v h => by cases h; infer_instance)⟩
def tyc27 : TyC := { agg := false, sz := 1, sl := some (55, 3, 32), zero := some (.slice none 0 0) }
theorem tyc27_ok : TyC.Ok Try.prog 27 tyc27 := ⟨(fun h => inferInstance), (fun f off a s h => by cases h), (fun e s b h => by cases h; infer_instance), (fun x h => by cases h), (fun v h => by cases h; infer_instance)⟩
def tyc28 : TyC := { agg := false, sz := 1, sl := some (41, 9, 136), zero := some (.slice none 0 0) }
theorem tyc28_ok : TyC.Ok Try.prog 28 tyc28 := ⟨(fun h => inferInstance), (fun f off a s h => by cases h), (fun e s b h => by cases h; infer_instance), (fun x h => by cases h), (fun v h => by cases h; infer_instance)⟩
def tyc30 : TyC := { agg := true, sz := 6, fields := [(0, false, 1), (1, false, 1), (2, false, 1), (3, false, 1), (4, false, 1), (5, false, 1)], zero := some (.agg #[.string ByteArray.empty, .slice none 0 0, .slice none 0 0, .slice none 0 0, .slice none 0 0, .slice none 0 0]) }
theorem tyc30_ok : TyC.Ok Try.prog 30 tyc30 := ⟨(fun h => inferInstance), (fldAll ⟨(inferInstance : TyField Try.prog 30 0 0 false 1), (inferInstance : TyField Try.prog 30 1 1 false 1), (inferInstance : TyField Try.prog 30 2 2 false 1), (inferInstance : TyField Try.prog 30 3 3 false 1), (inferInstance : TyField Try.prog 30 4 4 false 1), (inferInstance : TyField Try.prog 30 5 5 false 1), trivial⟩), (fun e s b h => by cases h), (fun x h => by cases h), (fun v h => by cases h; infer_instance)⟩
def tyc36 : TyC := { agg := false, sz := 1, sl := some (46, 5, 56), zero := some (.slice none 0 0) }
theorem tyc36_ok : TyC.Ok Try.prog 36 tyc36 := ⟨(fun h => inferInstance), (fun f off a s h => by cases h), (fun e s b h => by cases h; infer_instance), (fun x h => by cases h), (fun v h => by cases h; infer_instance)⟩
def tyc37 : TyC := { agg := false, sz := 1, sl := some (51, 2, 32), zero := some (.slice none 0 0) }
theorem tyc37_ok : TyC.Ok Try.prog 37 tyc37 := ⟨(fun h => inferInstance), (fun f off a s h => by cases h), (fun e s b h => by cases h; infer_instance), (fun x h => by cases h), (fun v h => by cases h; infer_instance)⟩
def tyc39 : TyC := { agg := true, sz := 4, fields := [(0, false, 1), (1, false, 1), (2, false, 1), (3, false, 1)], zero := some (.agg #[.int .i64 0, .int .i64 0, .slice none 0 0, .slice none 0 0]) }
theorem tyc39_ok : TyC.Ok Try.prog 39 tyc39 := ⟨(fun h => inferInstance), (fldAll ⟨(inferInstance : TyField Try.prog 39 0 0 false 1), (inferInstance : TyField Try.prog 39 1 1 false 1), (inferInstance : TyField Try.prog 39 2 2 false 1), (inferInstance : TyField Try.prog 39 3 3 false 1), trivial⟩), (fun e s b h => by cases h), (fun x h => by cases h), (fun v h => by cases h; infer_instance)⟩
def tyc41 : TyC := { agg := true, sz := 9, fields := [(0, false, 1), (1, false, 1), (2, true, 4), (6, false, 1), (7, false, 1), (8, false, 1)], zero := some (.agg #[.slice none 0 0, .slice none 0 0, .int .i64 0, .int .i64 0, .slice none 0 0, .slice none 0 0, .int .i64 0, .int .i64 0, .int .i64 0]) }
theorem tyc41_ok : TyC.Ok Try.prog 41 tyc41 := ⟨(fun h => inferInstance), (fldAll ⟨(inferInstance : TyField Try.prog 41 0 0 false 1), (inferInstance : TyField Try.prog 41 1 1 false 1), (inferInstance : TyField Try.prog 41 2 2 true 4), (inferInstance : TyField Try.prog 41 3 6 false 1), (inferInstance : TyField Try.prog 41 4 7 false 1), (inferInstance : TyField Try.prog 41 5 8 false 1), trivial⟩), (fun e s b h => by cases h), (fun x h => by cases h), (fun v h => by cases h; infer_instance)⟩
def tyc44 : TyC := { agg := false, sz := 1, desc := some (.int .u64), zero := some (.int .u64 0) }
theorem tyc44_ok : TyC.Ok Try.prog 44 tyc44 := ⟨(fun h => inferInstance), (fun f off a s h => by cases h), (fun e s b h => by cases h), (fun x h => by cases h; infer_instance), (fun v h => by cases h; infer_instance)⟩
def tyc46 : TyC := { agg := true, sz := 5, fields := [(0, false, 1), (1, false, 1), (2, false, 1), (3, false, 1), (4, false, 1)], zero := some (.agg #[.int .i64 0, .int .i64 0, .slice none 0 0, .int .u64 0, .int .i64 0]) }
theorem tyc46_ok : TyC.Ok Try.prog 46 tyc46 := ⟨(fun h => inferInstance), (fldAll ⟨(inferInstance : TyField Try.prog 46 0 0 false 1), (inferInstance : TyField Try.prog 46 1 1 false 1), (inferInstance : TyField Try.prog 46 2 2 false 1), (inferInstance : TyField Try.prog 46 3 3 false 1), (inferInstance : TyField Try.prog 46 4 4 false 1), trivial⟩), (fun e s b h => by cases h), (fun x h => by cases h), (fun v h => by cases h; infer_instance)⟩
def tyc51 : TyC := { agg := true, sz := 2, fields := [(0, false, 1), (1, false, 1)], zero := some (.agg #[.int .i64 0, .slice none 0 0]) }
theorem tyc51_ok : TyC.Ok Try.prog 51 tyc51 := ⟨(fun h => inferInstance), (fldAll ⟨(inferInstance : TyField Try.prog 51 0 0 false 1), (inferInstance : TyField Try.prog 51 1 1 false 1), trivial⟩), (fun e s b h => by cases h), (fun x h => by cases h), (fun v h => by cases h; infer_instance)⟩
def tyc53 : TyC := { agg := true, sz := 5, fields := [(0, false, 1), (1, false, 1), (2, false, 1), (3, false, 1), (4, false, 1)], zero := some (.agg #[.string ByteArray.empty, .int .i64 0, .int .i64 0, .int .i64 0, .int .i64 0]) }
theorem tyc53_ok : TyC.Ok Try.prog 53 tyc53 := ⟨(fun h => inferInstance), (fldAll ⟨(inferInstance : TyField Try.prog 53 0 0 false 1), (inferInstance : TyField Try.prog 53 1 1 false 1), (inferInstance : TyField Try.prog 53 2 2 false 1), (inferInstance : TyField Try.prog 53 3 3 false 1), (inferInstance : TyField Try.prog 53 4 4 false 1), trivial⟩), (fun e s b h => by cases h), (fun x h => by cases h), (fun v h => by cases h; infer_instance)⟩
def tyc55 : TyC := { agg := true, sz := 3, fields := [(0, false, 1), (1, false, 1), (2, false, 1)], zero := some (.agg #[.string ByteArray.empty, .int .i64 0, .bool false]) }
theorem tyc55_ok : TyC.Ok Try.prog 55 tyc55 := ⟨(fun h => inferInstance), (fldAll ⟨(inferInstance : TyField Try.prog 55 0 0 false 1), (inferInstance : TyField Try.prog 55 1 1 false 1), (inferInstance : TyField Try.prog 55 2 2 false 1), trivial⟩), (fun e s b h => by cases h), (fun x h => by cases h), (fun v h => by cases h; infer_instance)⟩
def tyc57 : TyC := { agg := true, sz := 2, fields := [(0, false, 1), (1, false, 1)], zero := some (.agg #[.int .i64 0, .bool false]) }
theorem tyc57_ok : TyC.Ok Try.prog 57 tyc57 := ⟨(fun h => inferInstance), (fldAll ⟨(inferInstance : TyField Try.prog 57 0 0 false 1), (inferInstance : TyField Try.prog 57 1 1 false 1), trivial⟩), (fun e s b h => by cases h), (fun x h => by cases h), (fun v h => by cases h; infer_instance)⟩
def tyc58 : TyC := { agg := true, sz := 4, zero := some (.agg #[.int .i64 0, .bool false, .int .i64 0, .bool false]) }
theorem tyc58_ok : TyC.Ok Try.prog 58 tyc58 := ⟨(fun h => inferInstance), (fun f off a s h => by cases h), (fun e s b h => by cases h), (fun x h => by cases h), (fun v h => by cases h; infer_instance)⟩
def tyc59 : TyC := { agg := true, sz := 2, zero := some (.agg #[.int .u64 0, .int .u64 0]) }
theorem tyc59_ok : TyC.Ok Try.prog 59 tyc59 := ⟨(fun h => inferInstance), (fun f off a s h => by cases h), (fun e s b h => by cases h), (fun x h => by cases h), (fun v h => by cases h; infer_instance)⟩
def tyc64 : TyC := { agg := true, sz := 2, zero := some (.agg #[.int .u8 0, .int .u8 0]) }
theorem tyc64_ok : TyC.Ok Try.prog 64 tyc64 := ⟨(fun h => inferInstance), (fun f off a s h => by cases h), (fun e s b h => by cases h), (fun x h => by cases h), (fun v h => by cases h; infer_instance)⟩
def tyc67 : TyC := { agg := false, sz := 1, sl := some (25, 1, 24), zero := some (.slice none 0 0) }
theorem tyc67_ok : TyC.Ok Try.prog 67 tyc67 := ⟨(fun h => inferInstance), (fun f off a s h => by cases h), (fun e s b h => by cases h; infer_instance), (fun x h => by cases h), (fun v h => by cases h; infer_instance)⟩
def tyc69 : TyC := { agg := false, sz := 1, sl := some (4, 1, 1), zero := some (.slice none 0 0) }
theorem tyc69_ok : TyC.Ok Try.prog 69 tyc69 := ⟨(fun h => inferInstance), (fun f off a s h => by cases h), (fun e s b h => by cases h; infer_instance), (fun x h => by cases h), (fun v h => by cases h; infer_instance)⟩
def tyc82 : TyC := { agg := false, sz := 1, zero := some (.nilFunc) }
theorem tyc82_ok : TyC.Ok Try.prog 82 tyc82 := ⟨(fun h => inferInstance), (fun f off a s h => by cases h), (fun e s b h => by cases h), (fun x h => by cases h), (fun v h => by cases h; infer_instance)⟩
def tyc91 : TyC := { agg := false, sz := 1, desc := some (.map 3 3), zero := some (.map none) }
theorem tyc91_ok : TyC.Ok Try.prog 91 tyc91 := ⟨(fun h => inferInstance), (fun f off a s h => by cases h), (fun e s b h => by cases h), (fun x h => by cases h; infer_instance), (fun v h => by cases h; infer_instance)⟩
def tyc105 : TyC := { agg := false, sz := 1, zero := some (.pointer none) }
theorem tyc105_ok : TyC.Ok Try.prog 105 tyc105 := ⟨(fun h => inferInstance), (fun f off a s h => by cases h), (fun e s b h => by cases h), (fun x h => by cases h), (fun v h => by cases h; infer_instance)⟩
def tyc107 : TyC := { agg := true, sz := 8, fields := [(0, true, 6), (6, false, 1), (7, false, 1)], zero := some (.agg #[.string ByteArray.empty, .slice none 0 0, .slice none 0 0, .slice none 0 0, .slice none 0 0, .slice none 0 0, .slice none 0 0, .slice none 0 0]) }
theorem tyc107_ok : TyC.Ok Try.prog 107 tyc107 := ⟨(fun h => inferInstance), (fldAll ⟨(inferInstance : TyField Try.prog 107 0 0 true 6), (inferInstance : TyField Try.prog 107 1 6 false 1), (inferInstance : TyField Try.prog 107 2 7 false 1), trivial⟩), (fun e s b h => by cases h), (fun x h => by cases h), (fun v h => by cases h; infer_instance)⟩
def tyc113 : TyC := { agg := false, sz := 1, sl := some (9, 1, 16), zero := some (.slice none 0 0) }
theorem tyc113_ok : TyC.Ok Try.prog 113 tyc113 := ⟨(fun h => inferInstance), (fun f off a s h => by cases h), (fun e s b h => by cases h; infer_instance), (fun x h => by cases h), (fun v h => by cases h; infer_instance)⟩
def tyc117 : TyC := { agg := false, sz := 1, zero := some (.nilFunc) }
theorem tyc117_ok : TyC.Ok Try.prog 117 tyc117 := ⟨(fun h => inferInstance), (fun f off a s h => by cases h), (fun e s b h => by cases h), (fun x h => by cases h), (fun v h => by cases h; infer_instance)⟩
def tyc119 : TyC := { agg := false, sz := 1, zero := some (.nilFunc) }
theorem tyc119_ok : TyC.Ok Try.prog 119 tyc119 := ⟨(fun h => inferInstance), (fun f off a s h => by cases h), (fun e s b h => by cases h), (fun x h => by cases h), (fun v h => by cases h; infer_instance)⟩
def tyc120 : TyC := { agg := false, sz := 1, zero := some (.nilFunc) }
theorem tyc120_ok : TyC.Ok Try.prog 120 tyc120 := ⟨(fun h => inferInstance), (fun f off a s h => by cases h), (fun e s b h => by cases h), (fun x h => by cases h), (fun v h => by cases h; infer_instance)⟩
def tyc133 : TyC := { agg := false, sz := 1, sl := some (5, 1, 1), zero := some (.slice none 0 0) }
theorem tyc133_ok : TyC.Ok Try.prog 133 tyc133 := ⟨(fun h => inferInstance), (fun f off a s h => by cases h), (fun e s b h => by cases h; infer_instance), (fun x h => by cases h), (fun v h => by cases h; infer_instance)⟩
def tyc134 : TyC := { agg := false, sz := 1, desc := some (.map 9 4), zero := some (.map none) }
theorem tyc134_ok : TyC.Ok Try.prog 134 tyc134 := ⟨(fun h => inferInstance), (fun f off a s h => by cases h), (fun e s b h => by cases h), (fun x h => by cases h; infer_instance), (fun v h => by cases h; infer_instance)⟩
def tyc137 : TyC := { agg := false, sz := 1, zero := some (.nilFunc) }
theorem tyc137_ok : TyC.Ok Try.prog 137 tyc137 := ⟨(fun h => inferInstance), (fun f off a s h => by cases h), (fun e s b h => by cases h), (fun x h => by cases h), (fun v h => by cases h; infer_instance)⟩
def tyc142 : TyC := { agg := false, sz := 1, desc := some (.int .u64), zero := some (.int .u64 0) }
theorem tyc142_ok : TyC.Ok Try.prog 142 tyc142 := ⟨(fun h => inferInstance), (fun f off a s h => by cases h), (fun e s b h => by cases h), (fun x h => by cases h; infer_instance), (fun v h => by cases h; infer_instance)⟩
def tyc144 : TyC := { agg := true, sz := 3, zero := some (.agg #[.int .i64 0, .int .i64 0, .int .i64 0]) }
theorem tyc144_ok : TyC.Ok Try.prog 144 tyc144 := ⟨(fun h => inferInstance), (fun f off a s h => by cases h), (fun e s b h => by cases h), (fun x h => by cases h), (fun v h => by cases h; infer_instance)⟩
def tyc148 : TyC := { agg := false, sz := 1, desc := some (.int .i64), zero := some (.int .i64 0) }
theorem tyc148_ok : TyC.Ok Try.prog 148 tyc148 := ⟨(fun h => inferInstance), (fun f off a s h => by cases h), (fun e s b h => by cases h), (fun x h => by cases h; infer_instance), (fun v h => by cases h; infer_instance)⟩
def tyc155 : TyC := { agg := false, sz := 1, desc := some (.int .u32), zero := some (.int .u32 0) }
theorem tyc155_ok : TyC.Ok Try.prog 155 tyc155 := ⟨(fun h => inferInstance), (fun f off a s h => by cases h), (fun e s b h => by cases h), (fun x h => by cases h; infer_instance), (fun v h => by cases h; infer_instance)⟩
def tyc157 : TyC := { agg := false, sz := 1, desc := some (.int .u64), zero := some (.int .u64 0) }
theorem tyc157_ok : TyC.Ok Try.prog 157 tyc157 := ⟨(fun h => inferInstance), (fun f off a s h => by cases h), (fun e s b h => by cases h), (fun x h => by cases h; infer_instance), (fun v h => by cases h; infer_instance)⟩
def tyc161 : TyC := { agg := false, sz := 1, zero := some (.pointer none) }
theorem tyc161_ok : TyC.Ok Try.prog 161 tyc161 := ⟨(fun h => inferInstance), (fun f off a s h => by cases h), (fun e s b h => by cases h), (fun x h => by cases h), (fun v h => by cases h; infer_instance)⟩
def tycs (t : TypeId) : TyC := (bif Nat.blt t 58 then (bif Nat.blt t 30 then (bif Nat.blt t 23 then (bif Nat.blt t 4 then (bif Nat.blt t 3 then (bif Nat.beq t 2 then tyc2 else {}) else (bif Nat.beq t 3 then tyc3 else {})) else (bif Nat.blt t 5 then (bif Nat.beq t 4 then tyc4 else {}) else (bif Nat.blt t 9 then (bif Nat.beq t 5 then tyc5 else {}) else (bif Nat.beq t 9 then tyc9 else {})))) else (bif Nat.blt t 26 then (bif Nat.blt t 24 then (bif Nat.beq t 23 then tyc23 else {}) else (bif Nat.blt t 25 then (bif Nat.beq t 24 then tyc24 else {}) else (bif Nat.beq t 25 then tyc25 else {}))) else (bif Nat.blt t 27 then (bif Nat.beq t 26 then tyc26 else {}) else (bif Nat.blt t 28 then (bif Nat.beq t 27 then tyc27 else {}) else (bif Nat.beq t 28 then tyc28 else {}))))) else (bif Nat.blt t 44 then (bif Nat.blt t 37 then (bif Nat.blt t 36 then (bif Nat.beq t 30 then tyc30 else {}) else (bif Nat.beq t 36 then tyc36 else {})) else (bif Nat.blt t 39 then (bif Nat.beq t 37 then tyc37 else {}) else (bif Nat.blt t 41 then (bif Nat.beq t 39 then tyc39 else {}) else (bif Nat.beq t 41 then tyc41 else {})))) else (bif Nat.blt t 53 then (bif Nat.blt t 46 then (bif Nat.beq t 44 then tyc44 else {}) else (bif Nat.blt t 51 then (bif Nat.beq t 46 then tyc46 else {}) else (bif Nat.beq t 51 then tyc51 else {}))) else (bif Nat.blt t 55 then (bif Nat.beq t 53 then tyc53 else {}) else (bif Nat.blt t 57 then (bif Nat.beq t 55 then tyc55 else {}) else (bif Nat.beq t 57 then tyc57 else {})))))) else (bif Nat.blt t 119 then (bif Nat.blt t 82 then (bif Nat.blt t 64 then (bif Nat.blt t 59 then (bif Nat.beq t 58 then tyc58 else {}) else (bif Nat.beq t 59 then tyc59 else {})) else (bif Nat.blt t 67 then (bif Nat.beq t 64 then tyc64 else {}) else (bif Nat.blt t 69 then (bif Nat.beq t 67 then tyc67 else {}) else (bif Nat.beq t 69 then tyc69 else {})))) else (bif Nat.blt t 107 then (bif Nat.blt t 91 then (bif Nat.beq t 82 then tyc82 else {}) else (bif Nat.blt t 105 then (bif Nat.beq t 91 then tyc91 else {}) else (bif Nat.beq t 105 then tyc105 else {}))) else (bif Nat.blt t 113 then (bif Nat.beq t 107 then tyc107 else {}) else (bif Nat.blt t 117 then (bif Nat.beq t 113 then tyc113 else {}) else (bif Nat.beq t 117 then tyc117 else {}))))) else (bif Nat.blt t 142 then (bif Nat.blt t 133 then (bif Nat.blt t 120 then (bif Nat.beq t 119 then tyc119 else {}) else (bif Nat.beq t 120 then tyc120 else {})) else (bif Nat.blt t 134 then (bif Nat.beq t 133 then tyc133 else {}) else (bif Nat.blt t 137 then (bif Nat.beq t 134 then tyc134 else {}) else (bif Nat.beq t 137 then tyc137 else {})))) else (bif Nat.blt t 155 then (bif Nat.blt t 144 then (bif Nat.beq t 142 then tyc142 else {}) else (bif Nat.blt t 148 then (bif Nat.beq t 144 then tyc144 else {}) else (bif Nat.beq t 148 then tyc148 else {}))) else (bif Nat.blt t 157 then (bif Nat.beq t 155 then tyc155 else {}) else (bif Nat.blt t 161 then (bif Nat.beq t 157 then tyc157 else {}) else (bif Nat.beq t 161 then tyc161 else {})))))))
theorem tycs_ok (t : TypeId) : TyC.Ok Try.prog t (tycs t) := (okNode (okNode (okNode (okNode (okNode (okLeaf tyc2_ok) (okLeaf tyc3_ok)) (okNode (okLeaf tyc4_ok) (okNode (okLeaf tyc5_ok) (okLeaf tyc9_ok)))) (okNode (okNode (okLeaf tyc23_ok) (okNode (okLeaf tyc24_ok) (okLeaf tyc25_ok))) (okNode (okLeaf tyc26_ok) (okNode (okLeaf tyc27_ok) (okLeaf tyc28_ok))))) (okNode (okNode (okNode (okLeaf tyc30_ok) (okLeaf tyc36_ok)) (okNode (okLeaf tyc37_ok) (okNode (okLeaf tyc39_ok) (okLeaf tyc41_ok)))) (okNode (okNode (okLeaf tyc44_ok) (okNode (okLeaf tyc46_ok) (okLeaf tyc51_ok))) (okNode (okLeaf tyc53_ok) (okNode (okLeaf tyc55_ok) (okLeaf tyc57_ok)))))) (okNode (okNode (okNode (okNode (okLeaf tyc58_ok) (okLeaf tyc59_ok)) (okNode (okLeaf tyc64_ok) (okNode (okLeaf tyc67_ok) (okLeaf tyc69_ok)))) (okNode (okNode (okLeaf tyc82_ok) (okNode (okLeaf tyc91_ok) (okLeaf tyc105_ok))) (okNode (okLeaf tyc107_ok) (okNode (okLeaf tyc113_ok) (okLeaf tyc117_ok))))) (okNode (okNode (okNode (okLeaf tyc119_ok) (okLeaf tyc120_ok)) (okNode (okLeaf tyc133_ok) (okNode (okLeaf tyc134_ok) (okLeaf tyc137_ok)))) (okNode (okNode (okLeaf tyc142_ok) (okNode (okLeaf tyc144_ok) (okLeaf tyc148_ok))) (okNode (okLeaf tyc155_ok) (okNode (okLeaf tyc157_ok) (okLeaf tyc161_ok)))))))
instance : Tys Try.prog := ⟨tycs, tycs_ok⟩
instance : Mixed Try.prog := ⟨by kernel_rfl⟩
end Go.Abs
