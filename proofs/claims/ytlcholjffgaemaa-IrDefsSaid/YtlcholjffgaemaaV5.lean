/-
What functions compute: terminators.
No statement of the program is proved here.
-/
import Derived.Test.YtlcholjffgaemaaV4
set_option linter.unusedVariables false
set_option linter.unusedSectionVars false
set_option linter.unusedSimpArgs false
set_option maxHeartbeats 1000000
namespace Go.Abs
open Go Go.Proofs
noncomputable section
def ann51 : Ann := (.seq .o (.seq .o (.join ⟨[(2, (.fz .bool)), (3, (.ptr 0 0)), (4, (.ptr 1 0)), (7, (.i .i64))], [(.box 30 (.st 6)), (.box 39 (.st 2))]⟩ (.seq .o (.block (.seq .o (.cond .o (.seq .o (.cond .o (.seq .o (.cond (.join ⟨[(2, (.fz .bool)), (3, (.ptr 0 0)), (4, (.ptr 1 0)), (7, (.i .i64))], [(.box 30 (.st 6)), (.box 39 (.st 2))]⟩ (.seq .o (.cond (.seq .o .o) .o)) (.seq .o (.block (.loop ⟨[(2, (.fz .bool)), (3, (.ptr 0 0)), (4, (.ptr 1 0)), (7, (.i .i64)), (8, (.i .i64))], [(.box 30 (.st 6)), (.box 39 (.st 2))]⟩ [((.exit 1), ⟨[(2, (.fz .bool)), (3, (.ptr 0 0)), (4, (.ptr 1 0)), (7, (.i .i64))], [(.box 30 (.st 6)), (.box 39 (.st 2))]⟩), (.ret, ⟨[(6, .b)], []⟩)] (.join ⟨[(2, (.fz .bool)), (3, (.ptr 0 0)), (4, (.ptr 1 0)), (7, (.i .i64)), (8, (.i .i64))], [(.box 30 (.st 6)), (.box 39 (.st 2))]⟩ (.seq .o (.cond .o .o)) (.join ⟨[(2, (.fz .bool)), (3, (.ptr 0 0)), (4, (.ptr 1 0)), (7, (.i .i64)), (8, (.i .i64))], [(.box 30 (.st 6)), (.box 39 (.st 2))]⟩ (.block (.seq .o (.cond (.seq .o .o) .o))) .o)))))) (.seq .o .o))))))))) (.join ⟨[(2, (.fz .bool)), (3, (.ptr 0 0)), (4, (.ptr 1 0))], [(.box 30 (.st 6)), (.box 39 (.st 2))]⟩ (.seq .o (.cond (.seq .o .o) .o)) (.join ⟨[(2, (.fz .bool)), (3, (.ptr 0 0)), (4, (.ptr 1 0))], [(.box 30 (.st 6)), (.box 39 (.st 2))]⟩ (.seq .o (.cond (.seq .o (.cond (.seq .o .o) .o)) (.seq .o (.cond (.seq .o .o) .o)))) (.join ⟨[], []⟩ (.seq .o (.block (.loop ⟨[(2, (.fz .bool)), (3, (.ptr 0 0)), (4, (.ptr 1 0)), (9, (.i .i64))], [(.box 30 (.st 6)), (.box 39 (.st 2))]⟩ [((.exit 3), ⟨[], []⟩), (.ret, ⟨[(6, .b)], []⟩)] (.join ⟨[(2, (.fz .bool)), (3, (.ptr 0 0)), (4, (.ptr 1 0)), (9, (.i .i64))], [(.box 30 (.st 6)), (.box 39 (.st 2))]⟩ (.seq .o (.cond .o .o)) (.join ⟨[(2, (.fz .bool)), (3, (.ptr 0 0)), (4, (.ptr 1 0)), (9, (.i .i64))], [(.box 30 (.st 6)), (.box 39 (.st 2))]⟩ (.block (.seq .o (.cond (.seq .o .o) .o))) .o))))) (.seq .o .o)))))))
def go51_l2 : (((List Bool) × (Unit × (Unit × (Int × (Int × Unit))))) × (Fn × (Term × Unit))) → Option ((((List Bool) × (Unit × (Unit × (Int × (Int × Unit))))) × (Fn × (Term × Unit))) ⊕ ((((List Bool) × (Unit × (Unit × (Int × Unit)))) × (Fn × (Term × Unit))) ⊕ ((Bool × Unit) × Unit))) := (fun (r1 : (((List Bool) × (Unit × (Unit × (Int × (Int × Unit))))) × (Fn × (Term × Unit)))) => (bif (decide (r1.1.2.2.2.2.1 < ((r1.2.2.1.rets.length : Nat) : Int))) then
      (grd (okB (((0 : Int) ≤ r1.1.2.2.2.2.1) ∧ (r1.1.2.2.2.2.1 < ((r1.2.2.1.rets.length : Nat) : Int))))
        (grd (okB (((0 : Int) ≤ (r1.2.2.1.rets.getD r1.1.2.2.2.2.1.toNat (0 : Int))) ∧ ((r1.2.2.1.rets.getD r1.1.2.2.2.2.1.toNat (0 : Int)) < ((r1.2.1.widths.length : Nat) : Int))))
          (grd (okB (((0 : Int) ≤ r1.1.2.2.2.2.1) ∧ (r1.1.2.2.2.2.1 < ((r1.2.1.rets.length : Nat) : Int))))
            (bif (!(decide ((r1.2.1.widths.getD (r1.2.2.1.rets.getD r1.1.2.2.2.2.1.toNat (0 : Int)).toNat (0 : Int)) = (r1.2.1.rets.getD r1.1.2.2.2.2.1.toNat (0 : Int))))) then
              (some (Sum.inr (Sum.inr ((false, ()), ()))))
              else
              (grd (okB (((-(9223372036854775808 : Int)) ≤ (r1.1.2.2.2.2.1 + (1 : Int))) ∧ ((r1.1.2.2.2.2.1 + (1 : Int)) ≤ (9223372036854775807 : Int))))
                (some (Sum.inl ((r1.1.1, ((), ((), (r1.1.2.2.2.1, ((r1.1.2.2.2.2.1 + (1 : Int)), ()))))), (r1.2.1, (r1.2.2.1, ()))))))))))
      else
      (some (Sum.inr (Sum.inl ((r1.1.1, ((), ((), (r1.1.2.2.2.1, ())))), (r1.2.1, (r1.2.2.1, ()))))))))
def go51_l1 : (((List Bool) × (Unit × (Unit × (Int × Unit)))) × (Fn × (Term × Unit))) → Option ((((List Bool) × (Unit × (Unit × (Int × Unit)))) × (Fn × (Term × Unit))) ⊕ ((Unit × Unit) ⊕ ((Bool × Unit) × Unit))) := (fun (r0 : (((List Bool) × (Unit × (Unit × (Int × Unit)))) × (Fn × (Term × Unit)))) => (bif (decide (r0.1.2.2.2.1 < ((r0.2.2.1.to.length : Nat) : Int))) then
      (grd (okB (((0 : Int) ≤ r0.1.2.2.2.1) ∧ (r0.1.2.2.2.1 < ((r0.2.2.1.to.length : Nat) : Int))))
        (callB (grd (okB ((Fn.ok r0.2.1) ∧ ((Edge.ok (r0.2.2.1.to.getD r0.1.2.2.2.1.toNat Edge.z)) ∧ (r0.1.1.length = r0.2.1.widths.length))))
            (some ((Sp.edgeOk r0.2.1 (r0.2.2.1.to.getD r0.1.2.2.2.1.toNat Edge.z) r0.1.1), ())))
          (fun (r1 : (Bool × Unit)) => (bif (!r1.1) then
              (some (Sum.inr (Sum.inr ((false, ()), ()))))
              else
              (grd (okB (((-(9223372036854775808 : Int)) ≤ (r0.1.2.2.2.1 + (1 : Int))) ∧ ((r0.1.2.2.2.1 + (1 : Int)) ≤ (9223372036854775807 : Int))))
                (some (Sum.inl ((r0.1.1, ((), ((), ((r0.1.2.2.2.1 + (1 : Int)), ())))), (r0.2.1, (r0.2.2.1, ()))))))))))
      else
      (some (Sum.inr (Sum.inl ((), ()))))))
def go51_j3 : (((List Bool) × (Unit × (Unit × Unit))) × (Fn × (Term × Unit))) → Option (Bool × Unit) := (fun (z2 : (((List Bool) × (Unit × (Unit × Unit))) × (Fn × (Term × Unit)))) => (callB (whileO (go51_l1) ((z2.1.1, ((), ((), ((0 : Int), ())))), (z2.2.1, (z2.2.2.1, ()))))
      (fun (z3 : ((Unit × Unit) ⊕ ((Bool × Unit) × Unit))) => (sumO (fun (z4 : (Unit × Unit)) => (some (true, ())))
          (fun (z4 : ((Bool × Unit) × Unit)) => (some (z4.1.1, ()))) z3))))
def go51_j2 : (((List Bool) × (Unit × (Unit × Unit))) × (Fn × (Term × Unit))) → Option (Bool × Unit) := (fun (z1 : (((List Bool) × (Unit × (Unit × Unit))) × (Fn × (Term × Unit)))) => (jpO (go51_j3)
      (fun (j0 : ((((List Bool) × (Unit × (Unit × Unit))) × (Fn × (Term × Unit))) → (Option (Bool × Unit)))) => (bif (decide (z1.2.2.1.kind = (2 : Int))) then
          (callB (grd (okB ((1 ≤ LEN) ∧ (z1.1.1.length = z1.2.1.widths.length)))
              (some ((Sp.used z1.2.1 (z1.2.2.1.cond :: ([] : List Int)) z1.1.1), ())))
            (fun (r0 : (Bool × Unit)) => (bif (!r0.1) then
                (some (false, ()))
                else
                (grd (okB (((0 : Int) ≤ z1.2.2.1.cond) ∧ (z1.2.2.1.cond < ((z1.2.1.widths.length : Nat) : Int))))
                  (bif (!(decide ((z1.2.1.widths.getD z1.2.2.1.cond.toNat (0 : Int)) = (1 : Int)))) then
                    (some (false, ()))
                    else
                    (j0 ((z1.1.1, ((), ((), ()))), (z1.2.1, (z1.2.2.1, ())))))))))
          else
          (bif (!(decide (z1.2.2.1.cond = (-(1 : Int))))) then
            (some (false, ()))
            else
            (j0 ((z1.1.1, ((), ((), ()))), (z1.2.1, (z1.2.2.1, ())))))))))
def go51_j1 : (((List Bool) × (Unit × (Unit × (Int × Unit)))) × (Fn × (Term × Unit))) → Option (Bool × Unit) := (fun (z0 : (((List Bool) × (Unit × (Unit × (Int × Unit)))) × (Fn × (Term × Unit)))) => (jpO (go51_j2)
      (fun (j0 : ((((List Bool) × (Unit × (Unit × Unit))) × (Fn × (Term × Unit))) → (Option (Bool × Unit)))) => (bif (!(decide (((z0.2.2.1.to.length : Nat) : Int) = z0.1.2.2.2.1))) then
          (some (false, ()))
          else
          (bif (!(decide (z0.2.2.1.kind = (3 : Int)))) then
            (bif (decide ((0 : Int) < ((z0.2.2.1.rets.length : Nat) : Int))) then
              (some (false, ()))
              else
              (j0 ((z0.1.1, ((), ((), ()))), (z0.2.1, (z0.2.2.1, ())))))
            else
            (j0 ((z0.1.1, ((), ((), ()))), (z0.2.1, (z0.2.2.1, ())))))))))
def go51 (x0 : Fn) (x1 : Term) (x2 : (List Bool)) : (Option (Bool × Unit)) :=
  (jpO (go51_j1)
    (fun (j0 : ((((List Bool) × (Unit × (Unit × (Int × Unit)))) × (Fn × (Term × Unit))) → (Option (Bool × Unit)))) => (bif (decide (x1.kind = (1 : Int))) then
        (j0 ((x2, ((), ((), ((1 : Int), ())))), (x0, (x1, ()))))
        else
        (bif (decide (x1.kind = (2 : Int))) then
          (j0 ((x2, ((), ((), ((2 : Int), ())))), (x0, (x1, ()))))
          else
          (bif (decide (x1.kind = (3 : Int))) then
            (bif (!(decide (((x1.rets.length : Nat) : Int) = ((x0.rets.length : Nat) : Int)))) then
              (some (false, ()))
              else
              (callB (grd (okB ((x1.rets.length ≤ LEN) ∧ (x2.length = x0.widths.length)))
                  (some ((Sp.used x0 x1.rets x2), ())))
                (fun (r0 : (Bool × Unit)) => (bif (!r0.1) then
                    (some (false, ()))
                    else
                    (callB (whileO (go51_l2) ((x2, ((), ((), ((0 : Int), ((0 : Int), ()))))), (x0, (x1, ()))))
                      (fun (z0 : ((((List Bool) × (Unit × (Unit × (Int × Unit)))) × (Fn × (Term × Unit))) ⊕ ((Bool × Unit) × Unit))) => (sumO (fun (z1 : (((List Bool) × (Unit × (Unit × (Int × Unit)))) × (Fn × (Term × Unit)))) => (j0 ((z1.1.1, ((), ((), (z1.1.2.2.2.1, ())))), (z1.2.1, (z1.2.2.1, ())))))
                          (fun (z1 : ((Bool × Unit) × Unit)) => (some (z1.1.1, ()))) z0)))))))
            else
            (some (false, ())))))))
theorem run51 (x0 : Fn) (x1 : Term) (x2 : (List Bool)) : runF (P := Try.prog) [c48, c95] Try.f51 ann51 [(0, (.st 6)), (1, (.st 2)), (2, (.fz .bool))] [] .b [] (x0, (x1, (x2, ()))) () = go51 x0 x1 x2 := by kernel_rfl

def Sp.retP (f : Fn) (rets : List Int) (i : Nat) : Bool := decide (f.widths.getD (rets.getD i 0).toNat 0 = f.rets.getD i 0)
/-- What is asked of the kind. -/
def Sp.kindOk (f : Fn) (t : Term) (known : List Bool) : Bool :=
  if t.kind = 1 ∨ t.kind = 2 then true else if t.kind = 3 then decide ((t.rets.length : Int) = f.rets.length) && Sp.used f t.rets known && (List.range t.rets.length).all (Sp.retP f t.rets) else false
def Sp.sizeOfKind (k : Int) : Int := if k = 1 then 1 else if k = 2 then 2 else 0
def Sp.condOk (f : Fn) (t : Term) (known : List Bool) : Bool :=
  if t.kind = 2 then Sp.used f [t.cond] known && decide (f.widths.getD t.cond.toNat 0 = 1) else decide (t.cond = -1)
def Sp.termOk (f : Fn) (t : Term) (known : List Bool) : Bool :=
  Sp.kindOk f t known && (decide ((t.to.length : Int) = Sp.sizeOfKind t.kind) && (decide (t.kind = 3) || decide ((t.rets.length : Int) ≤ 0))) && Sp.condOk f t known && t.to.all (fun e => Sp.edgeOk f e known)
section
variable {f : Fn} {t : Term} {known : List Bool}
theorem j3_51 (hf : f.ok) (ht : t.ok) (hk : known.length = f.widths.length) : go51_j3 ((known, (), (), ()), f, t, ()) = some (t.to.all (fun e => Sp.edgeOk f e known), ()) := by
  have htt : t.to.length ≤ LEN := ht.2.2.1.len
  rw [lenVal] at htt
  unfold go51_j3 go51_l1
  refine callB_of (whileO_all (l := t.to) (st := fun i => ((known, (), (), (i : Int), ()), f, t, ())) rfl Edge.z (fun e => Sp.edgeOk f e known) (A := .inl ((), ())) (B := .inr ((false, ()), ())) (fun i hi hp => ?_) (fun i hi hp => ?_) (fun _ => ?_)) ?_
  · have he : (t.to.getD i Edge.z).ok := getD_ok ht.2.2.1 _ hi
    simp (maxSteps := 1000000) (disch := ((try dsimp only); omega)) only [↓grd_dec, ↓grd_blt, ↓grd_true, ↓jpO_eq, ↓callB_some, ↓callB_grd, ↓bif_decide, ↓sumO_inl, ↓sumO_inr, ↓if_pos, ↓if_neg, ↓cond_true, ↓cond_false, ↓bif_not, Int.toNat_natCast, Bool.not_true, Bool.not_false, decide_true, decide_false, Bool.false_eq_true, ↓if_true, ↓if_false, Int.natCast_add, Int.cast_ofNat_Int, Bool.not_eq_true', decide_eq_false_iff_not, not_true_eq_false, not_false_eq_true]
    rw [grd_ok ⟨hf, he, hk⟩, hp]
    simp (maxSteps := 1000000) (disch := ((try dsimp only); omega)) only [↓grd_dec, ↓grd_blt, ↓grd_true, ↓jpO_eq, ↓callB_some, ↓callB_grd, ↓bif_decide, ↓sumO_inl, ↓sumO_inr, ↓if_pos, ↓if_neg, ↓cond_true, ↓cond_false, ↓bif_not, Int.toNat_natCast, Bool.not_true, Bool.not_false, decide_true, decide_false, Bool.false_eq_true, ↓if_true, ↓if_false, Int.natCast_add, Int.cast_ofNat_Int, Bool.not_eq_true', decide_eq_false_iff_not, not_true_eq_false, not_false_eq_true]
  · have he : (t.to.getD i Edge.z).ok := getD_ok ht.2.2.1 _ hi
    simp (maxSteps := 1000000) (disch := ((try dsimp only); omega)) only [↓grd_dec, ↓grd_blt, ↓grd_true, ↓jpO_eq, ↓callB_some, ↓callB_grd, ↓bif_decide, ↓sumO_inl, ↓sumO_inr, ↓if_pos, ↓if_neg, ↓cond_true, ↓cond_false, ↓bif_not, Int.toNat_natCast, Bool.not_true, Bool.not_false, decide_true, decide_false, Bool.false_eq_true, ↓if_true, ↓if_false, Int.natCast_add, Int.cast_ofNat_Int, Bool.not_eq_true', decide_eq_false_iff_not, not_true_eq_false, not_false_eq_true]
    rw [grd_ok ⟨hf, he, hk⟩, hp]
    rfl
  · simp (maxSteps := 1000000) (disch := ((try dsimp only); omega)) only [↓grd_dec, ↓grd_blt, ↓grd_true, ↓jpO_eq, ↓callB_some, ↓callB_grd, ↓bif_decide, ↓sumO_inl, ↓sumO_inr, ↓if_pos, ↓if_neg, ↓cond_true, ↓cond_false, ↓bif_not, Int.toNat_natCast, Bool.not_true, Bool.not_false, decide_true, decide_false, Bool.false_eq_true, ↓if_true, ↓if_false, Int.natCast_add, Int.cast_ofNat_Int, Bool.not_eq_true', decide_eq_false_iff_not, not_true_eq_false, not_false_eq_true]
  · cases t.to.all (fun e => Sp.edgeOk f e known) <;> rfl
theorem j2_51 (hf : f.ok) (ht : t.ok) (hk : known.length = f.widths.length) : go51_j2 ((known, (), (), ()), f, t, ()) = some (Sp.condOk f t known && t.to.all (fun e => Sp.edgeOk f e known), ()) := by
  unfold go51_j2 Sp.condOk
  simp (maxSteps := 1000000) (disch := ((try dsimp only); omega)) only [↓grd_dec, ↓grd_blt, ↓grd_true, ↓jpO_eq, ↓callB_some, ↓callB_grd, ↓bif_decide, ↓sumO_inl, ↓sumO_inr, ↓if_pos, ↓if_neg, ↓cond_true, ↓cond_false, ↓bif_not, Int.toNat_natCast, Bool.not_true, Bool.not_false, decide_true, decide_false, Bool.false_eq_true, ↓if_true, ↓if_false, Int.natCast_add, Int.cast_ofNat_Int, Bool.not_eq_true', decide_eq_false_iff_not, not_true_eq_false, not_false_eq_true]
  rw [j3_51 hf ht hk]
  by_cases h : t.kind = 2
  · rw [if_pos h, if_pos h, grd_ok ⟨by simp [LEN], hk⟩]
    cases hu : Sp.used f [t.cond] known with
    | false => rfl
    | true =>
      have h2 := used_get hu (i := 0) (by simp)
      simp only [List.getD_cons_zero] at h2
      obtain ⟨h2, h3, -⟩ := h2
      simp (maxSteps := 1000000) (disch := ((try dsimp only); omega)) only [↓grd_dec, ↓grd_blt, ↓grd_true, ↓jpO_eq, ↓callB_some, ↓callB_grd, ↓bif_decide, ↓sumO_inl, ↓sumO_inr, ↓if_pos, ↓if_neg, ↓cond_true, ↓cond_false, ↓bif_not, Int.toNat_natCast, Bool.not_true, Bool.not_false, decide_true, decide_false, Bool.false_eq_true, ↓if_true, ↓if_false, Int.natCast_add, Int.cast_ofNat_Int, Bool.not_eq_true', decide_eq_false_iff_not, not_true_eq_false, not_false_eq_true]
      by_cases h4 : f.widths.getD t.cond.toNat 0 = 1
      · rw [if_pos h4, decide_eq_true h4]; rfl
      · rw [if_neg h4, decide_eq_false h4]; rfl
  · rw [if_neg h, if_neg h]
    by_cases h4 : t.cond = -1
    · rw [if_pos h4, decide_eq_true h4]; rfl
    · rw [if_neg h4, decide_eq_false h4]; rfl
theorem j1_51 (hf : f.ok) (ht : t.ok) (hk : known.length = f.widths.length) (z : Int) : go51_j1 ((known, (), (), z, ()), f, t, ()) =
    some ((decide ((t.to.length : Int) = z) && (decide (t.kind = 3) || decide ((t.rets.length : Int) ≤ 0))) && Sp.condOk f t known && t.to.all (fun e => Sp.edgeOk f e known), ()) := by
  unfold go51_j1
  simp (maxSteps := 1000000) (disch := ((try dsimp only); omega)) only [↓grd_dec, ↓grd_blt, ↓grd_true, ↓jpO_eq, ↓callB_some, ↓callB_grd, ↓bif_decide, ↓sumO_inl, ↓sumO_inr, ↓if_pos, ↓if_neg, ↓cond_true, ↓cond_false, ↓bif_not, Int.toNat_natCast, Bool.not_true, Bool.not_false, decide_true, decide_false, Bool.false_eq_true, ↓if_true, ↓if_false, Int.natCast_add, Int.cast_ofNat_Int, Bool.not_eq_true', decide_eq_false_iff_not, not_true_eq_false, not_false_eq_true]
  rw [j2_51 hf ht hk]
  have e3 : decide ((t.rets.length : Int) ≤ 0) = !decide (0 < (t.rets.length : Int)) := by rw [← decide_not]; exact decide_eq_decide.2 (by omega)
  rw [e3]
  by_cases h1 : (t.to.length : Int) = z <;> by_cases h2 : t.kind = 3 <;> by_cases h3 : 0 < (t.rets.length : Int) <;> simp only [h1, h2, h3, if_true, if_false, decide_true, decide_false] <;> rfl
theorem ok51 (f : Fn) (t : Term) (known : List Bool) (h : f.ok ∧ t.ok ∧ known.length = f.widths.length) : go51 f t known = some (Sp.termOk f t known, ()) := by
  obtain ⟨hf, ht, hk⟩ := h
  have htr : t.rets.length ≤ LEN := ht.2.2.2.len
  have hfr : f.rets.length ≤ LEN := hf.2.2.2.2.1.len
  have htr' := htr
  rw [lenVal] at htr' hfr
  unfold go51
  rw [grd_ok ⟨htr, hk⟩]
  simp (maxSteps := 1000000) (disch := ((try dsimp only); omega)) only [↓grd_dec, ↓grd_blt, ↓grd_true, ↓jpO_eq, ↓callB_some, ↓callB_grd, ↓bif_decide, ↓sumO_inl, ↓sumO_inr, ↓if_pos, ↓if_neg, ↓cond_true, ↓cond_false, ↓bif_not, Int.toNat_natCast, Bool.not_true, Bool.not_false, decide_true, decide_false, Bool.false_eq_true, ↓if_true, ↓if_false, Int.natCast_add, Int.cast_ofNat_Int, Bool.not_eq_true', decide_eq_false_iff_not, not_true_eq_false, not_false_eq_true]
  simp only [j1_51 hf ht hk]
  by_cases h1 : t.kind = 1
  · simp [h1, Sp.termOk, Sp.kindOk, Sp.sizeOfKind]
  by_cases h2 : t.kind = 2
  · simp [h2, Sp.termOk, Sp.kindOk, Sp.sizeOfKind]
  by_cases h3 : t.kind = 3
  rotate_left
  · simp [h1, h2, h3, Sp.termOk, Sp.kindOk]
  rw [if_neg h1, if_neg h2, if_pos h3]
  by_cases h4 : (t.rets.length : Int) = f.rets.length
  rotate_left
  · rw [if_neg h4]
    simp [Sp.termOk, Sp.kindOk, h1, h2, h3, h4]
  rw [if_pos h4]
  cases hu : Sp.used f t.rets known with
  | false => simp [Sp.termOk, Sp.kindOk, h1, h2, h3, hu]
  | true =>
    simp (maxSteps := 1000000) (disch := ((try dsimp only); omega)) only [↓grd_dec, ↓grd_blt, ↓grd_true, ↓jpO_eq, ↓callB_some, ↓callB_grd, ↓bif_decide, ↓sumO_inl, ↓sumO_inr, ↓if_pos, ↓if_neg, ↓cond_true, ↓cond_false, ↓bif_not, Int.toNat_natCast, Bool.not_true, Bool.not_false, decide_true, decide_false, Bool.false_eq_true, ↓if_true, ↓if_false, Int.natCast_add, Int.cast_ofNat_Int, Bool.not_eq_true', decide_eq_false_iff_not, not_true_eq_false, not_false_eq_true]
    unfold go51_l2
    refine callB_of (whileO_all (l := List.range t.rets.length) (st := fun i => ((known, (), (), 0, (i : Int), ()), f, t, ())) rfl 0 (Sp.retP f t.rets) (A := .inl ((known, (), (), 0, ()), f, t, ())) (B := .inr ((false, ()), ())) (fun i hi hp => ?_) (fun i hi hp => ?_) (fun _ => ?_)) ?_
    · rw [List.length_range] at hi
      rw [range_getD hi] at hp
      have hp := of_decide_eq_true hp
      obtain ⟨u1, u2, -⟩ := used_get hu (i := i) hi
      simp (maxSteps := 1000000) (disch := ((try dsimp only); omega)) only [↓grd_dec, ↓grd_blt, ↓grd_true, ↓jpO_eq, ↓callB_some, ↓callB_grd, ↓bif_decide, ↓sumO_inl, ↓sumO_inr, ↓if_pos, ↓if_neg, ↓cond_true, ↓cond_false, ↓bif_not, Int.toNat_natCast, Bool.not_true, Bool.not_false, decide_true, decide_false, Bool.false_eq_true, ↓if_true, ↓if_false, Int.natCast_add, Int.cast_ofNat_Int, Bool.not_eq_true', decide_eq_false_iff_not, not_true_eq_false, not_false_eq_true]
    · rw [List.length_range] at hi
      rw [range_getD hi] at hp
      have hp := of_decide_eq_false hp
      obtain ⟨u1, u2, -⟩ := used_get hu (i := i) hi
      simp (maxSteps := 1000000) (disch := ((try dsimp only); omega)) only [↓grd_dec, ↓grd_blt, ↓grd_true, ↓jpO_eq, ↓callB_some, ↓callB_grd, ↓bif_decide, ↓sumO_inl, ↓sumO_inr, ↓if_pos, ↓if_neg, ↓cond_true, ↓cond_false, ↓bif_not, Int.toNat_natCast, Bool.not_true, Bool.not_false, decide_true, decide_false, Bool.false_eq_true, ↓if_true, ↓if_false, Int.natCast_add, Int.cast_ofNat_Int, Bool.not_eq_true', decide_eq_false_iff_not, not_true_eq_false, not_false_eq_true]
    · rw [List.length_range]; simp (maxSteps := 1000000) (disch := ((try dsimp only); omega)) only [↓grd_dec, ↓grd_blt, ↓grd_true, ↓jpO_eq, ↓callB_some, ↓callB_grd, ↓bif_decide, ↓sumO_inl, ↓sumO_inr, ↓if_pos, ↓if_neg, ↓cond_true, ↓cond_false, ↓bif_not, Int.toNat_natCast, Bool.not_true, Bool.not_false, decide_true, decide_false, Bool.false_eq_true, ↓if_true, ↓if_false, Int.natCast_add, Int.cast_ofNat_Int, Bool.not_eq_true', decide_eq_false_iff_not, not_true_eq_false, not_false_eq_true]
    · have hK : Sp.kindOk f t known = (List.range t.rets.length).all (Sp.retP f t.rets) := by simp [Sp.kindOk, h3, h4, hu]
      simp only [Sp.termOk, hK]
      cases (List.range t.rets.length).all (Sp.retP f t.rets) with
      | false => rfl
      | true =>
        rw [if_pos rfl]
        simp (maxSteps := 1000000) (disch := ((try dsimp only); omega)) only [↓grd_dec, ↓grd_blt, ↓grd_true, ↓jpO_eq, ↓callB_some, ↓callB_grd, ↓bif_decide, ↓sumO_inl, ↓sumO_inr, ↓if_pos, ↓if_neg, ↓cond_true, ↓cond_false, ↓bif_not, Int.toNat_natCast, Bool.not_true, Bool.not_false, decide_true, decide_false, Bool.false_eq_true, ↓if_true, ↓if_false, Int.natCast_add, Int.cast_ofNat_Int, Bool.not_eq_true', decide_eq_false_iff_not, not_true_eq_false, not_false_eq_true]
        have e : Sp.sizeOfKind t.kind = 0 := by simp [Sp.sizeOfKind, h1, h2]
        rw [j1_51 hf ht hk, e]
        rfl
end
def c51 : Ctr Try.prog := mkCtr 51 Try.f51 Try.func51 [c48, c95] ann51 [(0, (.st 6)), (1, (.st 2)), (2, (.fz .bool))] [] .b [] (fun x _ => grd (okB (x.1.ok ∧ x.2.1.ok ∧ x.2.2.1.length = x.1.widths.length)) (some (Sp.termOk x.1 x.2.1 x.2.2.1, ()))) (fun x _ r h => FO (run51 x.1 x.2.1 x.2.2.1) (ok51 x.1 x.2.1 x.2.2.1) h)
end
end Go.Abs
