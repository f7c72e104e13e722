/-
What the functions compute that call few others.
No statement of the program is proved here.
-/
import Derived.Test.YtlcholjffgaemaaV1
set_option linter.unusedVariables false
set_option linter.unusedSectionVars false
set_option linter.unusedSimpArgs false
set_option maxHeartbeats 1000000
namespace Go.Abs
open Go Go.Proofs
noncomputable section
def ann13 : Ann := (.seq .o (.join ⟨[], []⟩ (.block (.seq .o (.cond (.seq .o .o) (.join ⟨[(0, (.i .i64)), (6, .b)], []⟩ (.seq .o (.cond .o (.seq .o (.cond .o .o)))) (.cond (.seq .o .o) (.join ⟨[(0, (.i .i64)), (13, .b)], []⟩ (.seq .o (.cond .o .o)) (.cond (.seq .o .o) (.join ⟨[(18, .b)], []⟩ (.seq .o (.cond .o (.seq .o (.cond .o (.seq .o (.cond .o .o)))))) (.cond (.seq .o .o) .o))))))))) (.seq .o .o)))
def go13_j3 : ((Bool × Unit) × Unit) → Option (Int × Unit) := (fun (z2 : ((Bool × Unit) × Unit)) => (bif z2.1.1 then
      (some ((1 : Int), ()))
      else
      (some ((-(1 : Int)), ()))))
def go13_j2 : ((Int × (Bool × Unit)) × Unit) → Option (Int × Unit) := (fun (z1 : ((Int × (Bool × Unit)) × Unit)) => (bif z1.1.2.1 then
      (some ((3 : Int), ()))
      else
      (jpO (go13_j3)
        (fun (j0 : (((Bool × Unit) × Unit) → (Option (Int × Unit)))) => (bif (decide (z1.1.1 = (22 : Int))) then
            (j0 ((true, ()), ()))
            else
            (bif (decide (z1.1.1 = (23 : Int))) then
              (j0 ((true, ()), ()))
              else
              (bif (decide (z1.1.1 = (24 : Int))) then
                (j0 ((true, ()), ()))
                else
                (j0 (((decide (z1.1.1 = (27 : Int))), ()), ())))))))))
def go13_j1 : ((Int × (Bool × Unit)) × Unit) → Option (Int × Unit) := (fun (z0 : ((Int × (Bool × Unit)) × Unit)) => (bif z0.1.2.1 then
      (some ((2 : Int), ()))
      else
      (jpO (go13_j2)
        (fun (j0 : (((Int × (Bool × Unit)) × Unit) → (Option (Int × Unit)))) => (bif (decide (z0.1.1 = (21 : Int))) then
            (j0 ((z0.1.1, (true, ())), ()))
            else
            (j0 ((z0.1.1, ((decide (z0.1.1 = (26 : Int))), ())), ())))))))
def go13 (x0 : Int) : (Option (Int × Unit)) :=
  (bif (decide (x0 = (1 : Int))) then
    (some ((0 : Int), ()))
    else
    (jpO (go13_j1)
      (fun (j0 : (((Int × (Bool × Unit)) × Unit) → (Option (Int × Unit)))) => (bif (Sp.isBinary x0) then
          (j0 ((x0, (true, ())), ()))
          else
          (bif (decide (x0 = (25 : Int))) then
            (j0 ((x0, (true, ())), ()))
            else
            (j0 ((x0, ((decide (x0 = (28 : Int))), ())), ())))))))
theorem run13 (x0 : Int) : runF (P := Try.prog) [c42] Try.f13 ann13 [(0, (.i .i64))] [] (.i .i64) [] (x0, ()) () = go13 x0 := by kernel_rfl
def ann14 : Ann := (.seq .o (.join ⟨[], []⟩ (.block (.seq .o (.cond (.seq .o .o) (.join ⟨[(0, (.i .i64)), (6, .b)], []⟩ (.seq .o (.cond .o (.seq .o (.cond .o .o)))) (.cond (.seq .o .o) (.join ⟨[(0, (.i .i64)), (13, .b)], []⟩ (.seq .o (.cond .o .o)) (.cond (.seq .o .o) (.join ⟨[(18, .b)], []⟩ (.seq .o (.cond .o (.seq .o (.cond .o (.seq .o (.cond .o .o)))))) (.cond (.seq .o .o) .o))))))))) (.seq .o .o)))
def go14_j3 : ((Bool × Unit) × Unit) → Option (Int × Unit) := (fun (z2 : ((Bool × Unit) × Unit)) => (bif z2.1.1 then
      (some ((1 : Int), ()))
      else
      (some ((-(1 : Int)), ()))))
def go14_j2 : ((Int × (Bool × Unit)) × Unit) → Option (Int × Unit) := (fun (z1 : ((Int × (Bool × Unit)) × Unit)) => (bif z1.1.2.1 then
      (some ((3 : Int), ()))
      else
      (jpO (go14_j3)
        (fun (j0 : (((Bool × Unit) × Unit) → (Option (Int × Unit)))) => (bif (decide (z1.1.1 = (22 : Int))) then
            (j0 ((true, ()), ()))
            else
            (bif (decide (z1.1.1 = (23 : Int))) then
              (j0 ((true, ()), ()))
              else
              (bif (decide (z1.1.1 = (24 : Int))) then
                (j0 ((true, ()), ()))
                else
                (j0 (((decide (z1.1.1 = (27 : Int))), ()), ())))))))))
def go14_j1 : ((Int × (Bool × Unit)) × Unit) → Option (Int × Unit) := (fun (z0 : ((Int × (Bool × Unit)) × Unit)) => (bif z0.1.2.1 then
      (some ((2 : Int), ()))
      else
      (jpO (go14_j2)
        (fun (j0 : (((Int × (Bool × Unit)) × Unit) → (Option (Int × Unit)))) => (bif (decide (z0.1.1 = (21 : Int))) then
            (j0 ((z0.1.1, (true, ())), ()))
            else
            (j0 ((z0.1.1, ((decide (z0.1.1 = (26 : Int))), ())), ())))))))
def go14 (x0 : Int) : (Option (Int × Unit)) :=
  (bif (decide (x0 = (1 : Int))) then
    (some ((0 : Int), ()))
    else
    (jpO (go14_j1)
      (fun (j0 : (((Int × (Bool × Unit)) × Unit) → (Option (Int × Unit)))) => (bif (Sp.isBinary x0) then
          (j0 ((x0, (true, ())), ()))
          else
          (bif (decide (x0 = (25 : Int))) then
            (j0 ((x0, (true, ())), ()))
            else
            (j0 ((x0, ((decide (x0 = (28 : Int))), ())), ())))))))
theorem run14 (x0 : Int) : runF (P := Try.prog) [c43] Try.f14 ann14 [(0, (.i .i64))] [] (.i .i64) [] (x0, ()) () = go14 x0 := by kernel_rfl
def ann46 : Ann := (.seq .o (.join ⟨[(0, (.fz (.int .i64))), (1, (.i .i64))], []⟩ (.seq .o (.block (.loop ⟨[(0, (.fz (.int .i64))), (1, (.i .i64)), (5, (.i .i64))], []⟩ [((.exit 0), ⟨[(0, (.fz (.int .i64))), (1, (.i .i64))], []⟩), (.ret, ⟨[(4, .b)], []⟩)] (.join ⟨[(0, (.fz (.int .i64))), (1, (.i .i64)), (5, (.i .i64))], []⟩ (.seq .o (.cond .o .o)) (.join ⟨[(0, (.fz (.int .i64))), (1, (.i .i64)), (5, (.i .i64))], []⟩ (.block (.seq .o (.cond (.seq .o .o) .o))) .o))))) (.seq .o .o)))
def go46_l1 : (((List Int) × (Int × (Int × Unit))) × Unit) → Option ((((List Int) × (Int × (Int × Unit))) × Unit) ⊕ ((((List Int) × (Int × Unit)) × Unit) ⊕ ((Bool × Unit) × Unit))) := (fun (r0 : (((List Int) × (Int × (Int × Unit))) × Unit)) => (bif (decide (r0.1.2.2.1 < ((r0.1.1.length : Nat) : Int))) then
      (grd (okB (((0 : Int) ≤ r0.1.2.2.1) ∧ (r0.1.2.2.1 < ((r0.1.1.length : Nat) : Int))))
        (bif (!(Sp.right (r0.1.1.getD r0.1.2.2.1.toNat (0 : Int)))) then
          (some (Sum.inr (Sum.inr ((false, ()), ()))))
          else
          (grd (okB (((-(9223372036854775808 : Int)) ≤ (r0.1.2.2.1 + (1 : Int))) ∧ ((r0.1.2.2.1 + (1 : Int)) ≤ (9223372036854775807 : Int))))
            (some (Sum.inl ((r0.1.1, (r0.1.2.1, ((r0.1.2.2.1 + (1 : Int)), ()))), ()))))))
      else
      (some (Sum.inr (Sum.inl ((r0.1.1, (r0.1.2.1, ())), ()))))))
def go46 (x0 : (List Int)) (x1 : Int) : (Option (Bool × Unit)) :=
  (callB (whileO (go46_l1) ((x0, (x1, ((0 : Int), ()))), ()))
    (fun (z0 : ((((List Int) × (Int × Unit)) × Unit) ⊕ ((Bool × Unit) × Unit))) => (sumO (fun (z1 : (((List Int) × (Int × Unit)) × Unit)) => (some ((decide (((z1.1.1.length : Nat) : Int) ≤ z1.1.2.1)), ())))
        (fun (z1 : ((Bool × Unit) × Unit)) => (some (z1.1.1, ()))) z0)))
theorem run46 (x0 : (List Int)) (x1 : Int) : runF (P := Try.prog) [c92] Try.f46 ann46 [(0, (.fz (.int .i64))), (1, (.i .i64))] [] .b [] (x0, (x1, ())) () = go46 x0 x1 := by kernel_rfl
def ann48 : Ann := (.seq .o (.join ⟨[], []⟩ (.seq .o (.block (.loop ⟨[(1, (.fz (.int .i64))), (2, (.fz .bool)), (3, (.ptr 0 0)), (7, (.i .i64))], [(.box 30 (.st 6))]⟩ [((.exit 0), ⟨[], []⟩), (.ret, ⟨[(6, .b)], []⟩)] (.join ⟨[(1, (.fz (.int .i64))), (2, (.fz .bool)), (3, (.ptr 0 0)), (7, (.i .i64))], [(.box 30 (.st 6))]⟩ (.seq .o (.cond .o .o)) (.join ⟨[(1, (.fz (.int .i64))), (2, (.fz .bool)), (3, (.ptr 0 0)), (7, (.i .i64))], [(.box 30 (.st 6))]⟩ (.block (.seq .o (.cond (.seq .o .o) .o))) .o))))) (.seq .o .o)))
def go48_l1 : (((List Int) × ((List Bool) × (Unit × (Int × Unit)))) × (Fn × Unit)) → Option ((((List Int) × ((List Bool) × (Unit × (Int × Unit)))) × (Fn × Unit)) ⊕ ((Unit × Unit) ⊕ ((Bool × Unit) × Unit))) := (fun (r0 : (((List Int) × ((List Bool) × (Unit × (Int × Unit)))) × (Fn × Unit))) => (bif (decide (r0.1.2.2.2.1 < ((r0.1.1.length : Nat) : Int))) then
      (grd (okB (((0 : Int) ≤ r0.1.2.2.2.1) ∧ (r0.1.2.2.2.1 < ((r0.1.1.length : Nat) : Int))))
        (bif (!(Sp.within r0.2.1 (r0.1.1.getD r0.1.2.2.2.1.toNat (0 : Int)))) then
          (some (Sum.inr (Sum.inr ((false, ()), ()))))
          else
          (grd (okB (((0 : Int) ≤ r0.1.2.2.2.1) ∧ (r0.1.2.2.2.1 < ((r0.1.1.length : Nat) : Int))))
            (grd (okB (((0 : Int) ≤ (r0.1.1.getD r0.1.2.2.2.1.toNat (0 : Int))) ∧ ((r0.1.1.getD r0.1.2.2.2.1.toNat (0 : Int)) < ((r0.1.2.1.length : Nat) : Int))))
              (bif (!(r0.1.2.1.getD (r0.1.1.getD r0.1.2.2.2.1.toNat (0 : Int)).toNat false)) then
                (some (Sum.inr (Sum.inr ((false, ()), ()))))
                else
                (grd (okB (((-(9223372036854775808 : Int)) ≤ (r0.1.2.2.2.1 + (1 : Int))) ∧ ((r0.1.2.2.2.1 + (1 : Int)) ≤ (9223372036854775807 : Int))))
                  (some (Sum.inl ((r0.1.1, (r0.1.2.1, ((), ((r0.1.2.2.2.1 + (1 : Int)), ())))), (r0.2.1, ()))))))))))
      else
      (some (Sum.inr (Sum.inl ((), ()))))))
def go48 (x0 : Fn) (x1 : (List Int)) (x2 : (List Bool)) : (Option (Bool × Unit)) :=
  (callB (whileO (go48_l1) ((x1, (x2, ((), ((0 : Int), ())))), (x0, ())))
    (fun (z0 : ((Unit × Unit) ⊕ ((Bool × Unit) × Unit))) => (sumO (fun (z1 : (Unit × Unit)) => (some (true, ())))
        (fun (z1 : ((Bool × Unit) × Unit)) => (some (z1.1.1, ()))) z0)))
theorem run48 (x0 : Fn) (x1 : (List Int)) (x2 : (List Bool)) : runF (P := Try.prog) [c47] Try.f48 ann48 [(0, (.st 6)), (1, (.fz (.int .i64))), (2, (.fz .bool))] [] .b [] (x0, (x1, (x2, ()))) () = go48 x0 x1 x2 := by kernel_rfl
def ann76 : Ann := (.seq .o (.seq .o (.join ⟨[(5, (.full 0))], [(.lst 3 (.int .i64))]⟩ (.seq .o (.block (.loop ⟨[(0, (.i .i64)), (1, (.i .u64)), (5, (.full 0)), (6, (.i .i64))], [(.lst 3 (.int .i64))]⟩ [((.exit 0), ⟨[(5, (.full 0))], [(.lst 3 (.int .i64))]⟩)] (.join ⟨[(0, (.i .i64)), (1, (.i .u64)), (5, (.full 0)), (6, (.i .i64))], [(.lst 3 (.int .i64))]⟩ (.seq .o (.cond .o .o)) (.join ⟨[(0, (.i .i64)), (1, (.i .u64)), (5, (.full 0)), (6, (.i .i64))], [(.lst 3 (.int .i64))]⟩ (.block (.seq .o .o)) .o))))) (.seq .o .o))))
def go76_l1 : ((Int × (Int × (Unit × (Int × Unit)))) × ((List Int) × Unit)) → Option (((Int × (Int × (Unit × (Int × Unit)))) × ((List Int) × Unit)) ⊕ ((Unit × Unit) × ((List Int) × Unit))) := (fun (r0 : ((Int × (Int × (Unit × (Int × Unit)))) × ((List Int) × Unit))) => (bif (decide (r0.1.2.2.2.1 < (Sp.width r0.1.1))) then
      (grd (okB ((((r0.2.1.length + 1) * (8 : Nat)) ≤ (140737488355328 : Nat)) ∧ ((r0.2.1.length + 1) ≤ (281474976710656 : Nat))))
        (grd (okB (((-(9223372036854775808 : Int)) ≤ (r0.1.2.2.2.1 + (1 : Int))) ∧ ((r0.1.2.2.2.1 + (1 : Int)) ≤ (9223372036854775807 : Int))))
          (some (Sum.inl ((r0.1.1, ((Go.IntKind.wrap Go.IntKind.u64 (Int.tdiv r0.1.2.1 (2 : Int))), ((), ((r0.1.2.2.2.1 + (1 : Int)), ())))), ((r0.2.1 ++ ((Go.IntKind.wrap Go.IntKind.i64 (Int.tmod r0.1.2.1 (2 : Int))) :: ([] : List Int))), ()))))))
      else
      (some (Sum.inr (((), ()), (r0.2.1, ()))))))
def go76 (x0 : Int) (x1 : Int) : (Option ((List Int) × Unit)) :=
  (callB (whileO (go76_l1) ((x0, (x1, ((), ((0 : Int), ())))), (([] : List Int), ())))
    (fun (z0 : ((Unit × Unit) × ((List Int) × Unit))) => (some (z0.2.1, ()))))
theorem run76 (x0 : Int) (x1 : Int) : runF (P := Try.prog) [c78] Try.f76 ann76 [(0, (.i .i64)), (1, (.i .u64))] [] (.fz (.int .i64)) [] (x0, (x1, ())) () = go76 x0 x1 := by kernel_rfl
def ann44 : Ann := (.seq .o (.join ⟨[(0, .s)], []⟩ (.seq .o (.block (.loop ⟨[(0, .s), (3, (.i .i64))], []⟩ [((.exit 0), ⟨[(0, .s)], []⟩), (.ret, ⟨[(2, .b)], []⟩)] (.join ⟨[(0, .s), (3, (.i .i64))], []⟩ (.seq .o (.cond .o .o)) (.join ⟨[(0, .s), (3, (.i .i64))], []⟩ (.block (.seq .o (.cond (.seq .o .o) .o))) .o))))) (.seq .o .o)))
def go44_j1 : ((ByteArray × (Int × Unit)) × Unit) → Option (((ByteArray × (Int × Unit)) × Unit) ⊕ (((ByteArray × Unit) × Unit) ⊕ ((Bool × Unit) × Unit))) := (fun (z0 : ((ByteArray × (Int × Unit)) × Unit)) => (grd (okB (((-(9223372036854775808 : Int)) ≤ (z0.1.2.1 + (1 : Int))) ∧ ((z0.1.2.1 + (1 : Int)) ≤ (9223372036854775807 : Int))))
      (some (Sum.inl ((z0.1.1, ((z0.1.2.1 + (1 : Int)), ())), ())))))
def go44_l1 : ((ByteArray × (Int × Unit)) × Unit) → Option (((ByteArray × (Int × Unit)) × Unit) ⊕ (((ByteArray × Unit) × Unit) ⊕ ((Bool × Unit) × Unit))) := (fun (r0 : ((ByteArray × (Int × Unit)) × Unit)) => (bif (decide (r0.1.2.1 < (((ByteArray.size r0.1.1) : Nat) : Int))) then
      (jpO (go44_j1)
        (fun (j0 : (((ByteArray × (Int × Unit)) × Unit) → (Option (((ByteArray × (Int × Unit)) × Unit) ⊕ (((ByteArray × Unit) × Unit) ⊕ ((Bool × Unit) × Unit)))))) => (grd (okB (((0 : Int) ≤ r0.1.2.1) ∧ (r0.1.2.1 < (((ByteArray.size r0.1.1) : Nat) : Int))))
            (bif (!(Sp.letter (strAt r0.1.1 r0.1.2.1.toNat))) then
              (bif (decide (r0.1.2.1 = (0 : Int))) then
                (some (Sum.inr (Sum.inr ((false, ()), ()))))
                else
                (grd (okB (((0 : Int) ≤ r0.1.2.1) ∧ (r0.1.2.1 < (((ByteArray.size r0.1.1) : Nat) : Int))))
                  (bif (decide ((Sp.digit (strAt r0.1.1 r0.1.2.1.toNat) (10 : Int)) < (0 : Int))) then
                    (some (Sum.inr (Sum.inr ((false, ()), ()))))
                    else
                    (j0 ((r0.1.1, (r0.1.2.1, ())), ())))))
              else
              (j0 ((r0.1.1, (r0.1.2.1, ())), ()))))))
      else
      (some (Sum.inr (Sum.inl ((r0.1.1, ()), ()))))))
def go44 (x0 : ByteArray) : (Option (Bool × Unit)) :=
  (callB (whileO (go44_l1) ((x0, ((0 : Int), ())), ()))
    (fun (z0 : (((ByteArray × Unit) × Unit) ⊕ ((Bool × Unit) × Unit))) => (sumO (fun (z1 : ((ByteArray × Unit) × Unit)) => (bif (decide ((1 : Int) ≤ (((ByteArray.size z1.1.1) : Nat) : Int))) then
            (some ((decide ((((ByteArray.size z1.1.1) : Nat) : Int) ≤ (64 : Int))), ()))
            else
            (some (false, ()))))
        (fun (z1 : ((Bool × Unit) × Unit)) => (some (z1.1.1, ()))) z0)))
theorem run44 (x0 : ByteArray) : runF (P := Try.prog) [c90, c91] Try.f44 ann44 [(0, .s)] [] .b [] (x0, ()) () = go44 x0 := by kernel_rfl

def Sp.arity (op : Int) : Int :=
  if op = 1 then 0 else if Sp.isBinary op || decide (op = 25) || decide (op = 28) then 2 else if op = 21 ∨ op = 26 then 3 else if op = 22 ∨ op = 23 ∨ op = 24 ∨ op = 27 then 1 else -1
theorem ok13 (op : Int) : go13 op = some (Sp.arity op, ()) := by
  unfold go13 go13_j1 go13_j2 go13_j3 Sp.arity
  simp only [jpO_eq, bif_decide]
  cases Sp.isBinary op <;> simp only [cond_true, cond_false] <;> repeat' split
  all_goals simp_all
theorem ok14 (op : Int) : go14 op = some (Sp.arity op, ()) := ok13 op
def c13 : Ctr Try.prog := mkCtr 13 Try.f13 Try.func13 [c42] ann13 [(0, (.i .i64))] [] (.i .i64) [] (fun x _ => some (Sp.arity x.1, ())) (fun x _ r h => FE (run13 x.1) (ok13 x.1) h)
def c14 : Ctr Try.prog := mkCtr 14 Try.f14 Try.func14 [c43] ann14 [(0, (.i .i64))] [] (.i .i64) [] (fun x _ => some (Sp.arity x.1, ())) (fun x _ r h => FE (run14 x.1) (ok14 x.1) h)

def Sp.widths (l : List Int) (most : Int) : Bool := l.all Sp.right && decide ((l.length : Int) ≤ most)
theorem ok46 (l : List Int) (most : Int) (hl : l.length ≤ LEN) : go46 l most = some (Sp.widths l most, ()) := by
  rw [lenVal] at hl
  unfold go46 go46_l1
  refine callB_of (whileO_all (l := l) (st := fun i => ((l, most, (i : Int), ()), ())) rfl 0 Sp.right (A := .inl ((l, most, ()), ())) (B := .inr ((false, ()), ())) (fun i hi hp => ?_) (fun i hi hp => ?_) (fun _ => ?_)) ?_
  · simp (maxSteps := 1000000) (disch := ((try dsimp only); omega)) only [↓grd_dec, ↓grd_blt, ↓grd_true, ↓jpO_eq, ↓callB_some, ↓callB_grd, ↓bif_decide, ↓sumO_inl, ↓sumO_inr, ↓if_pos, ↓if_neg, ↓cond_true, ↓cond_false, ↓bif_not, Int.toNat_natCast, Bool.not_true, Bool.not_false, decide_true, decide_false, Bool.false_eq_true, ↓if_true, ↓if_false, Int.natCast_add, Int.cast_ofNat_Int, Bool.not_eq_true', decide_eq_false_iff_not, not_true_eq_false, not_false_eq_true]
    rw [hp]; rfl
  · simp (maxSteps := 1000000) (disch := ((try dsimp only); omega)) only [↓grd_dec, ↓grd_blt, ↓grd_true, ↓jpO_eq, ↓callB_some, ↓callB_grd, ↓bif_decide, ↓sumO_inl, ↓sumO_inr, ↓if_pos, ↓if_neg, ↓cond_true, ↓cond_false, ↓bif_not, Int.toNat_natCast, Bool.not_true, Bool.not_false, decide_true, decide_false, Bool.false_eq_true, ↓if_true, ↓if_false, Int.natCast_add, Int.cast_ofNat_Int, Bool.not_eq_true', decide_eq_false_iff_not, not_true_eq_false, not_false_eq_true]
    rw [hp]; rfl
  · simp (maxSteps := 1000000) (disch := ((try dsimp only); omega)) only [↓grd_dec, ↓grd_blt, ↓grd_true, ↓jpO_eq, ↓callB_some, ↓callB_grd, ↓bif_decide, ↓sumO_inl, ↓sumO_inr, ↓if_pos, ↓if_neg, ↓cond_true, ↓cond_false, ↓bif_not, Int.toNat_natCast, Bool.not_true, Bool.not_false, decide_true, decide_false, Bool.false_eq_true, ↓if_true, ↓if_false, Int.natCast_add, Int.cast_ofNat_Int, Bool.not_eq_true', decide_eq_false_iff_not, not_true_eq_false, not_false_eq_true]
  · unfold Sp.widths
    cases l.all Sp.right <;> simp
def c46 : Ctr Try.prog := mkCtr 46 Try.f46 Try.func46 [c92] ann46 [(0, (.fz (.int .i64))), (1, (.i .i64))] [] .b [] (fun x _ => grd (okB (x.1.length ≤ LEN)) (some (Sp.widths x.1 x.2.1, ()))) (fun x _ r h => FO (run46 x.1 x.2.1) (ok46 x.1 x.2.1) h)

theorem within_iff {f : Fn} {v : Int} : Sp.within f v = true ↔ 0 ≤ v ∧ v < f.widths.length := by simp [Sp.within]
def Sp.used (f : Fn) (l : List Int) (known : List Bool) : Bool := l.all fun v => Sp.within f v && known.getD v.toNat false
theorem ok48 (f : Fn) (l : List Int) (known : List Bool) (h : l.length ≤ LEN ∧ known.length = f.widths.length) : go48 f l known = some (Sp.used f l known, ()) := by
  obtain ⟨hl, hk⟩ := h
  rw [lenVal] at hl
  unfold go48 go48_l1
  refine callB_of (whileO_all (l := l) (st := fun i => ((l, known, (), (i : Int), ()), f, ())) rfl 0 (fun v => Sp.within f v && known.getD v.toNat false) (A := .inl ((), ())) (B := .inr ((false, ()), ())) (fun i hi hp => ?_) (fun i hi hp => ?_) (fun _ => ?_)) ?_
  · simp only [Bool.and_eq_true] at hp
    obtain ⟨h1, h2⟩ := hp
    obtain ⟨h3, h4⟩ := within_iff.1 h1
    simp (maxSteps := 1000000) (disch := ((try dsimp only); omega)) only [↓grd_dec, ↓grd_blt, ↓grd_true, ↓jpO_eq, ↓callB_some, ↓callB_grd, ↓bif_decide, ↓sumO_inl, ↓sumO_inr, ↓if_pos, ↓if_neg, ↓cond_true, ↓cond_false, ↓bif_not, Int.toNat_natCast, Bool.not_true, Bool.not_false, decide_true, decide_false, Bool.false_eq_true, ↓if_true, ↓if_false, Int.natCast_add, Int.cast_ofNat_Int, Bool.not_eq_true', decide_eq_false_iff_not, not_true_eq_false, not_false_eq_true]
    rw [h1, h2]; rfl
  · simp only [Bool.and_eq_false_iff] at hp
    simp (maxSteps := 1000000) (disch := ((try dsimp only); omega)) only [↓grd_dec, ↓grd_blt, ↓grd_true, ↓jpO_eq, ↓callB_some, ↓callB_grd, ↓bif_decide, ↓sumO_inl, ↓sumO_inr, ↓if_pos, ↓if_neg, ↓cond_true, ↓cond_false, ↓bif_not, Int.toNat_natCast, Bool.not_true, Bool.not_false, decide_true, decide_false, Bool.false_eq_true, ↓if_true, ↓if_false, Int.natCast_add, Int.cast_ofNat_Int, Bool.not_eq_true', decide_eq_false_iff_not, not_true_eq_false, not_false_eq_true]
    cases h1 : Sp.within f (l.getD i 0) with
    | false => rfl
    | true =>
      obtain ⟨h3, h4⟩ := within_iff.1 h1
      rw [h1] at hp
      simp (maxSteps := 1000000) (disch := ((try dsimp only); omega)) only [↓grd_dec, ↓grd_blt, ↓grd_true, ↓jpO_eq, ↓callB_some, ↓callB_grd, ↓bif_decide, ↓sumO_inl, ↓sumO_inr, ↓if_pos, ↓if_neg, ↓cond_true, ↓cond_false, ↓bif_not, Int.toNat_natCast, Bool.not_true, Bool.not_false, decide_true, decide_false, Bool.false_eq_true, ↓if_true, ↓if_false, Int.natCast_add, Int.cast_ofNat_Int, Bool.not_eq_true', decide_eq_false_iff_not, not_true_eq_false, not_false_eq_true]
      rcases hp with hp | hp
      · cases hp
      · rw [hp]; rfl
  · simp (maxSteps := 1000000) (disch := ((try dsimp only); omega)) only [↓grd_dec, ↓grd_blt, ↓grd_true, ↓jpO_eq, ↓callB_some, ↓callB_grd, ↓bif_decide, ↓sumO_inl, ↓sumO_inr, ↓if_pos, ↓if_neg, ↓cond_true, ↓cond_false, ↓bif_not, Int.toNat_natCast, Bool.not_true, Bool.not_false, decide_true, decide_false, Bool.false_eq_true, ↓if_true, ↓if_false, Int.natCast_add, Int.cast_ofNat_Int, Bool.not_eq_true', decide_eq_false_iff_not, not_true_eq_false, not_false_eq_true]
  · unfold Sp.used
    cases (l.all fun v => Sp.within f v && known.getD v.toNat false) <;> simp
def c48 : Ctr Try.prog := mkCtr 48 Try.f48 Try.func48 [c47] ann48 [(0, (.st 6)), (1, (.fz (.int .i64))), (2, (.fz .bool))] [] .b [] (fun x _ => grd (okB (x.2.1.length ≤ LEN ∧ x.2.2.1.length = x.1.widths.length)) (some (Sp.used x.1 x.2.1 x.2.2.1, ()))) (fun x _ r h => FO (run48 x.1 x.2.1 x.2.2.1) (ok48 x.1 x.2.1 x.2.2.1) h)

def Sp.half (x : Int) : Nat → Int
  | 0 => x
  | k + 1 => IntKind.u64.wrap ((Sp.half x k).tdiv 2)
def Sp.bitsL (x : Int) (n : Nat) : List Int := (List.range n).map fun k => (Sp.half x k).tmod 2
theorem bitsL_succ (x : Int) (n : Nat) : Sp.bitsL x (n + 1) = Sp.bitsL x n ++ [(Sp.half x n).tmod 2] := by simp [Sp.bitsL, List.range_succ]
theorem bitsL_len (x : Int) (n : Nat) : (Sp.bitsL x n).length = n := by simp [Sp.bitsL]
theorem tmod2 (a : Int) : -2 < a.tmod 2 ∧ a.tmod 2 < 2 := ⟨Int.lt_tmod_of_pos a (by decide), Int.tmod_lt_of_pos a (by decide)⟩
theorem ok76 (w x : Int) : go76 w x = some (Sp.bitsL x (Sp.width w).toNat, ()) := by
  have hw := width_le w
  unfold go76 go76_l1
  refine callB_of (whileO_to (st := fun i => ((w, Sp.half x i, (), (i : Int), ()), Sp.bitsL x i, ())) rfl (Sp.width w).toNat (X0 := (((), ()), (Sp.bitsL x (Sp.width w).toNat, ()))) (fun i hi => ?_) ?_) ?_
  · have hl := bitsL_len x i
    have h2 := tmod2 (Sp.half x i)
    simp (maxSteps := 1000000) (disch := ((try dsimp only); omega)) only [↓grd_dec, ↓grd_blt, ↓grd_true, ↓jpO_eq, ↓callB_some, ↓callB_grd, ↓bif_decide, ↓sumO_inl, ↓sumO_inr, ↓if_pos, ↓if_neg, ↓cond_true, ↓cond_false, ↓bif_not, Int.toNat_natCast, Bool.not_true, Bool.not_false, decide_true, decide_false, Bool.false_eq_true, ↓if_true, ↓if_false, Int.natCast_add, Int.cast_ofNat_Int, Bool.not_eq_true', decide_eq_false_iff_not, not_true_eq_false, not_false_eq_true]
    rw [wrap_in (by omega) (by omega), bitsL_succ]
    rfl
  · simp (maxSteps := 1000000) (disch := ((try dsimp only); omega)) only [↓grd_dec, ↓grd_blt, ↓grd_true, ↓jpO_eq, ↓callB_some, ↓callB_grd, ↓bif_decide, ↓sumO_inl, ↓sumO_inr, ↓if_pos, ↓if_neg, ↓cond_true, ↓cond_false, ↓bif_not, Int.toNat_natCast, Bool.not_true, Bool.not_false, decide_true, decide_false, Bool.false_eq_true, ↓if_true, ↓if_false, Int.natCast_add, Int.cast_ofNat_Int, Bool.not_eq_true', decide_eq_false_iff_not, not_true_eq_false, not_false_eq_true]
  · rfl
def c76 : Ctr Try.prog := mkCtr 76 Try.f76 Try.func76 [c78] ann76 [(0, (.i .i64)), (1, (.i .u64))] [] (.fz (.int .i64)) [] (fun x _ => some (Sp.bitsL x.2.1 (Sp.width x.1).toNat, ())) (fun x _ r h => FE (run76 x.1 x.2.1) (ok76 x.1 x.2.1) h)

def Sp.identAt (s : ByteArray) (i : Nat) : Bool := Sp.letter (strAt s i) || (!decide (i = 0) && !decide (Sp.digit (strAt s i) 10 < 0))
def Sp.ident (s : ByteArray) : Bool := (List.range s.size).all (Sp.identAt s) && (decide (1 ≤ (s.size : Int)) && decide ((s.size : Int) ≤ 64))
theorem ok44 (s : ByteArray) (hs : s.size ≤ 9223372036854775807) : go44 s = some (Sp.ident s, ()) := by
  unfold go44 go44_l1 go44_j1
  refine callB_of (whileO_all (l := List.range s.size) (st := fun i => ((s, (i : Int), ()), ())) rfl 0 (Sp.identAt s) (A := .inl ((s, ()), ())) (B := .inr ((false, ()), ())) (fun i hi hp => ?_) (fun i hi hp => ?_) (fun _ => ?_)) ?_
  · rw [List.length_range] at hi
    have e : (List.range s.size).getD i 0 = i := by simp [List.getD_eq_getElem?_getD, hi]
    rw [e] at hp
    unfold Sp.identAt at hp
    simp (maxSteps := 1000000) (disch := ((try dsimp only); omega)) only [↓grd_dec, ↓grd_blt, ↓grd_true, ↓jpO_eq, ↓callB_some, ↓callB_grd, ↓bif_decide, ↓sumO_inl, ↓sumO_inr, ↓if_pos, ↓if_neg, ↓cond_true, ↓cond_false, ↓bif_not, Int.toNat_natCast, Bool.not_true, Bool.not_false, decide_true, decide_false, Bool.false_eq_true, ↓if_true, ↓if_false, Int.natCast_add, Int.cast_ofNat_Int, Bool.not_eq_true', decide_eq_false_iff_not, not_true_eq_false, not_false_eq_true]
    cases h1 : Sp.letter (strAt s i) with
    | true => rfl
    | false =>
      rw [h1] at hp
      simp only [Bool.false_or, Bool.and_eq_true, Bool.not_eq_true', decide_eq_false_iff_not] at hp
      simp (maxSteps := 1000000) (disch := ((try dsimp only); omega)) only [↓grd_dec, ↓grd_blt, ↓grd_true, ↓jpO_eq, ↓callB_some, ↓callB_grd, ↓bif_decide, ↓sumO_inl, ↓sumO_inr, ↓if_pos, ↓if_neg, ↓cond_true, ↓cond_false, ↓bif_not, Int.toNat_natCast, Bool.not_true, Bool.not_false, decide_true, decide_false, Bool.false_eq_true, ↓if_true, ↓if_false, Int.natCast_add, Int.cast_ofNat_Int, Bool.not_eq_true', decide_eq_false_iff_not, not_true_eq_false, not_false_eq_true]
  · rw [List.length_range] at hi
    have e : (List.range s.size).getD i 0 = i := by simp [List.getD_eq_getElem?_getD, hi]
    rw [e] at hp
    unfold Sp.identAt at hp
    simp only [Bool.or_eq_false_iff] at hp
    simp (maxSteps := 1000000) (disch := ((try dsimp only); omega)) only [↓grd_dec, ↓grd_blt, ↓grd_true, ↓jpO_eq, ↓callB_some, ↓callB_grd, ↓bif_decide, ↓sumO_inl, ↓sumO_inr, ↓if_pos, ↓if_neg, ↓cond_true, ↓cond_false, ↓bif_not, Int.toNat_natCast, Bool.not_true, Bool.not_false, decide_true, decide_false, Bool.false_eq_true, ↓if_true, ↓if_false, Int.natCast_add, Int.cast_ofNat_Int, Bool.not_eq_true', decide_eq_false_iff_not, not_true_eq_false, not_false_eq_true]
    rw [hp.1]
    simp (maxSteps := 1000000) (disch := ((try dsimp only); omega)) only [↓grd_dec, ↓grd_blt, ↓grd_true, ↓jpO_eq, ↓callB_some, ↓callB_grd, ↓bif_decide, ↓sumO_inl, ↓sumO_inr, ↓if_pos, ↓if_neg, ↓cond_true, ↓cond_false, ↓bif_not, Int.toNat_natCast, Bool.not_true, Bool.not_false, decide_true, decide_false, Bool.false_eq_true, ↓if_true, ↓if_false, Int.natCast_add, Int.cast_ofNat_Int, Bool.not_eq_true', decide_eq_false_iff_not, not_true_eq_false, not_false_eq_true]
    by_cases h2 : i = 0
    · subst h2; rfl
    · have h3 : Sp.digit (strAt s i) 10 < 0 := by simpa [h2] using hp.2
      simp (maxSteps := 1000000) (disch := ((try dsimp only); omega)) only [↓grd_dec, ↓grd_blt, ↓grd_true, ↓jpO_eq, ↓callB_some, ↓callB_grd, ↓bif_decide, ↓sumO_inl, ↓sumO_inr, ↓if_pos, ↓if_neg, ↓cond_true, ↓cond_false, ↓bif_not, Int.toNat_natCast, Bool.not_true, Bool.not_false, decide_true, decide_false, Bool.false_eq_true, ↓if_true, ↓if_false, Int.natCast_add, Int.cast_ofNat_Int, Bool.not_eq_true', decide_eq_false_iff_not, not_true_eq_false, not_false_eq_true]
  · rw [List.length_range]
    simp (maxSteps := 1000000) (disch := ((try dsimp only); omega)) only [↓grd_dec, ↓grd_blt, ↓grd_true, ↓jpO_eq, ↓callB_some, ↓callB_grd, ↓bif_decide, ↓sumO_inl, ↓sumO_inr, ↓if_pos, ↓if_neg, ↓cond_true, ↓cond_false, ↓bif_not, Int.toNat_natCast, Bool.not_true, Bool.not_false, decide_true, decide_false, Bool.false_eq_true, ↓if_true, ↓if_false, Int.natCast_add, Int.cast_ofNat_Int, Bool.not_eq_true', decide_eq_false_iff_not, not_true_eq_false, not_false_eq_true]
  · unfold Sp.ident
    cases (List.range s.size).all (Sp.identAt s)
    · simp
    · simp (maxSteps := 1000000) (disch := ((try dsimp only); omega)) only [↓grd_dec, ↓grd_blt, ↓grd_true, ↓jpO_eq, ↓callB_some, ↓callB_grd, ↓bif_decide, ↓sumO_inl, ↓sumO_inr, ↓if_pos, ↓if_neg, ↓cond_true, ↓cond_false, ↓bif_not, Int.toNat_natCast, Bool.not_true, Bool.not_false, decide_true, decide_false, Bool.false_eq_true, ↓if_true, ↓if_false, Int.natCast_add, Int.cast_ofNat_Int, Bool.not_eq_true', decide_eq_false_iff_not, not_true_eq_false, not_false_eq_true]
      by_cases h : (1 : Int) ≤ s.size <;> simp [h]
def c44 : Ctr Try.prog := mkCtr 44 Try.f44 Try.func44 [c90, c91] ann44 [(0, .s)] [] .b [] (fun x _ => grd (okB (x.1.size ≤ 9223372036854775807)) (some (Sp.ident x.1, ()))) (fun x _ r h => FO (run44 x.1) (ok44 x.1) h)
end
end Go.Abs
