/-
What functions compute: instructions.
No statement of the program is proved here.
-/
import Derived.Test.YtlcholjffgaemaaV5
set_option linter.unusedVariables false
set_option linter.unusedSectionVars false
set_option linter.unusedSimpArgs false
set_option maxHeartbeats 1000000
namespace Go.Abs
open Go Go.Proofs
noncomputable section
def ann50 : Ann := (.seq .o (.join ⟨[(2, (.ptr 0 0)), (3, (.ptr 1 0))], [(.box 30 (.st 6)), (.box 46 (.st 0))]⟩ (.seq .o (.cond (.seq .o .o) .o)) (.join ⟨[(2, (.ptr 0 0)), (3, (.ptr 1 0)), (5, .b)], [(.box 30 (.st 6)), (.box 46 (.st 0))]⟩ .o (.join ⟨[(2, (.ptr 0 0)), (3, (.ptr 1 0)), (5, .b)], [(.box 30 (.st 6)), (.box 46 (.st 0))]⟩ (.seq .o (.cond (.seq .o .o) .o)) (.seq .o (.join ⟨[(2, (.ptr 0 0)), (3, (.ptr 1 0)), (5, .b), (6, (.i .i64))], [(.box 30 (.st 6)), (.box 46 (.st 0))]⟩ (.seq .o (.cond .o .o)) (.seq .o (.join ⟨[(2, (.ptr 0 0)), (3, (.ptr 1 0)), (5, .b), (6, (.i .i64)), (7, (.full 2))], [(.box 30 (.st 6)), (.box 46 (.st 0)), (.lst 3 (.int .i64))]⟩ (.seq .o (.block (.loop ⟨[(2, (.ptr 0 0)), (3, (.ptr 1 0)), (5, .b), (6, (.i .i64)), (7, (.full 2)), (8, (.i .i64))], [(.box 30 (.st 6)), (.box 46 (.st 0)), (.lst 3 (.int .i64))]⟩ [((.exit 0), ⟨[(2, (.ptr 0 0)), (3, (.ptr 1 0)), (5, .b), (6, (.i .i64)), (7, (.full 2))], [(.box 30 (.st 6)), (.box 46 (.st 0)), (.lst 3 (.int .i64))]⟩)] (.join ⟨[(2, (.ptr 0 0)), (3, (.ptr 1 0)), (5, .b), (6, (.i .i64)), (7, (.full 2)), (8, (.i .i64))], [(.box 30 (.st 6)), (.box 46 (.st 0)), (.lst 3 (.int .i64))]⟩ (.seq .o (.cond .o .o)) (.join ⟨[(2, (.ptr 0 0)), (3, (.ptr 1 0)), (5, .b), (6, (.i .i64)), (7, (.full 2)), (8, (.i .i64))], [(.box 30 (.st 6)), (.box 46 (.st 0)), (.lst 3 (.int .i64))]⟩ (.block .o) .o))))) (.seq .o (.join ⟨[(3, (.ptr 0 0)), (6, (.i .i64)), (7, (.full 1)), (9, (.i .i64))], [(.box 46 (.st 0)), (.lst 3 (.int .i64))]⟩ (.join ⟨[(2, (.ptr 0 0)), (3, (.ptr 1 0)), (5, .b), (6, (.i .i64)), (7, (.full 2)), (9, (.i .i64)), (69, .b)], [(.box 30 (.st 6)), (.box 46 (.st 0)), (.lst 3 (.int .i64))]⟩ .o (.cond (.join ⟨[(2, (.ptr 0 0)), (3, (.ptr 1 0)), (6, (.i .i64)), (7, (.full 2))], [(.box 30 (.st 6)), (.box 46 (.st 0)), (.lst 3 (.int .i64))]⟩ (.seq .o (.cond (.seq .o .o) .o)) .o) (.seq .o (.cond (.join ⟨[(2, (.ptr 0 0)), (3, (.ptr 1 0)), (6, (.i .i64)), (7, (.full 2))], [(.box 30 (.st 6)), (.box 46 (.st 0)), (.lst 3 (.int .i64))]⟩ (.seq .o (.cond (.seq .o .o) .o)) .o) .o)))) (.join ⟨[(3, (.ptr 0 0)), (6, (.i .i64)), (7, (.full 1))], [(.box 46 (.st 0)), (.lst 3 (.int .i64))]⟩ (.seq .o (.block (.seq .o (.cond (.seq .o .o) (.seq .o (.cond (.seq .o .o) (.join ⟨[(3, (.ptr 0 0)), (6, (.i .i64)), (7, (.full 1)), (9, (.i .i64)), (121, (.i .i64)), (151, .b)], [(.box 46 (.st 0)), (.lst 3 (.int .i64))]⟩ (.seq .o (.cond .o .o)) (.cond (.seq .o .o) (.seq .o (.cond (.seq .o .o) (.seq .o (.cond (.seq .o .o) (.seq .o (.cond (.seq .o .o) (.seq .o (.cond (.seq .o .o) (.seq .o (.cond (.seq .o .o) .o)))))))))))))))))) (.join ⟨[(6, (.i .i64)), (7, (.full 0))], [(.lst 3 (.int .i64))]⟩ (.seq .o (.cond (.seq .o .o) .o)) (.seq .o .o)))))))))))))
def go50_j7 (j0 : (((Unit × (Int × (Unit × (Int × Unit)))) × (Inst × ((List Int) × Unit))) → (Option (Bool × Unit)))) : ((Unit × (Unit × (Bool × (Int × (Unit × (Int × (Bool × Unit))))))) × (Fn × (Inst × ((List Int) × Unit)))) → Option (Bool × Unit) := (fun (z5 : ((Unit × (Unit × (Bool × (Int × (Unit × (Int × (Bool × Unit))))))) × (Fn × (Inst × ((List Int) × Unit))))) => (bif z5.1.2.2.2.2.2.2.1 then
      (bif (decide (z5.2.2.1.mem < (0 : Int))) then
        (some (false, ()))
        else
        (bif (decide (((z5.2.1.arrays.length : Nat) : Int) ≤ z5.2.2.1.mem)) then
          (some (false, ()))
          else
          (grd (okB (((0 : Int) ≤ z5.2.2.1.mem) ∧ (z5.2.2.1.mem < ((z5.2.1.arrays.length : Nat) : Int))))
            (j0 (((), (z5.1.2.2.2.1, ((), ((z5.2.1.arrays.getD z5.2.2.1.mem.toNat Arr.z).width, ())))), (z5.2.2.1, (z5.2.2.2.1, ())))))))
      else
      (bif z5.1.2.2.1 then
        (bif (decide (z5.2.2.1.mem < (0 : Int))) then
          (some (false, ()))
          else
          (bif (decide (((z5.2.1.streams.length : Nat) : Int) ≤ z5.2.2.1.mem)) then
            (some (false, ()))
            else
            (grd (okB (((0 : Int) ≤ z5.2.2.1.mem) ∧ (z5.2.2.1.mem < ((z5.2.1.streams.length : Nat) : Int))))
              (bif (!((z5.2.1.streams.getD z5.2.2.1.mem.toNat Strm.z).out == (decide (z5.2.2.1.op = (28 : Int))))) then
                (some (false, ()))
                else
                (grd (okB (((0 : Int) ≤ z5.2.2.1.mem) ∧ (z5.2.2.1.mem < ((z5.2.1.streams.length : Nat) : Int))))
                  (j0 (((), (z5.1.2.2.2.1, ((), ((z5.2.1.streams.getD z5.2.2.1.mem.toNat Strm.z).width, ())))), (z5.2.2.1, (z5.2.2.2.1, ())))))))))
        else
        (j0 (((), (z5.1.2.2.2.1, ((), (z5.1.2.2.2.2.2.1, ())))), (z5.2.2.1, (z5.2.2.2.1, ())))))))
def go50_j6 : ((Unit × (Int × (Unit × (Int × (Int × (Bool × Unit)))))) × (Inst × ((List Int) × Unit))) → Option (Bool × Unit) := (fun (z6 : ((Unit × (Int × (Unit × (Int × (Int × (Bool × Unit)))))) × (Inst × ((List Int) × Unit)))) => (bif z6.1.2.2.2.2.2.1 then
      (grd (okB (((0 : Int) ≤ (0 : Int)) ∧ ((0 : Int) < ((z6.2.2.1.length : Nat) : Int))))
        (grd (Nat.blt (0 : Int).toNat z6.2.2.1.length)
          (some ((decide ((z6.2.2.1.getD (0 : Int).toNat (0 : Int)) < z6.1.2.1)), ()))))
      else
      (bif (decide (z6.1.2.2.2.2.1 = (24 : Int))) then
        (grd (okB (((0 : Int) ≤ (0 : Int)) ∧ ((0 : Int) < ((z6.2.2.1.length : Nat) : Int))))
          (grd (Nat.blt (0 : Int).toNat z6.2.2.1.length)
            (some ((decide (z6.1.2.1 < (z6.2.2.1.getD (0 : Int).toNat (0 : Int)))), ()))))
        else
        (bif (decide (z6.1.2.2.2.2.1 = (25 : Int))) then
          (bif (decide (z6.1.2.2.2.1 = z6.1.2.1)) then
            (grd (okB (((0 : Int) ≤ (1 : Int)) ∧ ((1 : Int) < ((z6.2.2.1.length : Nat) : Int))))
              (grd (Nat.blt (1 : Int).toNat z6.2.2.1.length)
                (some ((decide ((z6.2.2.1.getD (1 : Int).toNat (0 : Int)) = (1 : Int))), ()))))
            else
            (some (false, ())))
          else
          (bif (decide (z6.1.2.2.2.2.1 = (26 : Int))) then
            (grd (okB (((0 : Int) ≤ (1 : Int)) ∧ ((1 : Int) < ((z6.2.2.1.length : Nat) : Int))))
              (grd (Nat.blt (1 : Int).toNat z6.2.2.1.length)
                (bif (decide (z6.1.2.2.2.1 = (z6.2.2.1.getD (1 : Int).toNat (0 : Int)))) then
                  (grd (okB (((0 : Int) ≤ (2 : Int)) ∧ ((2 : Int) < ((z6.2.2.1.length : Nat) : Int))))
                    (grd (Nat.blt (2 : Int).toNat z6.2.2.1.length)
                      (some ((decide ((z6.2.2.1.getD (2 : Int).toNat (0 : Int)) = (1 : Int))), ()))))
                  else
                  (some (false, ())))))
            else
            (bif (decide (z6.1.2.2.2.2.1 = (27 : Int))) then
              (bif (decide (z6.1.2.2.2.1 = z6.1.2.1)) then
                (grd (okB (((0 : Int) ≤ (0 : Int)) ∧ ((0 : Int) < ((z6.2.2.1.length : Nat) : Int))))
                  (grd (Nat.blt (0 : Int).toNat z6.2.2.1.length)
                    (some ((decide ((z6.2.2.1.getD (0 : Int).toNat (0 : Int)) = (1 : Int))), ()))))
                else
                (some (false, ())))
              else
              (bif (decide (z6.1.2.2.2.2.1 = (28 : Int))) then
                (grd (okB (((0 : Int) ≤ (0 : Int)) ∧ ((0 : Int) < ((z6.2.2.1.length : Nat) : Int))))
                  (grd (Nat.blt (0 : Int).toNat z6.2.2.1.length)
                    (bif (decide (z6.1.2.2.2.1 = (z6.2.2.1.getD (0 : Int).toNat (0 : Int)))) then
                      (grd (okB (((0 : Int) ≤ (1 : Int)) ∧ ((1 : Int) < ((z6.2.2.1.length : Nat) : Int))))
                        (grd (Nat.blt (1 : Int).toNat z6.2.2.1.length)
                          (some ((decide ((z6.2.2.1.getD (1 : Int).toNat (0 : Int)) = (1 : Int))), ()))))
                      else
                      (some (false, ())))))
                else
                (bif (Sp.isCompare z6.2.1.op) then
                  (bif (decide (z6.1.2.1 = (1 : Int))) then
                    (grd (okB (((0 : Int) ≤ (0 : Int)) ∧ ((0 : Int) < ((z6.2.2.1.length : Nat) : Int))))
                      (grd (Nat.blt (0 : Int).toNat z6.2.2.1.length)
                        (grd (okB (((0 : Int) ≤ (1 : Int)) ∧ ((1 : Int) < ((z6.2.2.1.length : Nat) : Int))))
                          (grd (Nat.blt (1 : Int).toNat z6.2.2.1.length)
                            (some ((decide ((z6.2.2.1.getD (0 : Int).toNat (0 : Int)) = (z6.2.2.1.getD (1 : Int).toNat (0 : Int)))), ()))))))
                    else
                    (some (false, ())))
                  else
                  (grd (okB (((0 : Int) ≤ (0 : Int)) ∧ ((0 : Int) < ((z6.2.2.1.length : Nat) : Int))))
                    (grd (Nat.blt (0 : Int).toNat z6.2.2.1.length)
                      (bif (decide ((z6.2.2.1.getD (0 : Int).toNat (0 : Int)) = z6.1.2.1)) then
                        (grd (okB (((0 : Int) ≤ (1 : Int)) ∧ ((1 : Int) < ((z6.2.2.1.length : Nat) : Int))))
                          (grd (Nat.blt (1 : Int).toNat z6.2.2.1.length)
                            (some ((decide ((z6.2.2.1.getD (1 : Int).toNat (0 : Int)) = z6.1.2.1)), ()))))
                        else
                        (some (false, ())))))))))))))
def go50_j5 : ((Unit × (Int × (Unit × (Int × Unit)))) × (Inst × ((List Int) × Unit))) → Option (Bool × Unit) := (fun (z5 : ((Unit × (Int × (Unit × (Int × Unit)))) × (Inst × ((List Int) × Unit)))) => (bif (decide (z5.2.1.op = (1 : Int))) then
      (some ((decide ((Sp.fit z5.1.2.1 z5.2.1.num) = z5.2.1.num)), ()))
      else
      (bif (decide (z5.2.1.op = (21 : Int))) then
        (grd (okB (((0 : Int) ≤ (0 : Int)) ∧ ((0 : Int) < ((z5.2.2.1.length : Nat) : Int))))
          (grd (Nat.blt (0 : Int).toNat z5.2.2.1.length)
            (bif (decide ((z5.2.2.1.getD (0 : Int).toNat (0 : Int)) = (1 : Int))) then
              (grd (okB (((0 : Int) ≤ (1 : Int)) ∧ ((1 : Int) < ((z5.2.2.1.length : Nat) : Int))))
                (grd (Nat.blt (1 : Int).toNat z5.2.2.1.length)
                  (bif (decide ((z5.2.2.1.getD (1 : Int).toNat (0 : Int)) = z5.1.2.1)) then
                    (grd (okB (((0 : Int) ≤ (2 : Int)) ∧ ((2 : Int) < ((z5.2.2.1.length : Nat) : Int))))
                      (grd (Nat.blt (2 : Int).toNat z5.2.2.1.length)
                        (some ((decide ((z5.2.2.1.getD (2 : Int).toNat (0 : Int)) = z5.1.2.1)), ()))))
                    else
                    (some (false, ())))))
              else
              (some (false, ())))))
        else
        (jpO (go50_j6)
          (fun (j0 : (((Unit × (Int × (Unit × (Int × (Int × (Bool × Unit)))))) × (Inst × ((List Int) × Unit))) → (Option (Bool × Unit)))) => (bif (decide (z5.2.1.op = (22 : Int))) then
              (j0 (((), (z5.1.2.1, ((), (z5.1.2.2.2.1, (z5.2.1.op, (true, ())))))), (z5.2.1, (z5.2.2.1, ()))))
              else
              (j0 (((), (z5.1.2.1, ((), (z5.1.2.2.2.1, (z5.2.1.op, ((decide (z5.2.1.op = (23 : Int))), ())))))), (z5.2.1, (z5.2.2.1, ()))))))))))
def go50_l1 : ((Unit × (Unit × (Bool × (Int × (Unit × (Int × Unit)))))) × (Fn × (Inst × ((List Int) × Unit)))) → Option (((Unit × (Unit × (Bool × (Int × (Unit × (Int × Unit)))))) × (Fn × (Inst × ((List Int) × Unit)))) ⊕ ((Unit × (Unit × (Bool × (Int × (Unit × Unit))))) × (Fn × (Inst × ((List Int) × Unit))))) := (fun (r0 : ((Unit × (Unit × (Bool × (Int × (Unit × (Int × Unit)))))) × (Fn × (Inst × ((List Int) × Unit))))) => (bif (decide (r0.1.2.2.2.2.2.1 < ((r0.2.2.1.args.length : Nat) : Int))) then
      (grd (okB (((0 : Int) ≤ r0.1.2.2.2.2.2.1) ∧ (r0.1.2.2.2.2.2.1 < ((r0.2.2.1.args.length : Nat) : Int))))
        (grd (okB (((0 : Int) ≤ (r0.2.2.1.args.getD r0.1.2.2.2.2.2.1.toNat (0 : Int))) ∧ ((r0.2.2.1.args.getD r0.1.2.2.2.2.2.1.toNat (0 : Int)) < ((r0.2.1.widths.length : Nat) : Int))))
          (grd (okB (((0 : Int) ≤ r0.1.2.2.2.2.2.1) ∧ (r0.1.2.2.2.2.2.1 < ((r0.2.2.2.1.length : Nat) : Int))))
            (grd (Nat.blt r0.1.2.2.2.2.2.1.toNat r0.2.2.2.1.length)
              (grd (okB (((-(9223372036854775808 : Int)) ≤ (r0.1.2.2.2.2.2.1 + (1 : Int))) ∧ ((r0.1.2.2.2.2.2.1 + (1 : Int)) ≤ (9223372036854775807 : Int))))
                (some (Sum.inl (((), ((), (r0.1.2.2.1, (r0.1.2.2.2.1, ((), ((r0.1.2.2.2.2.2.1 + (1 : Int)), ())))))), (r0.2.1, (r0.2.2.1, ((r0.2.2.2.1.set r0.1.2.2.2.2.2.1.toNat (r0.2.1.widths.getD (r0.2.2.1.args.getD r0.1.2.2.2.2.2.1.toNat (0 : Int)).toNat (0 : Int))), ())))))))))))
      else
      (some (Sum.inr (((), ((), (r0.1.2.2.1, (r0.1.2.2.2.1, ((), ()))))), (r0.2.1, (r0.2.2.1, (r0.2.2.2.1, ()))))))))
def go50_j4 : ((Unit × (Unit × (Bool × (Int × Unit)))) × (Fn × (Inst × Unit))) → Option (Bool × Unit) := (fun (z3 : ((Unit × (Unit × (Bool × (Int × Unit)))) × (Fn × (Inst × Unit)))) => (callB (whileO (go50_l1) (((), ((), (z3.1.2.2.1, (z3.1.2.2.2.1, ((), ((0 : Int), ())))))), (z3.2.1, (z3.2.2.1, (((0 : Int) :: ((0 : Int) :: ((0 : Int) :: ([] : List Int)))), ())))))
      (fun (z4 : ((Unit × (Unit × (Bool × (Int × (Unit × Unit))))) × (Fn × (Inst × ((List Int) × Unit))))) => (jpO (go50_j5)
          (fun (j0 : (((Unit × (Int × (Unit × (Int × Unit)))) × (Inst × ((List Int) × Unit))) → (Option (Bool × Unit)))) => (jpO (go50_j7 j0)
              (fun (j1 : (((Unit × (Unit × (Bool × (Int × (Unit × (Int × (Bool × Unit))))))) × (Fn × (Inst × ((List Int) × Unit)))) → (Option (Bool × Unit)))) => (bif (decide (z4.2.2.1.op = (25 : Int))) then
                  (j1 (((), ((), (z4.1.2.2.1, (z4.1.2.2.2.1, ((), ((0 : Int), (true, ()))))))), (z4.2.1, (z4.2.2.1, (z4.2.2.2.1, ())))))
                  else
                  (j1 (((), ((), (z4.1.2.2.1, (z4.1.2.2.2.1, ((), ((0 : Int), ((decide (z4.2.2.1.op = (26 : Int))), ()))))))), (z4.2.1, (z4.2.2.1, (z4.2.2.2.1, ())))))))))))))
def go50_j3 : ((Unit × (Unit × (Bool × Unit))) × (Fn × (Inst × Unit))) → Option (Bool × Unit) := (fun (z2 : ((Unit × (Unit × (Bool × Unit))) × (Fn × (Inst × Unit)))) => (jpO (go50_j4)
      (fun (j0 : (((Unit × (Unit × (Bool × (Int × Unit)))) × (Fn × (Inst × Unit))) → (Option (Bool × Unit)))) => (bif (Sp.result z2.2.2.1.op) then
          (grd (okB (((0 : Int) ≤ z2.2.2.1.dest) ∧ (z2.2.2.1.dest < ((z2.2.1.widths.length : Nat) : Int))))
            (j0 (((), ((), (z2.1.2.2.1, ((z2.2.1.widths.getD z2.2.2.1.dest.toNat (0 : Int)), ())))), (z2.2.1, (z2.2.2.1, ())))))
          else
          (j0 (((), ((), (z2.1.2.2.1, ((0 : Int), ())))), (z2.2.1, (z2.2.2.1, ()))))))))
def go50_j2 : ((Unit × (Unit × (Bool × Unit))) × (Fn × (Inst × Unit))) → Option (Bool × Unit) := (fun (z1 : ((Unit × (Unit × (Bool × Unit))) × (Fn × (Inst × Unit)))) => (jpO (go50_j3)
      (fun (j0 : (((Unit × (Unit × (Bool × Unit))) × (Fn × (Inst × Unit))) → (Option (Bool × Unit)))) => (bif (!(decide (z1.2.2.1.mem = (0 : Int)))) then
          (bif (!z1.1.2.2.1) then
            (some (false, ()))
            else
            (j0 (((), ((), (z1.1.2.2.1, ()))), (z1.2.1, (z1.2.2.1, ())))))
          else
          (j0 (((), ((), (z1.1.2.2.1, ()))), (z1.2.1, (z1.2.2.1, ()))))))))
def go50_j1 : ((Unit × (Unit × Unit)) × (Fn × (Inst × Unit))) → Option (Bool × Unit) := (fun (z0 : ((Unit × (Unit × Unit)) × (Fn × (Inst × Unit)))) => (jpO (go50_j2)
      (fun (j0 : (((Unit × (Unit × (Bool × Unit))) × (Fn × (Inst × Unit))) → (Option (Bool × Unit)))) => (bif (decide ((25 : Int) ≤ z0.2.2.1.op)) then
          (j0 (((), ((), ((decide (z0.2.2.1.op ≤ (28 : Int))), ()))), (z0.2.1, (z0.2.2.1, ()))))
          else
          (j0 (((), ((), (false, ()))), (z0.2.1, (z0.2.2.1, ()))))))))
def go50 (x0 : Fn) (x1 : Inst) : (Option (Bool × Unit)) :=
  (jpO (go50_j1)
    (fun (j0 : (((Unit × (Unit × Unit)) × (Fn × (Inst × Unit))) → (Option (Bool × Unit)))) => (bif (!(decide (x1.num = (0 : Int)))) then
        (bif (!(decide (x1.op = (1 : Int)))) then
          (some (false, ()))
          else
          (j0 (((), ((), ())), (x0, (x1, ())))))
        else
        (j0 (((), ((), ())), (x0, (x1, ())))))))
theorem run50 (x0 : Fn) (x1 : Inst) : runF (P := Try.prog) [c49, c93, c94] Try.f50 ann50 [(0, (.st 6)), (1, (.st 0))] [] .b [] (x0, (x1, ())) () = go50 x0 x1 := by kernel_rfl

def Sp.memop (op : Int) : Bool := decide (25 ≤ op) && decide (op ≤ 28)
def Sp.wOf (f : Fn) (x : Inst) : Int := if Sp.result x.op then f.widths.getD x.dest.toNat 0 else 0
/-- The widths of the operands, as far as the loop has come. -/
def Sp.aL (f : Fn) (x : Inst) (i : Nat) : List Int :=
  [if 0 < i then f.widths.getD (x.args.getD 0 0).toNat 0 else 0, if 1 < i then f.widths.getD (x.args.getD 1 0).toNat 0 else 0, if 2 < i then f.widths.getD (x.args.getD 2 0).toNat 0 else 0]
def Sp.mOf (f : Fn) (x : Inst) : Int :=
  if x.op = 25 ∨ x.op = 26 then (f.arrays.getD x.mem.toNat Arr.z).width else if Sp.memop x.op then (f.streams.getD x.mem.toNat Strm.z).width else 0
def Sp.plainOk (x : Inst) : Bool := !(!decide (x.num = 0) && !decide (x.op = 1)) && !(!decide (x.mem = 0) && !Sp.memop x.op)
def Sp.memIx (f : Fn) (x : Inst) : Bool :=
  if x.op = 25 ∨ x.op = 26 then !decide (x.mem < 0) && !decide ((f.arrays.length : Int) ≤ x.mem)
  else if Sp.memop x.op then !decide (x.mem < 0) && !decide ((f.streams.length : Int) ≤ x.mem) && ((f.streams.getD x.mem.toNat Strm.z).out == decide (x.op = 28)) else true
def Sp.fitOk (x : Inst) (w m a0 a1 a2 : Int) : Bool :=
  if x.op = 1 then decide (Sp.fit w x.num = x.num)
  else if x.op = 21 then decide (a0 = 1) && decide (a1 = w) && decide (a2 = w)
  else if x.op = 22 ∨ x.op = 23 then decide (a0 < w)
  else if x.op = 24 then decide (w < a0)
  else if x.op = 25 then decide (m = w) && decide (a1 = 1)
  else if x.op = 26 then decide (m = a1) && decide (a2 = 1)
  else if x.op = 27 then decide (m = w) && decide (a0 = 1)
  else if x.op = 28 then decide (m = a0) && decide (a1 = 1)
  else if Sp.isCompare x.op then decide (w = 1) && decide (a0 = a1)
  else decide (a0 = w) && decide (a1 = w)
def Sp.instrOk (f : Fn) (x : Inst) : Bool :=
  Sp.plainOk x && Sp.memIx f x && Sp.fitOk x (Sp.wOf f x) (Sp.mOf f x) ((Sp.aL f x x.args.length).getD 0 0) ((Sp.aL f x x.args.length).getD 1 0) ((Sp.aL f x x.args.length).getD 2 0)
theorem aL_set (f : Fn) (x : Inst) {i : Nat} (h : i < 3) : (Sp.aL f x i).set i (f.widths.getD (x.args.getD i 0).toNat 0) = Sp.aL f x (i + 1) := by
  match i, h with
  | 0, _ => simp [Sp.aL]
  | 1, _ => simp [Sp.aL]
  | 2, _ => simp [Sp.aL]
section
variable {f : Fn} {x : Inst} {l : List Int} {w m : Int}
theorem j6_50 (hl : l.length = 3) (op : Int) (b : Bool) : go50_j6 (((), w, (), m, op, b, ()), x, l, ()) = some (if b = true then decide (l.getD 0 0 < w) else if op = 24 then decide (w < l.getD 0 0)
  else if op = 25 then decide (m = w) && decide (l.getD 1 0 = 1)
  else if op = 26 then decide (m = l.getD 1 0) && decide (l.getD 2 0 = 1)
  else if op = 27 then decide (m = w) && decide (l.getD 0 0 = 1)
  else if op = 28 then decide (m = l.getD 0 0) && decide (l.getD 1 0 = 1)
  else if Sp.isCompare x.op then decide (w = 1) && decide (l.getD 0 0 = l.getD 1 0)
  else decide (l.getD 0 0 = w) && decide (l.getD 1 0 = w), ()) := by
  unfold go50_j6
  have g : ∀ k : Nat, k < 3 → ∀ {ρ : Type} (y : Option ρ), grd (okB ((0 : Int) ≤ (k : Int) ∧ (k : Int) < ((l.length : Nat) : Int))) y = y := fun k hk ρ y => grd_dec (by omega)
  have g0 : ∀ {ρ : Type} (y : Option ρ), grd (okB ((0 : Int) ≤ (0 : Int) ∧ (0 : Int) < ((l.length : Nat) : Int))) y = y := g 0 (by omega)
  have g1 : ∀ {ρ : Type} (y : Option ρ), grd (okB ((0 : Int) ≤ (1 : Int) ∧ (1 : Int) < ((l.length : Nat) : Int))) y = y := g 1 (by omega)
  have g2 : ∀ {ρ : Type} (y : Option ρ), grd (okB ((0 : Int) ≤ (2 : Int) ∧ (2 : Int) < ((l.length : Nat) : Int))) y = y := g 2 (by omega)
  have b0 : ∀ {ρ : Type} (y : Option ρ), grd (Nat.blt 0 l.length) y = y := fun y => grd_blt (by omega)
  have b1 : ∀ {ρ : Type} (y : Option ρ), grd (Nat.blt 1 l.length) y = y := fun y => grd_blt (by omega)
  have b2 : ∀ {ρ : Type} (y : Option ρ), grd (Nat.blt 2 l.length) y = y := fun y => grd_blt (by omega)
  simp only [g0, g1, g2, b0, b1, b2, bif_decide, show Int.toNat 0 = 0 from rfl, show Int.toNat 1 = 1 from rfl, show Int.toNat 2 = 2 from rfl]
  generalize l.getD 0 0 = a0
  generalize l.getD 1 0 = a1
  generalize l.getD 2 0 = a2
  have ab : ∀ (p : Prop) [Decidable p] (c : Bool), (if p then (some (c, ()) : Option (Bool × Unit)) else some (false, ())) = some (decide p && c, ()) := fun p _ c => by by_cases h : p <;> simp [h]
  simp only [ab]
  cases b
  · cases Sp.isCompare x.op <;> simp only [cond_true, cond_false, Bool.false_eq_true, if_true, if_false] <;> repeat' split
    all_goals rfl
  · rfl
theorem j5_50 (hl : l.length = 3) : go50_j5 (((), w, (), m, ()), x, l, ()) = some (Sp.fitOk x w m (l.getD 0 0) (l.getD 1 0) (l.getD 2 0), ()) := by
  unfold go50_j5 Sp.fitOk
  have g0 : ∀ {ρ : Type} (y : Option ρ), grd (okB ((0 : Int) ≤ (0 : Int) ∧ (0 : Int) < ((l.length : Nat) : Int))) y = y := fun y => grd_dec (by omega)
  have g1 : ∀ {ρ : Type} (y : Option ρ), grd (okB ((0 : Int) ≤ (1 : Int) ∧ (1 : Int) < ((l.length : Nat) : Int))) y = y := fun y => grd_dec (by omega)
  have g2 : ∀ {ρ : Type} (y : Option ρ), grd (okB ((0 : Int) ≤ (2 : Int) ∧ (2 : Int) < ((l.length : Nat) : Int))) y = y := fun y => grd_dec (by omega)
  have b0 : ∀ {ρ : Type} (y : Option ρ), grd (Nat.blt 0 l.length) y = y := fun y => grd_blt (by omega)
  have b1 : ∀ {ρ : Type} (y : Option ρ), grd (Nat.blt 1 l.length) y = y := fun y => grd_blt (by omega)
  have b2 : ∀ {ρ : Type} (y : Option ρ), grd (Nat.blt 2 l.length) y = y := fun y => grd_blt (by omega)
  have ab : ∀ (p : Prop) [Decidable p] (c : Bool), (if p then (some (c, ()) : Option (Bool × Unit)) else some (false, ())) = some (decide p && c, ()) := fun p _ c => by by_cases h : p <;> simp [h]
  simp only [g0, g1, g2, b0, b1, b2, bif_decide, jpO_eq, j6_50 hl, show Int.toNat 0 = 0 from rfl, show Int.toNat 1 = 1 from rfl, show Int.toNat 2 = 2 from rfl, ab]
  by_cases h1 : x.op = 1
  · simp [h1]
  by_cases h2 : x.op = 21
  · simp [h2, Bool.and_assoc]
  by_cases h3 : x.op = 22
  · simp [h3]
  by_cases h4 : x.op = 23
  · simp [h4]
  simp [h1, h2, h3, h4]
theorem j7_50 (j0 : (((Unit × (Int × (Unit × (Int × Unit)))) × (Inst × ((List Int) × Unit))) → (Option (Bool × Unit)))) : go50_j7 j0 (((), (), Sp.memop x.op, w, (), 0, (decide (x.op = 25 ∨ x.op = 26)), ()), f, x, l, ()) =
    if Sp.memIx f x = true then j0 (((), w, (), Sp.mOf f x, ()), x, l, ()) else some (false, ()) := by
  unfold go50_j7 Sp.memIx Sp.mOf
  simp (maxSteps := 1000000) (disch := ((try dsimp only); omega)) only [↓grd_dec, ↓grd_blt, ↓grd_true, ↓jpO_eq, ↓callB_some, ↓callB_grd, ↓bif_decide, ↓sumO_inl, ↓sumO_inr, ↓if_pos, ↓if_neg, ↓cond_true, ↓cond_false, ↓bif_not, Int.toNat_natCast, Bool.not_true, Bool.not_false, decide_true, decide_false, Bool.false_eq_true, ↓if_true, ↓if_false, Int.natCast_add, Int.cast_ofNat_Int, Bool.not_eq_true', decide_eq_false_iff_not, not_true_eq_false, not_false_eq_true]
  by_cases h1 : x.op = 25 ∨ x.op = 26
  · simp only [if_pos h1]
    by_cases h2 : x.mem < 0 <;> by_cases h3 : (f.arrays.length : Int) ≤ x.mem <;> simp [h2, h3]
  · simp only [if_neg h1]
    cases Sp.memop x.op
    · simp
    · by_cases h2 : x.mem < 0 <;> by_cases h3 : (f.streams.length : Int) ≤ x.mem <;> cases (f.streams.getD x.mem.toNat Strm.z).out == decide (x.op = 28) <;> simp [h2, h3]
theorem j4_50 (ha : x.args.length ≤ 3) (hu : ∀ i, i < x.args.length → 0 ≤ x.args.getD i 0 ∧ x.args.getD i 0 < f.widths.length) : go50_j4 (((), (), Sp.memop x.op, w, ()), f, x, ()) =
    some (Sp.memIx f x && Sp.fitOk x w (Sp.mOf f x) ((Sp.aL f x x.args.length).getD 0 0) ((Sp.aL f x x.args.length).getD 1 0) ((Sp.aL f x x.args.length).getD 2 0), ()) := by
  unfold go50_j4 go50_l1
  refine callB_of (whileO_to (st := fun i => (((), (), Sp.memop x.op, w, (), (i : Int), ()), f, x, Sp.aL f x i, ())) rfl x.args.length (X0 := (((), (), Sp.memop x.op, w, (), ()), f, x, Sp.aL f x x.args.length, ())) (fun i hi => ?_) ?_) ?_
  · have hl : (Sp.aL f x i).length = 3 := rfl
    obtain ⟨u1, u2⟩ := hu i hi
    have e := aL_set f x (i := i) (by omega)
    simp (maxSteps := 1000000) (disch := ((try dsimp only); omega)) only [↓grd_dec, ↓grd_blt, ↓grd_true, ↓jpO_eq, ↓callB_some, ↓callB_grd, ↓bif_decide, ↓sumO_inl, ↓sumO_inr, ↓if_pos, ↓if_neg, ↓cond_true, ↓cond_false, ↓bif_not, Int.toNat_natCast, Bool.not_true, Bool.not_false, decide_true, decide_false, Bool.false_eq_true, ↓if_true, ↓if_false, Int.natCast_add, Int.cast_ofNat_Int, Bool.not_eq_true', decide_eq_false_iff_not, not_true_eq_false, not_false_eq_true]
    rw [← e]
  · simp (maxSteps := 1000000) (disch := ((try dsimp only); omega)) only [↓grd_dec, ↓grd_blt, ↓grd_true, ↓jpO_eq, ↓callB_some, ↓callB_grd, ↓bif_decide, ↓sumO_inl, ↓sumO_inr, ↓if_pos, ↓if_neg, ↓cond_true, ↓cond_false, ↓bif_not, Int.toNat_natCast, Bool.not_true, Bool.not_false, decide_true, decide_false, Bool.false_eq_true, ↓if_true, ↓if_false, Int.natCast_add, Int.cast_ofNat_Int, Bool.not_eq_true', decide_eq_false_iff_not, not_true_eq_false, not_false_eq_true]
  · have hl : (Sp.aL f x x.args.length).length = 3 := rfl
    have e : ∀ b : Bool, b = decide (x.op = 25 ∨ x.op = 26) → go50_j7 go50_j5 (((), (), Sp.memop x.op, w, (), 0, b, ()), f, x, Sp.aL f x x.args.length, ()) =
        some (Sp.memIx f x && Sp.fitOk x w (Sp.mOf f x) ((Sp.aL f x x.args.length).getD 0 0) ((Sp.aL f x x.args.length).getD 1 0) ((Sp.aL f x x.args.length).getD 2 0), ()) := fun b hb => by
      subst hb
      rw [j7_50, j5_50 hl]
      cases Sp.memIx f x <;> rfl
    simp only [jpO_eq, bif_decide]
    split
    · rename_i h; exact e true (by simp [h])
    · rename_i h; exact e (decide (x.op = 26)) (by simp [h])
theorem j3_50 (ha : x.args.length ≤ 3) (hu : ∀ i, i < x.args.length → 0 ≤ x.args.getD i 0 ∧ x.args.getD i 0 < f.widths.length) (hd : Sp.result x.op = true → 0 ≤ x.dest ∧ x.dest < f.widths.length) : go50_j3 (((), (), Sp.memop x.op, ()), f, x, ()) =
    some (Sp.memIx f x && Sp.fitOk x (Sp.wOf f x) (Sp.mOf f x) ((Sp.aL f x x.args.length).getD 0 0) ((Sp.aL f x x.args.length).getD 1 0) ((Sp.aL f x x.args.length).getD 2 0), ()) := by
  unfold go50_j3 Sp.wOf
  simp only [jpO_eq, j4_50 ha hu]
  cases h : Sp.result x.op with
  | false => rfl
  | true =>
    obtain ⟨h1, h2⟩ := hd h
    simp (maxSteps := 1000000) (disch := ((try dsimp only); omega)) only [↓grd_dec, ↓grd_blt, ↓grd_true, ↓jpO_eq, ↓callB_some, ↓callB_grd, ↓bif_decide, ↓sumO_inl, ↓sumO_inr, ↓if_pos, ↓if_neg, ↓cond_true, ↓cond_false, ↓bif_not, Int.toNat_natCast, Bool.not_true, Bool.not_false, decide_true, decide_false, Bool.false_eq_true, ↓if_true, ↓if_false, Int.natCast_add, Int.cast_ofNat_Int, Bool.not_eq_true', decide_eq_false_iff_not, not_true_eq_false, not_false_eq_true]
def Sp.instPre (f : Fn) (x : Inst) : Prop := x.args.length ≤ 3 ∧ (∀ i, i < x.args.length → 0 ≤ x.args.getD i 0 ∧ x.args.getD i 0 < f.widths.length) ∧ (Sp.result x.op = true → 0 ≤ x.dest ∧ x.dest < f.widths.length)
theorem ok50 (f : Fn) (x : Inst) (h : Sp.instPre f x) : go50 f x = some (Sp.instrOk f x, ()) := by
  obtain ⟨ha, hu, hd⟩ := h
  have e1 : go50_j1 (((), (), ()), f, x, ()) = some (!(!decide (x.mem = 0) && !Sp.memop x.op) && (Sp.memIx f x && Sp.fitOk x (Sp.wOf f x) (Sp.mOf f x) ((Sp.aL f x x.args.length).getD 0 0) ((Sp.aL f x x.args.length).getD 1 0) ((Sp.aL f x x.args.length).getD 2 0)), ()) := by
    have e : ∀ b : Bool, b = Sp.memop x.op → go50_j2 (((), (), b, ()), f, x, ()) = some (!(!decide (x.mem = 0) && !Sp.memop x.op) && (Sp.memIx f x && Sp.fitOk x (Sp.wOf f x) (Sp.mOf f x) ((Sp.aL f x x.args.length).getD 0 0) ((Sp.aL f x x.args.length).getD 1 0) ((Sp.aL f x x.args.length).getD 2 0)), ()) := fun b hb => by
      subst hb
      unfold go50_j2
      simp only [jpO_eq, j3_50 ha hu hd, bif_not, bif_decide]
      by_cases hm : x.mem = 0
      · rw [if_pos hm, decide_eq_true hm]; rfl
      · rw [if_neg hm, decide_eq_false hm]
        cases Sp.memop x.op <;> rfl
    unfold go50_j1
    simp only [jpO_eq, bif_decide]
    split
    · rename_i h; exact e _ (by simp [Sp.memop, h])
    · rename_i h; exact e _ (by simp [Sp.memop, h])
  unfold go50 Sp.instrOk Sp.plainOk
  simp only [jpO_eq, e1, bif_not, bif_decide]
  by_cases h1 : x.num = 0
  · rw [if_pos h1, decide_eq_true h1]; simp [Bool.and_assoc]
  · rw [if_neg h1, decide_eq_false h1]
    by_cases h2 : x.op = 1
    · rw [if_pos h2, decide_eq_true h2]; simp [Bool.and_assoc]
    · rw [if_neg h2, decide_eq_false h2]; rfl
end
def c50 : Ctr Try.prog := mkCtr 50 Try.f50 Try.func50 [c49, c93, c94] ann50 [(0, (.st 6)), (1, (.st 0))] [] .b [] (fun x _ => grd (okB (Sp.instPre x.1 x.2.1)) (some (Sp.instrOk x.1 x.2.1, ())))
  (fun x _ r h => FO (run50 x.1 x.2.1) (ok50 x.1 x.2.1) h)
end
end Go.Abs
