/-
Texts of the proof, part 9: V6 V7 V9 W4 Zi0 Zi Zj Zr Zs Zk Zl Zu Zv Zw.
No statement of the program is proved here.
-/
import Derived.Test.YtlcholjffgaemaaM8
set_option linter.unusedVariables false
set_option linter.unusedSectionVars false
set_option linter.unusedSimpArgs false
set_option maxHeartbeats 1000000
namespace Go.Abs
open Go Go.Proofs
noncomputable section
def ann50 : Ann := (.seq .o (.join ⟨[(2, (.ptr 0 0)), (3, (.ptr 1 0))], [(.box 30 (.st 6)), (.box 46 (.st 0))]⟩ (.seq .o (.cond (.seq .o .o) .o)) (.join ⟨[(2, (.ptr 0 0)), (3, (.ptr 1 0)), (5, .b)], [(.box 30 (.st 6)), (.box 46 (.st 0))]⟩ .o (.join ⟨[(2, (.ptr 0 0)), (3, (.ptr 1 0)), (5, .b)], [(.box 30 (.st 6)), (.box 46 (.st 0))]⟩ (.seq .o (.cond (.seq .o .o) .o)) (.seq .o (.join ⟨[(2, (.ptr 0 0)), (3, (.ptr 1 0)), (5, .b), (6, (.i .i64))], [(.box 30 (.st 6)), (.box 46 (.st 0))]⟩ (.seq .o (.cond .o .o)) (.seq .o (.join ⟨[(2, (.ptr 0 0)), (3, (.ptr 1 0)), (5, .b), (6, (.i .i64)), (7, (.full 2))], [(.box 30 (.st 6)), (.box 46 (.st 0)), (.lst 3 (.int .i64))]⟩ (.seq .o (.block (.loop ⟨[(2, (.ptr 0 0)), (3, (.ptr 1 0)), (5, .b), (6, (.i .i64)), (7, (.full 2)), (8, (.i .i64))], [(.box 30 (.st 6)), (.box 46 (.st 0)), (.lst 3 (.int .i64))]⟩ [((.exit 0), ⟨[(2, (.ptr 0 0)), (3, (.ptr 1 0)), (5, .b), (6, (.i .i64)), (7, (.full 2))], [(.box 30 (.st 6)), (.box 46 (.st 0)), (.lst 3 (.int .i64))]⟩)] (.join ⟨[(2, (.ptr 0 0)), (3, (.ptr 1 0)), (5, .b), (6, (.i .i64)), (7, (.full 2)), (8, (.i .i64))], [(.box 30 (.st 6)), (.box 46 (.st 0)), (.lst 3 (.int .i64))]⟩ (.seq .o (.cond .o .o)) (.join ⟨[(2, (.ptr 0 0)), (3, (.ptr 1 0)), (5, .b), (6, (.i .i64)), (7, (.full 2)), (8, (.i .i64))], [(.box 30 (.st 6)), (.box 46 (.st 0)), (.lst 3 (.int .i64))]⟩ (.block .o) .o))))) (.seq .o (.join ⟨[(3, (.ptr 0 0)), (6, (.i .i64)), (7, (.full 1)), (9, (.i .i64))], [(.box 46 (.st 0)), (.lst 3 (.int .i64))]⟩ (.join ⟨[(2, (.ptr 0 0)), (3, (.ptr 1 0)), (5, .b), (6, (.i .i64)), (7, (.full 2)), (9, (.i .i64)), (69, .b)], [(.box 30 (.st 6)), (.box 46 (.st 0)), (.lst 3 (.int .i64))]⟩ .o (.cond (.join ⟨[(2, (.ptr 0 0)), (3, (.ptr 1 0)), (6, (.i .i64)), (7, (.full 2))], [(.box 30 (.st 6)), (.box 46 (.st 0)), (.lst 3 (.int .i64))]⟩ (.seq .o (.cond (.seq .o .o) .o)) .o) (.seq .o (.cond (.join ⟨[(2, (.ptr 0 0)), (3, (.ptr 1 0)), (6, (.i .i64)), (7, (.full 2))], [(.box 30 (.st 6)), (.box 46 (.st 0)), (.lst 3 (.int .i64))]⟩ (.seq .o (.cond (.seq .o .o) .o)) .o) .o)))) (.join ⟨[(3, (.ptr 0 0)), (6, (.i .i64)), (7, (.full 1))], [(.box 46 (.st 0)), (.lst 3 (.int .i64))]⟩ (.seq .o (.block (.seq .o (.cond (.seq .o .o) (.seq .o (.cond (.seq .o .o) (.join ⟨[(3, (.ptr 0 0)), (6, (.i .i64)), (7, (.full 1)), (9, (.i .i64)), (121, (.i .i64)), (151, .b)], [(.box 46 (.st 0)), (.lst 3 (.int .i64))]⟩ (.seq .o (.cond .o .o)) (.cond (.seq .o .o) (.seq .o (.cond (.seq .o .o) (.seq .o (.cond (.seq .o .o) (.seq .o (.cond (.seq .o .o) (.seq .o (.cond (.seq .o .o) (.seq .o (.cond (.seq .o .o) .o)))))))))))))))))) (.join ⟨[(6, (.i .i64)), (7, (.full 0))], [(.lst 3 (.int .i64))]⟩ (.seq .o (.cond (.seq .o .o) .o)) (.seq .o .o)))))))))))))
def go50_j7 (j0 : (((Unit × (Int × (Unit × (Int × Unit)))) × (Inst × ((List Int) × Unit))) -> (Option (Bool × Unit)))) : ((Unit × (Unit × (Bool × (Int × (Unit × (Int × (Bool × Unit))))))) × (Fn × (Inst × ((List Int) × Unit)))) -> Option (Bool × Unit) := (fun (z5 : ((Unit × (Unit × (Bool × (Int × (Unit × (Int × (Bool × Unit))))))) × (Fn × (Inst × ((List Int) × Unit))))) => (bif z5.1.2.2.2.2.2.2.1 then
   (bif (decide (z5.2.2.1.mem < (0 : Int))) then
    (some (false, ()))
    else
    (bif (decide (((z5.2.1.arrays.length : Nat) : Int) <= z5.2.2.1.mem)) then
     (some (false, ()))
     else
     (grd (okB (((0 : Int) <= z5.2.2.1.mem) /\ (z5.2.2.1.mem < ((z5.2.1.arrays.length : Nat) : Int))))
      (j0 (((), (z5.1.2.2.2.1, ((), ((z5.2.1.arrays.getD z5.2.2.1.mem.toNat Arr.z).width, ())))), (z5.2.2.1, (z5.2.2.2.1, ())))))))
   else
   (bif z5.1.2.2.1 then
    (bif (decide (z5.2.2.1.mem < (0 : Int))) then
     (some (false, ()))
     else
     (bif (decide (((z5.2.1.streams.length : Nat) : Int) <= z5.2.2.1.mem)) then
      (some (false, ()))
      else
      (grd (okB (((0 : Int) <= z5.2.2.1.mem) /\ (z5.2.2.1.mem < ((z5.2.1.streams.length : Nat) : Int))))
       (bif (!((z5.2.1.streams.getD z5.2.2.1.mem.toNat Strm.z).out == (decide (z5.2.2.1.op = (28 : Int))))) then
        (some (false, ()))
        else
        (grd (okB (((0 : Int) <= z5.2.2.1.mem) /\ (z5.2.2.1.mem < ((z5.2.1.streams.length : Nat) : Int))))
         (j0 (((), (z5.1.2.2.2.1, ((), ((z5.2.1.streams.getD z5.2.2.1.mem.toNat Strm.z).width, ())))), (z5.2.2.1, (z5.2.2.2.1, ())))))))))
    else
    (j0 (((), (z5.1.2.2.2.1, ((), (z5.1.2.2.2.2.2.1, ())))), (z5.2.2.1, (z5.2.2.2.1, ())))))))
def go50_j6 : ((Unit × (Int × (Unit × (Int × (Int × (Bool × Unit)))))) × (Inst × ((List Int) × Unit))) -> Option (Bool × Unit) := (fun (z6 : ((Unit × (Int × (Unit × (Int × (Int × (Bool × Unit)))))) × (Inst × ((List Int) × Unit)))) => (bif z6.1.2.2.2.2.2.1 then
   (grd (okB (((0 : Int) <= (0 : Int)) /\ ((0 : Int) < ((z6.2.2.1.length : Nat) : Int))))
    (grd (Nat.blt (0 : Int).toNat z6.2.2.1.length)
     (some ((decide ((z6.2.2.1.getD (0 : Int).toNat (0 : Int)) < z6.1.2.1)), ()))))
   else
   (bif (decide (z6.1.2.2.2.2.1 = (24 : Int))) then
    (grd (okB (((0 : Int) <= (0 : Int)) /\ ((0 : Int) < ((z6.2.2.1.length : Nat) : Int))))
     (grd (Nat.blt (0 : Int).toNat z6.2.2.1.length)
      (some ((decide (z6.1.2.1 < (z6.2.2.1.getD (0 : Int).toNat (0 : Int)))), ()))))
    else
    (bif (decide (z6.1.2.2.2.2.1 = (25 : Int))) then
     (bif (decide (z6.1.2.2.2.1 = z6.1.2.1)) then
      (grd (okB (((0 : Int) <= (1 : Int)) /\ ((1 : Int) < ((z6.2.2.1.length : Nat) : Int))))
       (grd (Nat.blt (1 : Int).toNat z6.2.2.1.length)
        (some ((decide ((z6.2.2.1.getD (1 : Int).toNat (0 : Int)) = (1 : Int))), ()))))
      else
      (some (false, ())))
     else
     (bif (decide (z6.1.2.2.2.2.1 = (26 : Int))) then
      (grd (okB (((0 : Int) <= (1 : Int)) /\ ((1 : Int) < ((z6.2.2.1.length : Nat) : Int))))
       (grd (Nat.blt (1 : Int).toNat z6.2.2.1.length)
        (bif (decide (z6.1.2.2.2.1 = (z6.2.2.1.getD (1 : Int).toNat (0 : Int)))) then
         (grd (okB (((0 : Int) <= (2 : Int)) /\ ((2 : Int) < ((z6.2.2.1.length : Nat) : Int))))
          (grd (Nat.blt (2 : Int).toNat z6.2.2.1.length)
           (some ((decide ((z6.2.2.1.getD (2 : Int).toNat (0 : Int)) = (1 : Int))), ()))))
         else
         (some (false, ())))))
      else
      (bif (decide (z6.1.2.2.2.2.1 = (27 : Int))) then
       (bif (decide (z6.1.2.2.2.1 = z6.1.2.1)) then
        (grd (okB (((0 : Int) <= (0 : Int)) /\ ((0 : Int) < ((z6.2.2.1.length : Nat) : Int))))
         (grd (Nat.blt (0 : Int).toNat z6.2.2.1.length)
          (some ((decide ((z6.2.2.1.getD (0 : Int).toNat (0 : Int)) = (1 : Int))), ()))))
        else
        (some (false, ())))
       else
       (bif (decide (z6.1.2.2.2.2.1 = (28 : Int))) then
        (grd (okB (((0 : Int) <= (0 : Int)) /\ ((0 : Int) < ((z6.2.2.1.length : Nat) : Int))))
         (grd (Nat.blt (0 : Int).toNat z6.2.2.1.length)
          (bif (decide (z6.1.2.2.2.1 = (z6.2.2.1.getD (0 : Int).toNat (0 : Int)))) then
           (grd (okB (((0 : Int) <= (1 : Int)) /\ ((1 : Int) < ((z6.2.2.1.length : Nat) : Int))))
            (grd (Nat.blt (1 : Int).toNat z6.2.2.1.length)
             (some ((decide ((z6.2.2.1.getD (1 : Int).toNat (0 : Int)) = (1 : Int))), ()))))
           else
           (some (false, ())))))
        else
        (bif (Sp.isCompare z6.2.1.op) then
         (bif (decide (z6.1.2.1 = (1 : Int))) then
          (grd (okB (((0 : Int) <= (0 : Int)) /\ ((0 : Int) < ((z6.2.2.1.length : Nat) : Int))))
           (grd (Nat.blt (0 : Int).toNat z6.2.2.1.length)
            (grd (okB (((0 : Int) <= (1 : Int)) /\ ((1 : Int) < ((z6.2.2.1.length : Nat) : Int))))
             (grd (Nat.blt (1 : Int).toNat z6.2.2.1.length)
              (some ((decide ((z6.2.2.1.getD (0 : Int).toNat (0 : Int)) = (z6.2.2.1.getD (1 : Int).toNat (0 : Int)))), ()))))))
          else
          (some (false, ())))
         else
         (grd (okB (((0 : Int) <= (0 : Int)) /\ ((0 : Int) < ((z6.2.2.1.length : Nat) : Int))))
          (grd (Nat.blt (0 : Int).toNat z6.2.2.1.length)
           (bif (decide ((z6.2.2.1.getD (0 : Int).toNat (0 : Int)) = z6.1.2.1)) then
            (grd (okB (((0 : Int) <= (1 : Int)) /\ ((1 : Int) < ((z6.2.2.1.length : Nat) : Int))))
             (grd (Nat.blt (1 : Int).toNat z6.2.2.1.length)
              (some ((decide ((z6.2.2.1.getD (1 : Int).toNat (0 : Int)) = z6.1.2.1)), ()))))
            else
            (some (false, ())))))))))))))
def go50_j5 : ((Unit × (Int × (Unit × (Int × Unit)))) × (Inst × ((List Int) × Unit))) -> Option (Bool × Unit) := (fun (z5 : ((Unit × (Int × (Unit × (Int × Unit)))) × (Inst × ((List Int) × Unit)))) => (bif (decide (z5.2.1.op = (1 : Int))) then
   (some ((decide ((Sp.fit z5.1.2.1 z5.2.1.num) = z5.2.1.num)), ()))
   else
   (bif (decide (z5.2.1.op = (21 : Int))) then
    (grd (okB (((0 : Int) <= (0 : Int)) /\ ((0 : Int) < ((z5.2.2.1.length : Nat) : Int))))
     (grd (Nat.blt (0 : Int).toNat z5.2.2.1.length)
      (bif (decide ((z5.2.2.1.getD (0 : Int).toNat (0 : Int)) = (1 : Int))) then
       (grd (okB (((0 : Int) <= (1 : Int)) /\ ((1 : Int) < ((z5.2.2.1.length : Nat) : Int))))
        (grd (Nat.blt (1 : Int).toNat z5.2.2.1.length)
         (bif (decide ((z5.2.2.1.getD (1 : Int).toNat (0 : Int)) = z5.1.2.1)) then
          (grd (okB (((0 : Int) <= (2 : Int)) /\ ((2 : Int) < ((z5.2.2.1.length : Nat) : Int))))
           (grd (Nat.blt (2 : Int).toNat z5.2.2.1.length)
            (some ((decide ((z5.2.2.1.getD (2 : Int).toNat (0 : Int)) = z5.1.2.1)), ()))))
          else
          (some (false, ())))))
       else
       (some (false, ())))))
    else
    (jpO (go50_j6)
     (fun (j0 : (((Unit × (Int × (Unit × (Int × (Int × (Bool × Unit)))))) × (Inst × ((List Int) × Unit))) -> (Option (Bool × Unit)))) => (bif (decide (z5.2.1.op = (22 : Int))) then
       (j0 (((), (z5.1.2.1, ((), (z5.1.2.2.2.1, (z5.2.1.op, (true, ())))))), (z5.2.1, (z5.2.2.1, ()))))
       else
       (j0 (((), (z5.1.2.1, ((), (z5.1.2.2.2.1, (z5.2.1.op, ((decide (z5.2.1.op = (23 : Int))), ())))))), (z5.2.1, (z5.2.2.1, ()))))))))))
def go50_l1 : ((Unit × (Unit × (Bool × (Int × (Unit × (Int × Unit)))))) × (Fn × (Inst × ((List Int) × Unit)))) -> Option (((Unit × (Unit × (Bool × (Int × (Unit × (Int × Unit)))))) × (Fn × (Inst × ((List Int) × Unit)))) ⊕ ((Unit × (Unit × (Bool × (Int × (Unit × Unit))))) × (Fn × (Inst × ((List Int) × Unit))))) := (fun (r0 : ((Unit × (Unit × (Bool × (Int × (Unit × (Int × Unit)))))) × (Fn × (Inst × ((List Int) × Unit))))) => (bif (decide (r0.1.2.2.2.2.2.1 < ((r0.2.2.1.args.length : Nat) : Int))) then
   (grd (okB (((0 : Int) <= r0.1.2.2.2.2.2.1) /\ (r0.1.2.2.2.2.2.1 < ((r0.2.2.1.args.length : Nat) : Int))))
    (grd (okB (((0 : Int) <= (r0.2.2.1.args.getD r0.1.2.2.2.2.2.1.toNat (0 : Int))) /\ ((r0.2.2.1.args.getD r0.1.2.2.2.2.2.1.toNat (0 : Int)) < ((r0.2.1.widths.length : Nat) : Int))))
     (grd (okB (((0 : Int) <= r0.1.2.2.2.2.2.1) /\ (r0.1.2.2.2.2.2.1 < ((r0.2.2.2.1.length : Nat) : Int))))
      (grd (Nat.blt r0.1.2.2.2.2.2.1.toNat r0.2.2.2.1.length)
       (grd (okB (((-(9223372036854775808 : Int)) <= (r0.1.2.2.2.2.2.1 + (1 : Int))) /\ ((r0.1.2.2.2.2.2.1 + (1 : Int)) <= (9223372036854775807 : Int))))
        (some (Sum.inl (((), ((), (r0.1.2.2.1, (r0.1.2.2.2.1, ((), ((r0.1.2.2.2.2.2.1 + (1 : Int)), ())))))), (r0.2.1, (r0.2.2.1, ((r0.2.2.2.1.set r0.1.2.2.2.2.2.1.toNat (r0.2.1.widths.getD (r0.2.2.1.args.getD r0.1.2.2.2.2.2.1.toNat (0 : Int)).toNat (0 : Int))), ())))))))))))
   else
   (some (Sum.inr (((), ((), (r0.1.2.2.1, (r0.1.2.2.2.1, ((), ()))))), (r0.2.1, (r0.2.2.1, (r0.2.2.2.1, ()))))))))
def go50_j4 : ((Unit × (Unit × (Bool × (Int × Unit)))) × (Fn × (Inst × Unit))) -> Option (Bool × Unit) := (fun (z3 : ((Unit × (Unit × (Bool × (Int × Unit)))) × (Fn × (Inst × Unit)))) => (callB (whileO (go50_l1) (((), ((), (z3.1.2.2.1, (z3.1.2.2.2.1, ((), ((0 : Int), ())))))), (z3.2.1, (z3.2.2.1, (((0 : Int) :: ((0 : Int) :: ((0 : Int) :: ([] : List Int)))), ())))))
   (fun (z4 : ((Unit × (Unit × (Bool × (Int × (Unit × Unit))))) × (Fn × (Inst × ((List Int) × Unit))))) => (jpO (go50_j5)
     (fun (j0 : (((Unit × (Int × (Unit × (Int × Unit)))) × (Inst × ((List Int) × Unit))) -> (Option (Bool × Unit)))) => (jpO (go50_j7 j0)
       (fun (j1 : (((Unit × (Unit × (Bool × (Int × (Unit × (Int × (Bool × Unit))))))) × (Fn × (Inst × ((List Int) × Unit)))) -> (Option (Bool × Unit)))) => (bif (decide (z4.2.2.1.op = (25 : Int))) then
         (j1 (((), ((), (z4.1.2.2.1, (z4.1.2.2.2.1, ((), ((0 : Int), (true, ()))))))), (z4.2.1, (z4.2.2.1, (z4.2.2.2.1, ())))))
         else
         (j1 (((), ((), (z4.1.2.2.1, (z4.1.2.2.2.1, ((), ((0 : Int), ((decide (z4.2.2.1.op = (26 : Int))), ()))))))), (z4.2.1, (z4.2.2.1, (z4.2.2.2.1, ())))))))))))))
def go50_j3 : ((Unit × (Unit × (Bool × Unit))) × (Fn × (Inst × Unit))) -> Option (Bool × Unit) := (fun (z2 : ((Unit × (Unit × (Bool × Unit))) × (Fn × (Inst × Unit)))) => (jpO (go50_j4)
   (fun (j0 : (((Unit × (Unit × (Bool × (Int × Unit)))) × (Fn × (Inst × Unit))) -> (Option (Bool × Unit)))) => (bif (Sp.result z2.2.2.1.op) then
     (grd (okB (((0 : Int) <= z2.2.2.1.dest) /\ (z2.2.2.1.dest < ((z2.2.1.widths.length : Nat) : Int))))
      (j0 (((), ((), (z2.1.2.2.1, ((z2.2.1.widths.getD z2.2.2.1.dest.toNat (0 : Int)), ())))), (z2.2.1, (z2.2.2.1, ())))))
     else
     (j0 (((), ((), (z2.1.2.2.1, ((0 : Int), ())))), (z2.2.1, (z2.2.2.1, ()))))))))
def go50_j2 : ((Unit × (Unit × (Bool × Unit))) × (Fn × (Inst × Unit))) -> Option (Bool × Unit) := (fun (z1 : ((Unit × (Unit × (Bool × Unit))) × (Fn × (Inst × Unit)))) => (jpO (go50_j3)
   (fun (j0 : (((Unit × (Unit × (Bool × Unit))) × (Fn × (Inst × Unit))) -> (Option (Bool × Unit)))) => (bif (!(decide (z1.2.2.1.mem = (0 : Int)))) then
     (bif (!z1.1.2.2.1) then
      (some (false, ()))
      else
      (j0 (((), ((), (z1.1.2.2.1, ()))), (z1.2.1, (z1.2.2.1, ())))))
     else
     (j0 (((), ((), (z1.1.2.2.1, ()))), (z1.2.1, (z1.2.2.1, ()))))))))
def go50_j1 : ((Unit × (Unit × Unit)) × (Fn × (Inst × Unit))) -> Option (Bool × Unit) := (fun (z0 : ((Unit × (Unit × Unit)) × (Fn × (Inst × Unit)))) => (jpO (go50_j2)
   (fun (j0 : (((Unit × (Unit × (Bool × Unit))) × (Fn × (Inst × Unit))) -> (Option (Bool × Unit)))) => (bif (decide ((25 : Int) <= z0.2.2.1.op)) then
     (j0 (((), ((), ((decide (z0.2.2.1.op <= (28 : Int))), ()))), (z0.2.1, (z0.2.2.1, ()))))
     else
     (j0 (((), ((), (false, ()))), (z0.2.1, (z0.2.2.1, ()))))))))
def go50 (x0 : Fn) (x1 : Inst) : (Option (Bool × Unit)) :=
 (jpO (go50_j1)
  (fun (j0 : (((Unit × (Unit × Unit)) × (Fn × (Inst × Unit))) -> (Option (Bool × Unit)))) => (bif (!(decide (x1.num = (0 : Int)))) then
    (bif (!(decide (x1.op = (1 : Int)))) then
     (some (false, ()))
     else
     (j0 (((), ((), ())), (x0, (x1, ())))))
    else
    (j0 (((), ((), ())), (x0, (x1, ())))))))
theorem run50 (x0 : Fn) (x1 : Inst) : runF (P := Try.prog) [c49, c93, c94] Try.f50 ann50 [(0, (.st 6)), (1, (.st 0))] [] .b [] (x0, (x1, ())) () = go50 x0 x1 := by kernel_rfl
def Sp.memop (op : Int) : Bool := decide (25 <= op) && decide (op <= 28)
def Sp.wOf (f : Fn) (x : Inst) : Int := if Sp.result x.op then f.widths.getD x.dest.toNat 0 else 0
def Sp.aL (f : Fn) (x : Inst) (i : Nat) : List Int :=
 [if 0 < i then f.widths.getD (x.args.getD 0 0).toNat 0 else 0, if 1 < i then f.widths.getD (x.args.getD 1 0).toNat 0 else 0, if 2 < i then f.widths.getD (x.args.getD 2 0).toNat 0 else 0]
def Sp.mOf (f : Fn) (x : Inst) : Int :=
 if x.op = 25 \/ x.op = 26 then (f.arrays.getD x.mem.toNat Arr.z).width else if Sp.memop x.op then (f.streams.getD x.mem.toNat Strm.z).width else 0
def Sp.plainOk (x : Inst) : Bool := !(!decide (x.num = 0) && !decide (x.op = 1)) && !(!decide (x.mem = 0) && !Sp.memop x.op)
def Sp.memIx (f : Fn) (x : Inst) : Bool :=
 if x.op = 25 \/ x.op = 26 then !decide (x.mem < 0) && !decide ((f.arrays.length : Int) <= x.mem)
 else if Sp.memop x.op then !decide (x.mem < 0) && !decide ((f.streams.length : Int) <= x.mem) && ((f.streams.getD x.mem.toNat Strm.z).out == decide (x.op = 28)) else true
def Sp.fitOk (x : Inst) (w m a0 a1 a2 : Int) : Bool :=
 if x.op = 1 then decide (Sp.fit w x.num = x.num)
 else if x.op = 21 then decide (a0 = 1) && decide (a1 = w) && decide (a2 = w)
 else if x.op = 22 \/ x.op = 23 then decide (a0 < w)
 else if x.op = 24 then decide (w < a0)
 else if x.op = 25 then decide (m = w) && decide (a1 = 1)
 else if x.op = 26 then decide (m = a1) && decide (a2 = 1)
 else if x.op = 27 then decide (m = w) && decide (a0 = 1)
 else if x.op = 28 then decide (m = a0) && decide (a1 = 1)
 else if Sp.isCompare x.op then decide (w = 1) && decide (a0 = a1)
 else decide (a0 = w) && decide (a1 = w)
def Sp.instrOk (f : Fn) (x : Inst) : Bool :=
 Sp.plainOk x && Sp.memIx f x && Sp.fitOk x (Sp.wOf f x) (Sp.mOf f x) ((Sp.aL f x x.args.length).getD 0 0) ((Sp.aL f x x.args.length).getD 1 0) ((Sp.aL f x x.args.length).getD 2 0)
theorem aL_set (f : Fn) (x : Inst) {i : Nat} (h : i < 3) : (Sp.aL f x i).set i (f.widths.getD (x.args.getD i 0).toNat 0) = Sp.aL f x (i + 1) := by
 match i, h with
 | 0, _ => simp [Sp.aL]
 | 1, _ => simp [Sp.aL]
 | 2, _ => simp [Sp.aL]
section
variable {f : Fn} {x : Inst} {l : List Int} {w m : Int}
theorem j6_50 (hl : l.length = 3) (op : Int) (b : Bool) : go50_j6 (((), w, (), m, op, b, ()), x, l, ()) = some (if b = true then decide (l.getD 0 0 < w) else if op = 24 then decide (w < l.getD 0 0)
 else if op = 25 then decide (m = w) && decide (l.getD 1 0 = 1)
 else if op = 26 then decide (m = l.getD 1 0) && decide (l.getD 2 0 = 1)
 else if op = 27 then decide (m = w) && decide (l.getD 0 0 = 1)
 else if op = 28 then decide (m = l.getD 0 0) && decide (l.getD 1 0 = 1)
 else if Sp.isCompare x.op then decide (w = 1) && decide (l.getD 0 0 = l.getD 1 0)
 else decide (l.getD 0 0 = w) && decide (l.getD 1 0 = w), ()) := by
 unfold go50_j6
 have g : ∀ k : Nat, k < 3 -> ∀ {ρ : Type} (y : Option ρ), grd (okB ((0 : Int) <= (k : Int) /\ (k : Int) < ((l.length : Nat) : Int))) y = y := fun k hk ρ y => grd_dec (by omega)
 have g0 : ∀ {ρ : Type} (y : Option ρ), grd (okB ((0 : Int) <= (0 : Int) /\ (0 : Int) < ((l.length : Nat) : Int))) y = y := g 0 (by omega)
 have g1 : ∀ {ρ : Type} (y : Option ρ), grd (okB ((0 : Int) <= (1 : Int) /\ (1 : Int) < ((l.length : Nat) : Int))) y = y := g 1 (by omega)
 have g2 : ∀ {ρ : Type} (y : Option ρ), grd (okB ((0 : Int) <= (2 : Int) /\ (2 : Int) < ((l.length : Nat) : Int))) y = y := g 2 (by omega)
 have b0 : ∀ {ρ : Type} (y : Option ρ), grd (Nat.blt 0 l.length) y = y := fun y => grd_blt (by omega)
 have b1 : ∀ {ρ : Type} (y : Option ρ), grd (Nat.blt 1 l.length) y = y := fun y => grd_blt (by omega)
 have b2 : ∀ {ρ : Type} (y : Option ρ), grd (Nat.blt 2 l.length) y = y := fun y => grd_blt (by omega)
 simp only [g0, g1, g2, b0, b1, b2, bif_decide, show Int.toNat 0 = 0 from rfl, show Int.toNat 1 = 1 from rfl, show Int.toNat 2 = 2 from rfl]
 generalize l.getD 0 0 = a0
 generalize l.getD 1 0 = a1
 generalize l.getD 2 0 = a2
 have ab : ∀ (p : Prop) [Decidable p] (c : Bool), (if p then (some (c, ()) : Option (Bool × Unit)) else some (false, ())) = some (decide p && c, ()) := fun p _ c => by by_cases h : p <;> simp [h]
 simp only [ab]
 cases b
 ·cases Sp.isCompare x.op <;> simp only [cond_true, cond_false, Bool.false_eq_true, if_true, if_false] <;> repeat' split
  all_goals rfl
 ·rfl
theorem j5_50 (hl : l.length = 3) : go50_j5 (((), w, (), m, ()), x, l, ()) = some (Sp.fitOk x w m (l.getD 0 0) (l.getD 1 0) (l.getD 2 0), ()) := by
 unfold go50_j5 Sp.fitOk
 have g0 : ∀ {ρ : Type} (y : Option ρ), grd (okB ((0 : Int) <= (0 : Int) /\ (0 : Int) < ((l.length : Nat) : Int))) y = y := fun y => grd_dec (by omega)
 have g1 : ∀ {ρ : Type} (y : Option ρ), grd (okB ((0 : Int) <= (1 : Int) /\ (1 : Int) < ((l.length : Nat) : Int))) y = y := fun y => grd_dec (by omega)
 have g2 : ∀ {ρ : Type} (y : Option ρ), grd (okB ((0 : Int) <= (2 : Int) /\ (2 : Int) < ((l.length : Nat) : Int))) y = y := fun y => grd_dec (by omega)
 have b0 : ∀ {ρ : Type} (y : Option ρ), grd (Nat.blt 0 l.length) y = y := fun y => grd_blt (by omega)
 have b1 : ∀ {ρ : Type} (y : Option ρ), grd (Nat.blt 1 l.length) y = y := fun y => grd_blt (by omega)
 have b2 : ∀ {ρ : Type} (y : Option ρ), grd (Nat.blt 2 l.length) y = y := fun y => grd_blt (by omega)
 have ab : ∀ (p : Prop) [Decidable p] (c : Bool), (if p then (some (c, ()) : Option (Bool × Unit)) else some (false, ())) = some (decide p && c, ()) := fun p _ c => by by_cases h : p <;> simp [h]
 simp only [g0, g1, g2, b0, b1, b2, bif_decide, jpO_eq, j6_50 hl, show Int.toNat 0 = 0 from rfl, show Int.toNat 1 = 1 from rfl, show Int.toNat 2 = 2 from rfl, ab]
 by_cases h1 : x.op = 1
 ·simp [h1]
 by_cases h2 : x.op = 21
 ·simp [h2, Bool.and_assoc]
 by_cases h3 : x.op = 22
 ·simp [h3]
 by_cases h4 : x.op = 23
 ·simp [h4]
 simp [h1, h2, h3, h4]
theorem j7_50 (j0 : (((Unit × (Int × (Unit × (Int × Unit)))) × (Inst × ((List Int) × Unit))) -> (Option (Bool × Unit)))) : go50_j7 j0 (((), (), Sp.memop x.op, w, (), 0, (decide (x.op = 25 \/ x.op = 26)), ()), f, x, l, ()) =
  if Sp.memIx f x = true then j0 (((), w, (), Sp.mOf f x, ()), x, l, ()) else some (false, ()) := by
 unfold go50_j7 Sp.memIx Sp.mOf
 simp (maxSteps := 1000000) (disch := ((try dsimp only); omega)) only [↓gsA, gsB]
 by_cases h1 : x.op = 25 \/ x.op = 26
 ·simp only [if_pos h1]
  by_cases h2 : x.mem < 0 <;> by_cases h3 : (f.arrays.length : Int) <= x.mem <;> simp [h2, h3]
 ·simp only [if_neg h1]
  cases Sp.memop x.op
  ·simp
  ·by_cases h2 : x.mem < 0 <;> by_cases h3 : (f.streams.length : Int) <= x.mem <;> cases (f.streams.getD x.mem.toNat Strm.z).out == decide (x.op = 28) <;> simp [h2, h3]
theorem j4_50 (ha : x.args.length <= 3) (hu : ∀ i, i < x.args.length -> 0 <= x.args.getD i 0 /\ x.args.getD i 0 < f.widths.length) : go50_j4 (((), (), Sp.memop x.op, w, ()), f, x, ()) =
  some (Sp.memIx f x && Sp.fitOk x w (Sp.mOf f x) ((Sp.aL f x x.args.length).getD 0 0) ((Sp.aL f x x.args.length).getD 1 0) ((Sp.aL f x x.args.length).getD 2 0), ()) := by
 unfold go50_j4 go50_l1
 refine callB_of (whileO_to (st := fun i => (((), (), Sp.memop x.op, w, (), (i : Int), ()), f, x, Sp.aL f x i, ())) rfl x.args.length (X0 := (((), (), Sp.memop x.op, w, (), ()), f, x, Sp.aL f x x.args.length, ())) (fun i hi => ?_) ?_) ?_
 ·have hl : (Sp.aL f x i).length = 3 := rfl
  obtain ⟨u1, u2⟩ := hu i hi
  have e := aL_set f x (i := i) (by omega)
  simp (maxSteps := 1000000) (disch := ((try dsimp only); omega)) only [↓gsA, gsB]
  rw [<- e]
 ·simp (maxSteps := 1000000) (disch := ((try dsimp only); omega)) only [↓gsA, gsB]
 ·have hl : (Sp.aL f x x.args.length).length = 3 := rfl
  have e : ∀ b : Bool, b = decide (x.op = 25 \/ x.op = 26) -> go50_j7 go50_j5 (((), (), Sp.memop x.op, w, (), 0, b, ()), f, x, Sp.aL f x x.args.length, ()) =
    some (Sp.memIx f x && Sp.fitOk x w (Sp.mOf f x) ((Sp.aL f x x.args.length).getD 0 0) ((Sp.aL f x x.args.length).getD 1 0) ((Sp.aL f x x.args.length).getD 2 0), ()) := fun b hb => by
   subst hb
   rw [j7_50, j5_50 hl]
   cases Sp.memIx f x <;> rfl
  simp only [jpO_eq, bif_decide]
  split
  ·rename_i h; exact e true (by simp [h])
  ·rename_i h; exact e (decide (x.op = 26)) (by simp [h])
theorem j3_50 (ha : x.args.length <= 3) (hu : ∀ i, i < x.args.length -> 0 <= x.args.getD i 0 /\ x.args.getD i 0 < f.widths.length) (hd : Sp.result x.op = true -> 0 <= x.dest /\ x.dest < f.widths.length) : go50_j3 (((), (), Sp.memop x.op, ()), f, x, ()) =
  some (Sp.memIx f x && Sp.fitOk x (Sp.wOf f x) (Sp.mOf f x) ((Sp.aL f x x.args.length).getD 0 0) ((Sp.aL f x x.args.length).getD 1 0) ((Sp.aL f x x.args.length).getD 2 0), ()) := by
 unfold go50_j3 Sp.wOf
 simp only [jpO_eq, j4_50 ha hu]
 cases h : Sp.result x.op with
 | false => rfl
 | true =>
  obtain ⟨h1, h2⟩ := hd h
  simp (maxSteps := 1000000) (disch := ((try dsimp only); omega)) only [↓gsA, gsB]
def Sp.instPre (f : Fn) (x : Inst) : Prop := x.args.length <= 3 /\ (∀ i, i < x.args.length -> 0 <= x.args.getD i 0 /\ x.args.getD i 0 < f.widths.length) /\ (Sp.result x.op = true -> 0 <= x.dest /\ x.dest < f.widths.length)
theorem ok50 (f : Fn) (x : Inst) (h : Sp.instPre f x) : go50 f x = some (Sp.instrOk f x, ()) := by
 obtain ⟨ha, hu, hd⟩ := h
 have e1 : go50_j1 (((), (), ()), f, x, ()) = some (!(!decide (x.mem = 0) && !Sp.memop x.op) && (Sp.memIx f x && Sp.fitOk x (Sp.wOf f x) (Sp.mOf f x) ((Sp.aL f x x.args.length).getD 0 0) ((Sp.aL f x x.args.length).getD 1 0) ((Sp.aL f x x.args.length).getD 2 0)), ()) := by
  have e : ∀ b : Bool, b = Sp.memop x.op -> go50_j2 (((), (), b, ()), f, x, ()) = some (!(!decide (x.mem = 0) && !Sp.memop x.op) && (Sp.memIx f x && Sp.fitOk x (Sp.wOf f x) (Sp.mOf f x) ((Sp.aL f x x.args.length).getD 0 0) ((Sp.aL f x x.args.length).getD 1 0) ((Sp.aL f x x.args.length).getD 2 0)), ()) := fun b hb => by
   subst hb
   unfold go50_j2
   simp only [jpO_eq, j3_50 ha hu hd, bif_not, bif_decide]
   by_cases hm : x.mem = 0
   ·rw [if_pos hm, decide_eq_true hm]; rfl
   ·rw [if_neg hm, decide_eq_false hm]
    cases Sp.memop x.op <;> rfl
  unfold go50_j1
  simp only [jpO_eq, bif_decide]
  split
  ·rename_i h; exact e _ (by simp [Sp.memop, h])
  ·rename_i h; exact e _ (by simp [Sp.memop, h])
 unfold go50 Sp.instrOk Sp.plainOk
 simp only [jpO_eq, e1, bif_not, bif_decide]
 by_cases h1 : x.num = 0
 ·rw [if_pos h1, decide_eq_true h1]; simp [Bool.and_assoc]
 ·rw [if_neg h1, decide_eq_false h1]
  by_cases h2 : x.op = 1
  ·rw [if_pos h2, decide_eq_true h2]; simp [Bool.and_assoc]
  ·rw [if_neg h2, decide_eq_false h2]; rfl
end
def c50 : Ctr Try.prog := mkCtr 50 Try.f50 Try.func50 [c49, c93, c94] ann50 [(0, (.st 6)), (1, (.st 0))] [] .b [] (fun x _ => grd (okB (Sp.instPre x.1 x.2.1)) (some (Sp.instrOk x.1 x.2.1, ())))
 (fun x _ r h => FO (run50 x.1 x.2.1) (ok50 x.1 x.2.1) h)
end
end Go.Abs
namespace Go.Abs
open Go Go.Proofs
noncomputable section
def ann18 : Ann := (.seq .o (.join ⟨[(1, (.ptr 0 0))], [(.box 30 (.st 6))]⟩ (.seq .o (.cond (.seq .o .o) .o)) (.seq .o (.join ⟨[(1, (.ptr 0 0)), (3, (.full 1))], [(.box 30 (.st 6)), (.lst 4 .bool)]⟩ (.seq .o (.block (.loop ⟨[(1, (.ptr 0 0)), (3, (.full 1)), (46, (.i .i64)), (47, (.i .i64))], [(.box 30 (.st 6)), (.lst 4 .bool)]⟩ [((.exit 0), ⟨[(1, (.ptr 0 0)), (3, (.full 1))], [(.box 30 (.st 6)), (.lst 4 .bool)]⟩)] (.seq .o (.join ⟨[(1, (.ptr 0 0)), (3, (.full 1)), (46, (.i .i64)), (47, (.i .i64))], [(.box 30 (.st 6)), (.lst 4 .bool)]⟩ (.cond .o .o) (.join ⟨[(1, (.ptr 0 0)), (3, (.full 1)), (46, (.i .i64)), (47, (.i .i64))], [(.box 30 (.st 6)), (.lst 4 .bool)]⟩ (.block .o) .o)))))) (.join ⟨[], []⟩ (.seq .o (.block (.loop ⟨[(1, (.ptr 0 0)), (3, (.full 1)), (4, (.i .i64))], [(.box 30 (.st 6)), (.lst 4 .bool)]⟩ [((.exit 2), ⟨[], []⟩), (.ret, ⟨[(2, .b)], []⟩)] (.join ⟨[(1, (.ptr 0 0)), (3, (.full 1)), (4, (.i .i64))], [(.box 30 (.st 6)), (.lst 4 .bool)]⟩ (.seq .o (.cond .o .o)) (.join ⟨[(1, (.ptr 0 0)), (3, (.full 1)), (4, (.i .i64))], [(.box 30 (.st 6)), (.lst 4 .bool)]⟩ (.block (.seq .o (.join ⟨[(1, (.ptr 0 0)), (3, (.full 1)), (4, (.i .i64)), (5, (.ptr 2 0))], [(.box 30 (.st 6)), (.lst 4 .bool), (.box 41 (.st 3))]⟩ (.seq .o (.cond (.seq .o .o) .o)) (.seq .o (.join ⟨[(1, (.ptr 0 0)), (3, (.full 1)), (4, (.i .i64)), (5, (.ptr 2 0)), (6, (.full 3))], [(.box 30 (.st 6)), (.lst 4 .bool), (.box 41 (.st 3)), (.lst 4 .bool)]⟩ (.seq .o (.block (.loop ⟨[(1, (.ptr 0 0)), (3, (.full 1)), (4, (.i .i64)), (5, (.ptr 2 0)), (6, (.full 3)), (101, (.i .i64)), (102, (.i .i64))], [(.box 30 (.st 6)), (.lst 4 .bool), (.box 41 (.st 3)), (.lst 4 .bool)]⟩ [((.exit 4), ⟨[(1, (.ptr 0 0)), (3, (.full 1)), (4, (.i .i64)), (5, (.ptr 2 0)), (6, (.full 3))], [(.box 30 (.st 6)), (.lst 4 .bool), (.box 41 (.st 3)), (.lst 4 .bool)]⟩)] (.seq .o (.join ⟨[(1, (.ptr 0 0)), (3, (.full 1)), (4, (.i .i64)), (5, (.ptr 2 0)), (6, (.full 3)), (101, (.i .i64)), (102, (.i .i64))], [(.box 30 (.st 6)), (.lst 4 .bool), (.box 41 (.st 3)), (.lst 4 .bool)]⟩ (.cond .o .o) (.join ⟨[(1, (.ptr 0 0)), (3, (.full 1)), (4, (.i .i64)), (5, (.ptr 2 0)), (6, (.full 3)), (101, (.i .i64)), (102, (.i .i64))], [(.box 30 (.st 6)), (.lst 4 .bool), (.box 41 (.st 3)), (.lst 4 .bool)]⟩ (.block .o) .o)))))) (.join ⟨[(1, (.ptr 0 0)), (3, (.full 1)), (4, (.i .i64)), (5, (.ptr 2 0)), (6, (.full 3))], [(.box 30 (.st 6)), (.lst 4 .bool), (.box 41 (.st 3)), (.lst 4 .bool)]⟩ (.seq .o (.block (.loop ⟨[(1, (.ptr 0 0)), (3, (.full 1)), (4, (.i .i64)), (5, (.ptr 2 0)), (6, (.full 3)), (7, (.i .i64))], [(.box 30 (.st 6)), (.lst 4 .bool), (.box 41 (.st 3)), (.lst 4 .bool)]⟩ [((.exit 6), ⟨[(1, (.ptr 0 0)), (3, (.full 1)), (4, (.i .i64)), (5, (.ptr 2 0)), (6, (.full 3))], [(.box 30 (.st 6)), (.lst 4 .bool), (.box 41 (.st 3)), (.lst 4 .bool)]⟩), (.ret, ⟨[(2, .b)], []⟩)] (.join ⟨[(1, (.ptr 0 0)), (3, (.full 1)), (4, (.i .i64)), (5, (.ptr 2 0)), (6, (.full 3)), (7, (.i .i64))], [(.box 30 (.st 6)), (.lst 4 .bool), (.box 41 (.st 3)), (.lst 4 .bool)]⟩ (.seq .o (.cond .o .o)) (.join ⟨[(1, (.ptr 0 0)), (3, (.full 1)), (4, (.i .i64)), (5, (.ptr 2 0)), (6, (.full 3)), (7, (.i .i64))], [(.box 30 (.st 6)), (.lst 4 .bool), (.box 41 (.st 3)), (.lst 4 .bool)]⟩ (.block (.seq .o (.join ⟨[(1, (.ptr 0 0)), (3, (.full 1)), (4, (.i .i64)), (5, (.ptr 2 0)), (6, (.full 3)), (7, (.i .i64)), (8, (.i .i64))], [(.box 30 (.st 6)), (.lst 4 .bool), (.box 41 (.st 3)), (.lst 4 .bool)]⟩ (.seq .o (.cond (.seq .o .o) .o)) (.seq .o .o)))) .o))))) (.join ⟨[(1, (.ptr 0 0)), (3, (.full 1)), (4, (.i .i64)), (5, (.ptr 2 0)), (6, (.full 3))], [(.box 30 (.st 6)), (.lst 4 .bool), (.box 41 (.st 3)), (.lst 4 .bool)]⟩ (.seq .o (.block (.loop ⟨[(1, (.ptr 0 0)), (3, (.full 1)), (4, (.i .i64)), (5, (.ptr 2 0)), (6, (.full 3)), (9, (.i .i64))], [(.box 30 (.st 6)), (.lst 4 .bool), (.box 41 (.st 3)), (.lst 4 .bool)]⟩ [((.exit 8), ⟨[(1, (.ptr 0 0)), (3, (.full 1)), (4, (.i .i64)), (5, (.ptr 2 0)), (6, (.full 3))], [(.box 30 (.st 6)), (.lst 4 .bool), (.box 41 (.st 3)), (.lst 4 .bool)]⟩), (.ret, ⟨[(2, .b)], []⟩)] (.join ⟨[(1, (.ptr 0 0)), (3, (.full 1)), (4, (.i .i64)), (5, (.ptr 2 0)), (6, (.full 3)), (9, (.i .i64))], [(.box 30 (.st 6)), (.lst 4 .bool), (.box 41 (.st 3)), (.lst 4 .bool)]⟩ (.seq .o (.cond .o .o)) (.join ⟨[(1, (.ptr 0 0)), (3, (.full 1)), (4, (.i .i64)), (5, (.ptr 2 0)), (6, (.full 3)), (9, (.i .i64))], [(.box 30 (.st 6)), (.lst 4 .bool), (.box 41 (.st 3)), (.lst 4 .bool)]⟩ (.block (.seq .o (.join ⟨[(1, (.ptr 0 0)), (3, (.full 1)), (4, (.i .i64)), (5, (.ptr 2 0)), (6, (.full 3)), (9, (.i .i64)), (10, (.ptr 4 0))], [(.box 30 (.st 6)), (.lst 4 .bool), (.box 41 (.st 3)), (.lst 4 .bool), (.box 46 (.st 0))]⟩ (.seq .o (.cond (.seq .o .o) .o)) (.join ⟨[(1, (.ptr 0 0)), (3, (.full 1)), (4, (.i .i64)), (5, (.ptr 2 0)), (6, (.full 3)), (9, (.i .i64)), (10, (.ptr 4 0))], [(.box 30 (.st 6)), (.lst 4 .bool), (.box 41 (.st 3)), (.lst 4 .bool), (.box 46 (.st 0))]⟩ (.seq .o (.cond (.seq .o (.cond (.seq .o .o) .o)) (.seq .o (.cond (.seq .o .o) .o)))) (.join ⟨[(1, (.ptr 0 0)), (3, (.full 1)), (4, (.i .i64)), (5, (.ptr 2 0)), (6, (.full 3)), (9, (.i .i64)), (10, (.ptr 4 0))], [(.box 30 (.st 6)), (.lst 4 .bool), (.box 41 (.st 3)), (.lst 4 .bool), (.box 46 (.st 0))]⟩ (.seq .o (.cond (.seq .o .o) .o)) (.seq .o (.cond (.seq .o .o) .o))))))) .o))))) (.seq .o (.cond (.seq .o .o) .o))))))))) .o))))) (.seq .o .o))))))
def go18_j2 (j0 : (((Unit × (Unit × (Int × (Unit × (Unit × (Int × Unit)))))) × (Fn × ((List Bool) × (Block × ((List Bool) × Unit))))) -> (Option (((Unit × (Unit × (Int × (Unit × (Unit × (Int × Unit)))))) × (Fn × ((List Bool) × (Block × ((List Bool) × Unit))))) ⊕ (((Unit × (Unit × (Int × (Unit × (Unit × Unit))))) × (Fn × ((List Bool) × (Block × ((List Bool) × Unit))))) ⊕ ((Bool × Unit) × Unit)))))) : ((Unit × (Unit × (Int × (Unit × (Unit × (Int × (Unit × Unit))))))) × (Fn × ((List Bool) × (Block × ((List Bool) × (Inst × Unit)))))) -> Option (((Unit × (Unit × (Int × (Unit × (Unit × (Int × Unit)))))) × (Fn × ((List Bool) × (Block × ((List Bool) × Unit))))) ⊕ (((Unit × (Unit × (Int × (Unit × (Unit × Unit))))) × (Fn × ((List Bool) × (Block × ((List Bool) × Unit))))) ⊕ ((Bool × Unit) × Unit))) := (fun (z4 : ((Unit × (Unit × (Int × (Unit × (Unit × (Int × (Unit × Unit))))))) × (Fn × ((List Bool) × (Block × ((List Bool) × (Inst × Unit))))))) => (callB (grd (okB (Sp.instPre z4.2.1 z4.2.2.2.2.2.1))
    (some ((Sp.instrOk z4.2.1 z4.2.2.2.2.2.1), ())))
   (fun (r7 : (Bool × Unit)) => (bif (!r7.1) then
     (some (Sum.inr (Sum.inr ((false, ()), ()))))
     else
     (bif (Sp.result z4.2.2.2.2.2.1.op) then
      (grd (okB (((0 : Int) <= z4.2.2.2.2.2.1.dest) /\ (z4.2.2.2.2.2.1.dest < ((z4.2.2.1.length : Nat) : Int))))
       (grd (Nat.blt z4.2.2.2.2.2.1.dest.toNat z4.2.2.1.length)
        (grd (okB (((0 : Int) <= z4.2.2.2.2.2.1.dest) /\ (z4.2.2.2.2.2.1.dest < ((z4.2.2.2.2.1.length : Nat) : Int))))
         (grd (Nat.blt z4.2.2.2.2.2.1.dest.toNat z4.2.2.2.2.1.length)
          (j0 (((), ((), (z4.1.2.2.1, ((), ((), (z4.1.2.2.2.2.2.1, ())))))), (z4.2.1, ((z4.2.2.1.set z4.2.2.2.2.2.1.dest.toNat true), (z4.2.2.2.1, ((z4.2.2.2.2.1.set z4.2.2.2.2.2.1.dest.toNat true), ()))))))))))
      else
      (j0 (((), ((), (z4.1.2.2.1, ((), ((), (z4.1.2.2.2.2.2.1, ())))))), (z4.2.1, (z4.2.2.1, (z4.2.2.2.1, (z4.2.2.2.2.1, ())))))))))))
def go18_j1 : ((Unit × (Unit × (Int × (Unit × (Unit × (Int × Unit)))))) × (Fn × ((List Bool) × (Block × ((List Bool) × Unit))))) -> Option (((Unit × (Unit × (Int × (Unit × (Unit × (Int × Unit)))))) × (Fn × ((List Bool) × (Block × ((List Bool) × Unit))))) ⊕ (((Unit × (Unit × (Int × (Unit × (Unit × Unit))))) × (Fn × ((List Bool) × (Block × ((List Bool) × Unit))))) ⊕ ((Bool × Unit) × Unit))) := (fun (z4 : ((Unit × (Unit × (Int × (Unit × (Unit × (Int × Unit)))))) × (Fn × ((List Bool) × (Block × ((List Bool) × Unit)))))) => (grd (okB (((-(9223372036854775808 : Int)) <= (z4.1.2.2.2.2.2.1 + (1 : Int))) /\ ((z4.1.2.2.2.2.2.1 + (1 : Int)) <= (9223372036854775807 : Int))))
   (some (Sum.inl (((), ((), (z4.1.2.2.1, ((), ((), ((z4.1.2.2.2.2.2.1 + (1 : Int)), ())))))), (z4.2.1, (z4.2.2.1, (z4.2.2.2.1, (z4.2.2.2.2.1, ())))))))))
def go18_l5 : ((Unit × (Unit × (Int × (Unit × (Unit × (Int × Unit)))))) × (Fn × ((List Bool) × (Block × ((List Bool) × Unit))))) -> Option (((Unit × (Unit × (Int × (Unit × (Unit × (Int × Unit)))))) × (Fn × ((List Bool) × (Block × ((List Bool) × Unit))))) ⊕ (((Unit × (Unit × (Int × (Unit × (Unit × Unit))))) × (Fn × ((List Bool) × (Block × ((List Bool) × Unit))))) ⊕ ((Bool × Unit) × Unit))) := (fun (r5 : ((Unit × (Unit × (Int × (Unit × (Unit × (Int × Unit)))))) × (Fn × ((List Bool) × (Block × ((List Bool) × Unit)))))) => (bif (decide (r5.1.2.2.2.2.2.1 < ((r5.2.2.2.1.insts.length : Nat) : Int))) then
   (jpO (go18_j1)
    (fun (j0 : (((Unit × (Unit × (Int × (Unit × (Unit × (Int × Unit)))))) × (Fn × ((List Bool) × (Block × ((List Bool) × Unit))))) -> (Option (((Unit × (Unit × (Int × (Unit × (Unit × (Int × Unit)))))) × (Fn × ((List Bool) × (Block × ((List Bool) × Unit))))) ⊕ (((Unit × (Unit × (Int × (Unit × (Unit × Unit))))) × (Fn × ((List Bool) × (Block × ((List Bool) × Unit))))) ⊕ ((Bool × Unit) × Unit)))))) => (grd (okB (((0 : Int) <= r5.1.2.2.2.2.2.1) /\ (r5.1.2.2.2.2.2.1 < ((r5.2.2.2.1.insts.length : Nat) : Int))))
      (bif (!(decide ((Sp.arity (r5.2.2.2.1.insts.getD r5.1.2.2.2.2.2.1.toNat Inst.z).op) = (((r5.2.2.2.1.insts.getD r5.1.2.2.2.2.2.1.toNat Inst.z).args.length : Nat) : Int)))) then
       (some (Sum.inr (Sum.inr ((false, ()), ()))))
       else
       (callB (grd (okB (((r5.2.2.2.1.insts.getD r5.1.2.2.2.2.2.1.toNat Inst.z).args.length <= LEN) /\ (r5.2.2.2.2.1.length = r5.2.1.widths.length)))
         (some ((Sp.used r5.2.1 (r5.2.2.2.1.insts.getD r5.1.2.2.2.2.2.1.toNat Inst.z).args r5.2.2.2.2.1), ())))
        (fun (r6 : (Bool × Unit)) => (bif (!r6.1) then
          (some (Sum.inr (Sum.inr ((false, ()), ()))))
          else
          (jpO (go18_j2 j0)
           (fun (j1 : (((Unit × (Unit × (Int × (Unit × (Unit × (Int × (Unit × Unit))))))) × (Fn × ((List Bool) × (Block × ((List Bool) × (Inst × Unit)))))) -> (Option (((Unit × (Unit × (Int × (Unit × (Unit × (Int × Unit)))))) × (Fn × ((List Bool) × (Block × ((List Bool) × Unit))))) ⊕ (((Unit × (Unit × (Int × (Unit × (Unit × Unit))))) × (Fn × ((List Bool) × (Block × ((List Bool) × Unit))))) ⊕ ((Bool × Unit) × Unit)))))) => (bif (Sp.result (r5.2.2.2.1.insts.getD r5.1.2.2.2.2.2.1.toNat Inst.z).op) then
             (bif (!(Sp.within r5.2.1 (r5.2.2.2.1.insts.getD r5.1.2.2.2.2.2.1.toNat Inst.z).dest)) then
              (some (Sum.inr (Sum.inr ((false, ()), ()))))
              else
              (grd (okB (((0 : Int) <= (r5.2.2.2.1.insts.getD r5.1.2.2.2.2.2.1.toNat Inst.z).dest) /\ ((r5.2.2.2.1.insts.getD r5.1.2.2.2.2.2.1.toNat Inst.z).dest < ((r5.2.2.1.length : Nat) : Int))))
               (grd (Nat.blt (r5.2.2.2.1.insts.getD r5.1.2.2.2.2.2.1.toNat Inst.z).dest.toNat r5.2.2.1.length)
                (bif (r5.2.2.1.getD (r5.2.2.2.1.insts.getD r5.1.2.2.2.2.2.1.toNat Inst.z).dest.toNat false) then
                 (some (Sum.inr (Sum.inr ((false, ()), ()))))
                 else
                 (j1 (((), ((), (r5.1.2.2.1, ((), ((), (r5.1.2.2.2.2.2.1, ((), ()))))))), (r5.2.1, (r5.2.2.1, (r5.2.2.2.1, (r5.2.2.2.2.1, ((r5.2.2.2.1.insts.getD r5.1.2.2.2.2.2.1.toNat Inst.z), ())))))))))))
             else
             (bif (!(decide ((r5.2.2.2.1.insts.getD r5.1.2.2.2.2.2.1.toNat Inst.z).dest = (-(1 : Int))))) then
              (some (Sum.inr (Sum.inr ((false, ()), ()))))
              else
              (j1 (((), ((), (r5.1.2.2.1, ((), ((), (r5.1.2.2.2.2.2.1, ((), ()))))))), (r5.2.1, (r5.2.2.1, (r5.2.2.2.1, (r5.2.2.2.2.1, ((r5.2.2.2.1.insts.getD r5.1.2.2.2.2.2.1.toNat Inst.z), ()))))))))))))))))))
   else
   (some (Sum.inr (Sum.inl (((), ((), (r5.1.2.2.1, ((), ((), ()))))), (r5.2.1, (r5.2.2.1, (r5.2.2.2.1, (r5.2.2.2.2.1, ()))))))))))
def go18_l4 : ((Unit × (Unit × (Int × (Unit × (Unit × (Int × Unit)))))) × (Fn × ((List Bool) × (Block × ((List Bool) × Unit))))) -> Option (((Unit × (Unit × (Int × (Unit × (Unit × (Int × Unit)))))) × (Fn × ((List Bool) × (Block × ((List Bool) × Unit))))) ⊕ (((Unit × (Unit × (Int × (Unit × (Unit × Unit))))) × (Fn × ((List Bool) × (Block × ((List Bool) × Unit))))) ⊕ ((Bool × Unit) × Unit))) := (fun (r5 : ((Unit × (Unit × (Int × (Unit × (Unit × (Int × Unit)))))) × (Fn × ((List Bool) × (Block × ((List Bool) × Unit)))))) => (bif (decide (r5.1.2.2.2.2.2.1 < ((r5.2.2.2.1.params.length : Nat) : Int))) then
   (grd (okB (((0 : Int) <= r5.1.2.2.2.2.2.1) /\ (r5.1.2.2.2.2.2.1 < ((r5.2.2.2.1.params.length : Nat) : Int))))
    (bif (!(Sp.within r5.2.1 (r5.2.2.2.1.params.getD r5.1.2.2.2.2.2.1.toNat (0 : Int)))) then
     (some (Sum.inr (Sum.inr ((false, ()), ()))))
     else
     (grd (okB (((0 : Int) <= (r5.2.2.2.1.params.getD r5.1.2.2.2.2.2.1.toNat (0 : Int))) /\ ((r5.2.2.2.1.params.getD r5.1.2.2.2.2.2.1.toNat (0 : Int)) < ((r5.2.2.1.length : Nat) : Int))))
      (grd (Nat.blt (r5.2.2.2.1.params.getD r5.1.2.2.2.2.2.1.toNat (0 : Int)).toNat r5.2.2.1.length)
       (bif (r5.2.2.1.getD (r5.2.2.2.1.params.getD r5.1.2.2.2.2.2.1.toNat (0 : Int)).toNat false) then
        (some (Sum.inr (Sum.inr ((false, ()), ()))))
        else
        (grd (okB (((0 : Int) <= (r5.2.2.2.1.params.getD r5.1.2.2.2.2.2.1.toNat (0 : Int))) /\ ((r5.2.2.2.1.params.getD r5.1.2.2.2.2.2.1.toNat (0 : Int)) < ((r5.2.2.1.length : Nat) : Int))))
         (grd (Nat.blt (r5.2.2.2.1.params.getD r5.1.2.2.2.2.2.1.toNat (0 : Int)).toNat r5.2.2.1.length)
          (grd (okB (((0 : Int) <= (r5.2.2.2.1.params.getD r5.1.2.2.2.2.2.1.toNat (0 : Int))) /\ ((r5.2.2.2.1.params.getD r5.1.2.2.2.2.2.1.toNat (0 : Int)) < ((r5.2.2.2.2.1.length : Nat) : Int))))
           (grd (Nat.blt (r5.2.2.2.1.params.getD r5.1.2.2.2.2.2.1.toNat (0 : Int)).toNat r5.2.2.2.2.1.length)
            (grd (okB (((-(9223372036854775808 : Int)) <= (r5.1.2.2.2.2.2.1 + (1 : Int))) /\ ((r5.1.2.2.2.2.2.1 + (1 : Int)) <= (9223372036854775807 : Int))))
             (some (Sum.inl (((), ((), (r5.1.2.2.1, ((), ((), ((r5.1.2.2.2.2.2.1 + (1 : Int)), ())))))), (r5.2.1, ((r5.2.2.1.set (r5.2.2.2.1.params.getD r5.1.2.2.2.2.2.1.toNat (0 : Int)).toNat true), (r5.2.2.2.1, ((r5.2.2.2.2.1.set (r5.2.2.2.1.params.getD r5.1.2.2.2.2.2.1.toNat (0 : Int)).toNat true), ())))))))))))))))))
   else
   (some (Sum.inr (Sum.inl (((), ((), (r5.1.2.2.1, ((), ((), ()))))), (r5.2.1, (r5.2.2.1, (r5.2.2.2.1, (r5.2.2.2.2.1, ()))))))))))
def go18_l3 : ((Unit × (Unit × (Int × (Unit × (Unit × (Int × (Int × Unit))))))) × (Fn × ((List Bool) × (Block × ((List Bool) × Unit))))) -> Option (((Unit × (Unit × (Int × (Unit × (Unit × (Int × (Int × Unit))))))) × (Fn × ((List Bool) × (Block × ((List Bool) × Unit))))) ⊕ ((Unit × (Unit × (Int × (Unit × (Unit × Unit))))) × (Fn × ((List Bool) × (Block × ((List Bool) × Unit)))))) := (fun (r5 : ((Unit × (Unit × (Int × (Unit × (Unit × (Int × (Int × Unit))))))) × (Fn × ((List Bool) × (Block × ((List Bool) × Unit)))))) => (bif (decide (r5.1.2.2.2.2.2.2.1 < r5.1.2.2.2.2.2.1)) then
   (grd (okB ((((r5.2.2.2.2.1.length + 1) * (1 : Nat)) <= (140737488355328 : Nat)) /\ ((r5.2.2.2.2.1.length + 1) <= (281474976710656 : Nat))))
    (grd (okB (((-(9223372036854775808 : Int)) <= (r5.1.2.2.2.2.2.2.1 + (1 : Int))) /\ ((r5.1.2.2.2.2.2.2.1 + (1 : Int)) <= (9223372036854775807 : Int))))
     (some (Sum.inl (((), ((), (r5.1.2.2.1, ((), ((), (r5.1.2.2.2.2.2.1, ((r5.1.2.2.2.2.2.2.1 + (1 : Int)), ()))))))), (r5.2.1, (r5.2.2.1, (r5.2.2.2.1, ((r5.2.2.2.2.1 ++ (false :: ([] : List Bool))), ())))))))))
   else
   (some (Sum.inr (((), ((), (r5.1.2.2.1, ((), ((), ()))))), (r5.2.1, (r5.2.2.1, (r5.2.2.2.1, (r5.2.2.2.2.1, ())))))))))
def go18_l2 : ((Unit × (Unit × (Int × Unit))) × (Fn × ((List Bool) × Unit))) -> Option (((Unit × (Unit × (Int × Unit))) × (Fn × ((List Bool) × Unit))) ⊕ ((Unit × Unit) ⊕ ((Bool × Unit) × Unit))) := (fun (r4 : ((Unit × (Unit × (Int × Unit))) × (Fn × ((List Bool) × Unit)))) => (bif (decide (r4.1.2.2.1 < ((r4.2.1.blocks.length : Nat) : Int))) then
   (grd (okB (((0 : Int) <= r4.1.2.2.1) /\ (r4.1.2.2.1 < ((r4.2.1.blocks.length : Nat) : Int))))
    (bif (decide ((4096 : Int) < (((r4.2.1.blocks.getD r4.1.2.2.1.toNat Block.z).insts.length : Nat) : Int))) then
     (some (Sum.inr (Sum.inr ((false, ()), ()))))
     else
     (bif (decide ((r4.2.1.blocks.getD r4.1.2.2.1.toNat Block.z).pipeline < (0 : Int))) then
      (some (Sum.inr (Sum.inr ((false, ()), ()))))
      else
      (bif (decide ((256 : Int) < (r4.2.1.blocks.getD r4.1.2.2.1.toNat Block.z).pipeline)) then
       (some (Sum.inr (Sum.inr ((false, ()), ()))))
       else
       (bif (decide ((r4.2.1.blocks.getD r4.1.2.2.1.toNat Block.z).unroll < (0 : Int))) then
        (some (Sum.inr (Sum.inr ((false, ()), ()))))
        else
        (bif (decide ((64 : Int) < (r4.2.1.blocks.getD r4.1.2.2.1.toNat Block.z).unroll)) then
         (some (Sum.inr (Sum.inr ((false, ()), ()))))
         else
         (bif (decide ((r4.2.1.blocks.getD r4.1.2.2.1.toNat Block.z).line < (0 : Int))) then
          (some (Sum.inr (Sum.inr ((false, ()), ()))))
          else
          (bif (decide ((2147483647 : Int) < (r4.2.1.blocks.getD r4.1.2.2.1.toNat Block.z).line)) then
           (some (Sum.inr (Sum.inr ((false, ()), ()))))
           else
           (callB (whileO (go18_l3) (((), ((), (r4.1.2.2.1, ((), ((), (((r4.2.1.widths.length : Nat) : Int), ((0 : Int), ()))))))), (r4.2.1, (r4.2.2.1, ((r4.2.1.blocks.getD r4.1.2.2.1.toNat Block.z), (([] : List Bool), ()))))))
            (fun (z1 : ((Unit × (Unit × (Int × (Unit × (Unit × Unit))))) × (Fn × ((List Bool) × (Block × ((List Bool) × Unit)))))) => (callB (whileO (go18_l4) (((), ((), (z1.1.2.2.1, ((), ((), ((0 : Int), ())))))), (z1.2.1, (z1.2.2.1, (z1.2.2.2.1, (z1.2.2.2.2.1, ()))))))
              (fun (z2 : (((Unit × (Unit × (Int × (Unit × (Unit × Unit))))) × (Fn × ((List Bool) × (Block × ((List Bool) × Unit))))) ⊕ ((Bool × Unit) × Unit))) => (sumO (fun (z3 : ((Unit × (Unit × (Int × (Unit × (Unit × Unit))))) × (Fn × ((List Bool) × (Block × ((List Bool) × Unit)))))) => (callB (whileO (go18_l5) (((), ((), (z3.1.2.2.1, ((), ((), ((0 : Int), ())))))), (z3.2.1, (z3.2.2.1, (z3.2.2.2.1, (z3.2.2.2.2.1, ()))))))
                  (fun (z4 : (((Unit × (Unit × (Int × (Unit × (Unit × Unit))))) × (Fn × ((List Bool) × (Block × ((List Bool) × Unit))))) ⊕ ((Bool × Unit) × Unit))) => (sumO (fun (z5 : ((Unit × (Unit × (Int × (Unit × (Unit × Unit))))) × (Fn × ((List Bool) × (Block × ((List Bool) × Unit)))))) => (callB (grd (okB ((Fn.ok z5.2.1) /\ ((Term.ok (Term.mk z5.2.2.2.1.term.kind z5.2.2.2.1.term.cond z5.2.2.2.1.term.to z5.2.2.2.1.term.rets)) /\ (z5.2.2.2.2.1.length = z5.2.1.widths.length))))
                       (some ((Sp.termOk z5.2.1 (Term.mk z5.2.2.2.1.term.kind z5.2.2.2.1.term.cond z5.2.2.2.1.term.to z5.2.2.2.1.term.rets) z5.2.2.2.2.1), ())))
                      (fun (r5 : (Bool × Unit)) => (bif (!r5.1) then
                        (some (Sum.inr (Sum.inr ((false, ()), ()))))
                        else
                        (grd (okB (((-(9223372036854775808 : Int)) <= (z5.1.2.2.1 + (1 : Int))) /\ ((z5.1.2.2.1 + (1 : Int)) <= (9223372036854775807 : Int))))
                         (some (Sum.inl (((), ((), ((z5.1.2.2.1 + (1 : Int)), ()))), (z5.2.1, (z5.2.2.1, ()))))))))))
                    (fun (z5 : ((Bool × Unit) × Unit)) => (some (Sum.inr (Sum.inr ((z5.1.1, ()), ()))))) z4))))
                (fun (z3 : ((Bool × Unit) × Unit)) => (some (Sum.inr (Sum.inr ((z3.1.1, ()), ()))))) z2)))))))))))))
   else
   (some (Sum.inr (Sum.inl ((), ()))))))
def go18_l1 : ((Unit × (Unit × (Int × (Int × Unit)))) × (Fn × ((List Bool) × Unit))) -> Option (((Unit × (Unit × (Int × (Int × Unit)))) × (Fn × ((List Bool) × Unit))) ⊕ ((Unit × (Unit × Unit)) × (Fn × ((List Bool) × Unit)))) := (fun (r4 : ((Unit × (Unit × (Int × (Int × Unit)))) × (Fn × ((List Bool) × Unit)))) => (bif (decide (r4.1.2.2.2.1 < r4.1.2.2.1)) then
   (grd (okB ((((r4.2.2.1.length + 1) * (1 : Nat)) <= (140737488355328 : Nat)) /\ ((r4.2.2.1.length + 1) <= (281474976710656 : Nat))))
    (grd (okB (((-(9223372036854775808 : Int)) <= (r4.1.2.2.2.1 + (1 : Int))) /\ ((r4.1.2.2.2.1 + (1 : Int)) <= (9223372036854775807 : Int))))
     (some (Sum.inl (((), ((), (r4.1.2.2.1, ((r4.1.2.2.2.1 + (1 : Int)), ())))), (r4.2.1, ((r4.2.2.1 ++ (false :: ([] : List Bool))), ())))))))
   else
   (some (Sum.inr (((), ((), ())), (r4.2.1, (r4.2.2.1, ())))))))
def go18 (x0 : Fn) : (Option (Bool × Unit)) :=
 (callB (grd (okB ((ByteArray.size x0.name) <= (9223372036854775807 : Nat)))
   (some ((Sp.ident x0.name), ())))
  (fun (r0 : (Bool × Unit)) => (bif (!r0.1) then
    (some (false, ()))
    else
    (callB (grd (okB (Fn.ok x0))
      (some ((Sp.memOk x0), ())))
     (fun (r1 : (Bool × Unit)) => (bif (!r1.1) then
       (some (false, ()))
       else
       (callB (grd (okB (x0.widths.length <= LEN))
         (some ((Sp.widths x0.widths (65536 : Int)), ())))
        (fun (r2 : (Bool × Unit)) => (bif (!r2.1) then
          (some (false, ()))
          else
          (callB (grd (okB (x0.rets.length <= LEN))
            (some ((Sp.widths x0.rets (64 : Int)), ())))
           (fun (r3 : (Bool × Unit)) => (bif (!r3.1) then
             (some (false, ()))
             else
             (bif (decide (((x0.blocks.length : Nat) : Int) < (1 : Int))) then
              (some (false, ()))
              else
              (bif (decide ((1024 : Int) < ((x0.blocks.length : Nat) : Int))) then
               (some (false, ()))
               else
               (callB (whileO (go18_l1) (((), ((), (((x0.widths.length : Nat) : Int), ((0 : Int), ())))), (x0, (([] : List Bool), ()))))
                (fun (z0 : ((Unit × (Unit × Unit)) × (Fn × ((List Bool) × Unit)))) => (callB (whileO (go18_l2) (((), ((), ((0 : Int), ()))), (z0.2.1, (z0.2.2.1, ()))))
                  (fun (z1 : ((Unit × Unit) ⊕ ((Bool × Unit) × Unit))) => (sumO (fun (z2 : (Unit × Unit)) => (some (true, ())))
                    (fun (z2 : ((Bool × Unit) × Unit)) => (some (z2.1.1, ()))) z1)))))))))))))))))))
theorem run18 (x0 : Fn) : runF (P := Try.prog) [c14, c44, c45, c46, c47, c48, c49, c50, c51] Try.f18 ann18 [(0, (.st 6))] [] .b [] (x0, ()) () = go18 x0 := by kernel_rfl
def elimO {σ X : Type} (x : Option σ) (A : σ -> X) (B : X) : X := match x with
 | some s => A s
 | none => B
def foldO {σ α : Type} (g : σ -> α -> Option σ) : List α -> σ -> Option σ
 | [], s => some s
 | a :: l, s => match g s a with
  | some s' => foldO g l s'
  | none => none
theorem whileO_fold {σ β D X : Type} {f : D -> Option (D ⊕ X)} {l : List β} {y0 : D} (z : β) (g : σ -> β -> Option σ) (I : σ -> Prop) {st : Nat -> σ -> D} {s0 : σ} (hy : y0 = st 0 s0) (h0 : I s0) (hI : ∀ s a s', I s -> g s a = some s' -> I s') (A : σ -> X) (B : X)
  (h1 : ∀ i s, i < l.length -> I s -> f (st i s) = some (elimO (g s (l.getD i z)) (fun s' => .inl (st (i + 1) s')) (.inr B))) (h2 : ∀ s, I s -> f (st l.length s) = some (.inr (A s))) :
  whileO f y0 = some (elimO (foldO g l s0) A B) := by
 subst hy
 have key : ∀ (r : List β) (i : Nat) (s : σ), l.drop i = r -> i + r.length = l.length -> I s -> whileO f (st i s) = some (elimO (foldO g r s) A B) := by
  intro r
  induction r with
  | nil =>
   intro i s hd hi hs
   rw [whileO_eq, show i = l.length by simpa using hi, h2 s hs]
   rfl
  | cons a r ih =>
   intro i s hd hi hs
   have hlt : i < l.length := by simp at hi; omega
   have ha : l.getD i z = a := by
    have := congrArg (·[0]?) hd
    simp only [List.getElem?_drop, Nat.add_zero, List.getElem?_cons_zero] at this
    rw [List.getD_eq_getElem?_getD, this]; rfl
   have hdrop : l.drop (i + 1) = r := by
    have := congrArg (·.drop 1) hd
    simpa [List.drop_drop, Nat.add_comm] using this
   rw [whileO_eq, h1 i s hlt hs, ha]
   simp only [foldO]
   cases hg : g s a with
   | none => rfl
   | some s' => exact ih (i + 1) s' hdrop (by simp at hi; omega) (hI s a s' hs hg)
 exact key l 0 s0 rfl (by simp) h0
abbrev DK := List Bool × List Bool
def Sp.parStep (f : Fn) (s : DK) (v : Int) : Option DK := if Sp.within f v = true /\ s.1.getD v.toNat false = false then some (s.1.set v.toNat true, s.2.set v.toNat true) else none
def Sp.destOk (f : Fn) (d : List Bool) (x : Inst) : Bool := if Sp.result x.op = true then Sp.within f x.dest && !(d.getD x.dest.toNat false) else decide (x.dest = -1)
def Sp.mark (s : DK) (x : Inst) : DK := if Sp.result x.op = true then (s.1.set x.dest.toNat true, s.2.set x.dest.toNat true) else s
def Sp.insStep (f : Fn) (s : DK) (x : Inst) : Option DK :=
 if Sp.arity x.op = x.args.length /\ Sp.used f x.args s.2 = true /\ Sp.destOk f s.1 x = true /\ Sp.instrOk f x = true then some (Sp.mark s x) else none
def Sp.limOk (b : Block) : Bool :=
 !decide (4096 < (b.insts.length : Int)) && !decide (b.pipeline < 0) && !decide (256 < b.pipeline) && !decide (b.unroll < 0) && !decide (64 < b.unroll) && !decide (b.line < 0) && !decide (2147483647 < b.line)
def Sp.blkStep (f : Fn) (d : List Bool) (b : Block) : Option (List Bool) :=
 if Sp.limOk b = true then (match foldO (Sp.parStep f) b.params (d, List.replicate f.widths.length false) with
  | some s => match foldO (Sp.insStep f) b.insts s with
   | some s' => if Sp.termOk f b.term s'.2 = true then some s'.1 else none
   | none => none
  | none => none) else none
def Sp.headOk (f : Fn) : Bool := Sp.ident f.name && Sp.memOk f && Sp.widths f.widths 65536 && Sp.widths f.rets 64 && !decide ((f.blocks.length : Int) < 1) && !decide (1024 < (f.blocks.length : Int))
def Sp.valid (f : Fn) : Bool := Sp.headOk f && (foldO (Sp.blkStep f) f.blocks (List.replicate f.widths.length false)).isSome
theorem parStep_len (f : Fn) : ∀ s a s', (s.1.length = f.widths.length /\ s.2.length = f.widths.length) -> Sp.parStep f s a = some s' -> (s'.1.length = f.widths.length /\ s'.2.length = f.widths.length) := by
 intro s a s' hs h
 simp only [Sp.parStep] at h
 split at h
 ·injection h with h; subst h; simpa using hs
 ·cases h
theorem insStep_len (f : Fn) : ∀ s a s', (s.1.length = f.widths.length /\ s.2.length = f.widths.length) -> Sp.insStep f s a = some s' -> (s'.1.length = f.widths.length /\ s'.2.length = f.widths.length) := by
 intro s a s' hs h
 simp only [Sp.insStep] at h
 split at h
 ·injection h with h; subst h; unfold Sp.mark; split <;> simpa using hs
 ·cases h
theorem foldO_inv {σ α : Type} {g : σ -> α -> Option σ} {I : σ -> Prop} (h : ∀ s a s', I s -> g s a = some s' -> I s') : ∀ (l : List α) (s s' : σ), I s -> foldO g l s = some s' -> I s'
 | [], s, s', hi, e => by injection e with e; exact e ▸ hi
 | a :: l, s, s', hi, e => by
  simp only [foldO] at e
  cases hg : g s a with
  | none => rw [hg] at e; cases e
  | some s1 => rw [hg] at e; exact foldO_inv h l s1 s' (h s a s1 hi hg) e
theorem arity_le (op : Int) : Sp.arity op <= 3 := by
 unfold Sp.arity
 repeat' split
 all_goals decide
section
variable {f : Fn} {b : Block} {d k : List Bool} {i : Int}
theorem fill_d (f : Fn) (hw : f.widths.length <= 65536) : whileO go18_l1 (((), (), (f.widths.length : Int), 0, ()), f, [], ()) = some (((), (), ()), f, List.replicate f.widths.length false, ()) := by
 unfold go18_l1
 refine whileO_to (st := fun i => (((), (), (f.widths.length : Int), (i : Int), ()), f, List.replicate i false, ())) rfl f.widths.length (fun i hi => ?_) ?_
 ·have hl : (List.replicate i false).length = i := List.length_replicate
  simp (maxSteps := 1000000) (disch := ((try dsimp only); omega)) only [↓gsA, gsB]
  rw [List.replicate_succ']
 ·simp (maxSteps := 1000000) (disch := ((try dsimp only); omega)) only [↓gsA, gsB]
theorem fill_k (hw : f.widths.length <= 65536) : whileO go18_l3 (((), (), i, (), (), (f.widths.length : Int), 0, ()), f, d, b, [], ()) = some (((), (), i, (), (), ()), f, d, b, List.replicate f.widths.length false, ()) := by
 unfold go18_l3
 refine whileO_to (st := fun j => (((), (), i, (), (), (f.widths.length : Int), (j : Int), ()), f, d, b, List.replicate j false, ())) rfl f.widths.length (fun j hj => ?_) ?_
 ·have hl : (List.replicate j false).length = j := List.length_replicate
  simp (maxSteps := 1000000) (disch := ((try dsimp only); omega)) only [↓gsA, gsB]
  rw [List.replicate_succ']
 ·simp (maxSteps := 1000000) (disch := ((try dsimp only); omega)) only [↓gsA, gsB]
theorem pars_loop (hb : b.ok) (hd : d.length = f.widths.length) (hk : k.length = f.widths.length) : whileO go18_l4 (((), (), i, (), (), 0, ()), f, d, b, k, ()) =
  some (elimO (foldO (Sp.parStep f) b.params (d, k)) (fun s => .inl (((), (), i, (), (), ()), f, s.1, b, s.2, ())) (.inr ((false, ()), ()))) := by
 have hp : b.params.length <= LEN := hb.1.len
 rw [lenVal] at hp
 unfold go18_l4
 refine whileO_fold (l := b.params) 0 (Sp.parStep f) (fun s => s.1.length = f.widths.length /\ s.2.length = f.widths.length) (st := fun j s => (((), (), i, (), (), (j : Int), ()), f, s.1, b, s.2, ())) (s0 := (d, k)) rfl ⟨hd, hk⟩ (parStep_len f) _ _ (fun j s hj hs => ?_) (fun s hs => ?_)
 ·obtain ⟨h1, h2⟩ := hs
  unfold Sp.parStep
  simp (maxSteps := 1000000) (disch := ((try dsimp only); omega)) only [↓gsA, gsB]
  cases hw : Sp.within f (b.params.getD j 0) with
  | false => simp [elimO]
  | true =>
   obtain ⟨q1, q2⟩ := within_iff.1 hw
   simp (maxSteps := 1000000) (disch := ((try dsimp only); omega)) only [↓gsA, gsB]
   cases hx : s.1.getD (b.params.getD j 0).toNat false with
   | true => simp [elimO]
   | false =>
    simp (maxSteps := 1000000) (disch := ((try dsimp only); omega)) only [↓gsA, gsB]
    simp [elimO]
 ·simp (maxSteps := 1000000) (disch := ((try dsimp only); omega)) only [↓gsA, gsB]
theorem j2_18 {x : Inst} {j : Nat} (hj : j <= 4096) (hd : d.length = f.widths.length) (hk : k.length = f.widths.length) (hp : Sp.instPre f x) : go18_j2 go18_j1 (((), (), i, (), (), (j : Int), (), ()), f, d, b, k, x, ()) =
  some (if Sp.instrOk f x = true then .inl (((), (), i, (), (), ((j + 1 : Nat) : Int), ()), f, (Sp.mark (d, k) x).1, b, (Sp.mark (d, k) x).2, ()) else .inr (.inr ((false, ()), ()))) := by
 unfold go18_j2 go18_j1
 rw [grd_ok hp]
 unfold Sp.mark
 simp (maxSteps := 1000000) (disch := ((try dsimp only); omega)) only [↓gsA, gsB]
 cases h1 : Sp.instrOk f x with
 | false => rfl
 | true =>
  cases h2 : Sp.result x.op with
  | false =>
   simp (maxSteps := 1000000) (disch := ((try dsimp only); omega)) only [↓gsA, gsB]
  | true =>
   obtain ⟨h3, h4⟩ := hp.2.2 h2
   simp (maxSteps := 1000000) (disch := ((try dsimp only); omega)) only [↓gsA, gsB]
theorem inss_loop (hf : f.ok) (hb : b.ok) (hlim : b.insts.length <= 4096) (hd : d.length = f.widths.length) (hk : k.length = f.widths.length) : whileO go18_l5 (((), (), i, (), (), 0, ()), f, d, b, k, ()) =
  some (elimO (foldO (Sp.insStep f) b.insts (d, k)) (fun s => .inl (((), (), i, (), (), ()), f, s.1, b, s.2, ())) (.inr ((false, ()), ()))) := by
 unfold go18_l5
 refine whileO_fold (l := b.insts) Inst.z (Sp.insStep f) (fun s => s.1.length = f.widths.length /\ s.2.length = f.widths.length) (st := fun j s => (((), (), i, (), (), (j : Int), ()), f, s.1, b, s.2, ())) (s0 := (d, k)) rfl ⟨hd, hk⟩ (insStep_len f) _ _ (fun j s hj hs => ?_) (fun s hs => ?_)
 ·obtain ⟨h1, h2⟩ := hs
  have hx : (b.insts.getD j Inst.z).ok := getD_ok hb.2.1 _ hj
  have hal : (b.insts.getD j Inst.z).args.length <= LEN := hx.2.2.1.len
  simp (maxSteps := 1000000) (disch := ((try dsimp only); omega)) only [↓gsA, gsB]
  generalize b.insts.getD j Inst.z = x at *
  unfold Sp.insStep
  by_cases h3 : Sp.arity x.op = x.args.length
  rotate_left
  ·simp [h3, elimO]
  cases h4 : Sp.used f x.args s.2 with
  | false => simp [h3, elimO]
  | true =>
   simp (maxSteps := 1000000) (disch := ((try dsimp only); omega)) only [↓gsA, gsB]
   have pre : (Sp.result x.op = true -> 0 <= x.dest /\ x.dest < f.widths.length) -> Sp.instPre f x := fun hr => ⟨by have := arity_le x.op; omega, fun n hn => ⟨(used_get h4 hn).1, (used_get h4 hn).2.1⟩, hr⟩
   cases h5 : Sp.result x.op with
   | false =>
    simp (maxSteps := 1000000) (disch := ((try dsimp only); omega)) only [↓gsA, gsB]
    rw [j2_18 (by omega) h1 h2 (pre (fun h => by rw [h5] at h; cases h))]
    by_cases h6 : x.dest = -1
    ·cases h7 : Sp.instrOk f x <;> simp [Sp.destOk, h5, h6, h3, elimO, h7]
    ·simp [Sp.destOk, h5, h6, elimO]
   | true =>
    cases h6 : Sp.within f x.dest with
    | false => simp [Sp.destOk, h5, h6, elimO]
    | true =>
     obtain ⟨q1, q2⟩ := within_iff.1 h6
     simp (maxSteps := 1000000) (disch := ((try dsimp only); omega)) only [↓gsA, gsB]
     rw [j2_18 (by omega) h1 h2 (pre (fun _ => ⟨q1, q2⟩))]
     cases h8 : s.1.getD x.dest.toNat false with
     | true =>
      rw [List.getD_eq_getElem?_getD] at h8
      simp [Sp.destOk, h5, h6, elimO, h8]
     | false =>
      rw [List.getD_eq_getElem?_getD] at h8
      cases h7 : Sp.instrOk f x <;> simp [Sp.destOk, h5, h6, h3, elimO, h7, h8]
 ·simp (maxSteps := 1000000) (disch := ((try dsimp only); omega)) only [↓gsA, gsB]
theorem blkStep_len (f : Fn) : ∀ d b d', d.length = f.widths.length -> Sp.blkStep f d b = some d' -> d'.length = f.widths.length := by
 intro d b d' hd h
 simp only [Sp.blkStep] at h
 split at h
 ·split at h
  ·rename_i s1 h1
   have i1 := foldO_inv (parStep_len f) _ _ _ ⟨hd, List.length_replicate⟩ h1
   split at h
   ·rename_i s2 h2
    have i2 := foldO_inv (insStep_len f) _ _ _ i1 h2
    split at h
    ·injection h with h; subst h; exact i2.1
    ·cases h
   ·cases h
  ·cases h
 ·cases h
theorem blks_loop (hf : f.ok) (hw : f.widths.length <= 65536) (hbl : f.blocks.length <= 1024) : whileO go18_l2 (((), (), 0, ()), f, List.replicate f.widths.length false, ()) =
  some (elimO (foldO (Sp.blkStep f) f.blocks (List.replicate f.widths.length false)) (fun _ => .inl ((), ())) (.inr ((false, ()), ()))) := by
 unfold go18_l2
 refine whileO_fold (l := f.blocks) Block.z (Sp.blkStep f) (fun d => d.length = f.widths.length) (st := fun j d => (((), (), (j : Int), ()), f, d, ())) rfl List.length_replicate (blkStep_len f) _ _ (fun j d hj hd => ?_) (fun s hs => ?_)
 ·have hbk : (f.blocks.getD j Block.z).ok := Fn.ok_blk hf hj
  simp (maxSteps := 1000000) (disch := ((try dsimp only); omega)) only [↓gsA, gsB]
  generalize f.blocks.getD j Block.z = b at *
  unfold Sp.blkStep Sp.limOk
  by_cases a1 : 4096 < (b.insts.length : Int)
  ·simp [a1, elimO]
  by_cases a2 : b.pipeline < 0
  ·simp [a2, elimO, a1]
  by_cases a3 : 256 < b.pipeline
  ·simp [a3, elimO, a1, a2]
  by_cases a4 : b.unroll < 0
  ·simp [a4, elimO, a1, a2, a3]
  by_cases a5 : 64 < b.unroll
  ·simp [a5, elimO, a1, a2, a3, a4]
  by_cases a6 : b.line < 0
  ·simp [a6, elimO, a1, a2, a3, a4, a5]
  by_cases a7 : 2147483647 < b.line
  ·simp [a7, elimO, a1, a2, a3, a4, a5, a6]
  rw [if_neg a1, if_neg a2, if_neg a3, if_neg a4, if_neg a5, if_neg a6, if_neg a7]
  have hlim : (!decide (4096 < (b.insts.length : Int)) && !decide (b.pipeline < 0) && !decide (256 < b.pipeline) && !decide (b.unroll < 0) && !decide (64 < b.unroll) && !decide (b.line < 0) && !decide (2147483647 < b.line)) = true := by
   simp [a1, a2, a3, a4, a5, a6, a7]
  rw [if_pos hlim]
  refine callB_of (fill_k hw) ?_
  refine callB_of (pars_loop hbk hd List.length_replicate) ?_
  cases h1 : foldO (Sp.parStep f) b.params (d, List.replicate f.widths.length false) with
  | none => rfl
  | some s1 =>
   have i1 := foldO_inv (parStep_len f) _ _ _ ⟨hd, List.length_replicate⟩ h1
   show sumO _ _ (Sum.inl _) = _
   rw [sumO_inl]
   refine callB_of (inss_loop hf hbk (show b.insts.length <= 4096 by omega) i1.1 i1.2) ?_
   cases h2 : foldO (Sp.insStep f) b.insts s1 with
   | none => simp only [h2, elimO, sumO_inr]
   | some s2 =>
    have i2 := foldO_inv (insStep_len f) _ _ _ i1 h2
    simp only [h2, elimO, sumO_inl]
    rw [grd_ok ⟨hf, hbk.2.2.1, i2.2⟩]
    show (bif Sp.termOk f b.term s2.2 then _ else _) = _
    cases h3 : Sp.termOk f b.term s2.2 with
    | false => rfl
    | true =>
     simp (maxSteps := 1000000) (disch := ((try dsimp only); omega)) only [↓gsA, gsB]
 ·simp (maxSteps := 1000000) (disch := ((try dsimp only); omega)) only [↓gsA, gsB]
theorem ok18 (f : Fn) (hf : f.ok) : go18 f = some (Sp.valid f, ()) := by
 have hwl : f.widths.length <= LEN := hf.2.1.len
 have hrl : f.rets.length <= LEN := hf.2.2.2.2.1.len
 have hns : f.name.size <= 9223372036854775807 := hf.1
 unfold go18
 rw [grd_ok hns, grd_ok hf, grd_ok hwl, grd_ok hrl]
 unfold Sp.valid Sp.headOk
 simp (maxSteps := 1000000) (disch := ((try dsimp only); omega)) only [↓gsA, gsB]
 cases h1 : Sp.ident f.name with
 | false => rfl
 | true =>
  cases h2 : Sp.memOk f with
  | false => rfl
  | true =>
   cases h3 : Sp.widths f.widths 65536 with
   | false => rfl
   | true =>
    cases h4 : Sp.widths f.rets 64 with
    | false => rfl
    | true =>
     have hw : f.widths.length <= 65536 := by
      simp only [Sp.widths, Bool.and_eq_true, decide_eq_true_eq] at h3
      omega
     by_cases h5 : (f.blocks.length : Int) < 1
     ·simp (maxSteps := 1000000) (disch := ((try dsimp only); omega)) only [↓gsA, gsB]
      rw [decide_eq_true h5]; rfl
     by_cases h6 : 1024 < (f.blocks.length : Int)
     ·simp (maxSteps := 1000000) (disch := ((try dsimp only); omega)) only [↓gsA, gsB]
      rw [decide_eq_true h6, decide_eq_false h5]; rfl
     simp (maxSteps := 1000000) (disch := ((try dsimp only); omega)) only [↓gsA, gsB]
     refine callB_of (fill_d f hw) ?_
     refine callB_of (blks_loop hf hw (show f.blocks.length <= 1024 by omega)) ?_
     rw [decide_eq_false h5, decide_eq_false h6]
     cases foldO (Sp.blkStep f) f.blocks (List.replicate f.widths.length false) <;> rfl
end
def c18 : Ctr Try.prog := mkCtr 18 Try.f18 Try.func18 [c14, c44, c45, c46, c47, c48, c49, c50, c51] ann18 [(0, (.st 6))] [] .b [] (fun x _ => grd (okB x.1.ok) (some (Sp.valid x.1, ()))) (fun x _ r h => FO (run18 x.1) (ok18 x.1) h)
end
end Go.Abs
namespace Go.Abs
open Go Go.Proofs
noncomputable section
theorem foldO_all {σ α : Type} {g : σ -> α -> Option σ} : ∀ (l : List α) (s s' : σ), foldO g l s = some s' -> ∀ a ∈ l, ∃ s1 s2, g s1 a = some s2
 | [], s, s', h, a, ha => by cases ha
 | b :: l, s, s', h, a, ha => by
  simp only [foldO] at h
  cases hg : g s b with
  | none => rw [hg] at h; cases h
  | some s1 =>
   rw [hg] at h
   rcases List.mem_cons.1 ha with rfl | ha
   ·exact ⟨s, s1, hg⟩
   ·exact foldO_all l s1 s' h a ha
end
end Go.Abs
namespace Go.Abs
open Go Go.Proofs
noncomputable section
def go54_l1 : (((List Int) × ((List Int) × (Int × (Int × Unit)))) × Unit) -> Option ((((List Int) × ((List Int) × (Int × (Int × Unit)))) × Unit) ⊕ ((Unit × Unit) ⊕ ((Bool × Unit) × Unit))) := (fun (r0 : (((List Int) × ((List Int) × (Int × (Int × Unit)))) × Unit)) => (bif (decide (r0.1.2.2.2.1 < r0.1.2.2.1)) then
   (grd (okB (((0 : Int) <= r0.1.2.2.2.1) /\ (r0.1.2.2.2.1 < ((r0.1.1.length : Nat) : Int))))
    (grd (okB (((0 : Int) <= r0.1.2.2.2.1) /\ (r0.1.2.2.2.1 < ((r0.1.2.1.length : Nat) : Int))))
     (bif (!(decide ((r0.1.1.getD r0.1.2.2.2.1.toNat (0 : Int)) = (r0.1.2.1.getD r0.1.2.2.2.1.toNat (0 : Int))))) then
      (some (Sum.inr (Sum.inr ((false, ()), ()))))
      else
      (grd (okB (((-(9223372036854775808 : Int)) <= (r0.1.2.2.2.1 + (1 : Int))) /\ ((r0.1.2.2.2.1 + (1 : Int)) <= (9223372036854775807 : Int))))
       (some (Sum.inl ((r0.1.1, (r0.1.2.1, (r0.1.2.2.1, ((r0.1.2.2.2.1 + (1 : Int)), ())))), ())))))))
   else
   (some (Sum.inr (Sum.inl ((), ()))))))
def go54 (x0 : (List Int)) (x1 : (List Int)) : (Option (Bool × Unit)) :=
 (bif (!(decide (((x0.length : Nat) : Int) = ((x1.length : Nat) : Int)))) then
  (some (false, ()))
  else
  (callB (whileO (go54_l1) ((x0, (x1, (((x0.length : Nat) : Int), ((0 : Int), ())))), ()))
   (fun (z0 : ((Unit × Unit) ⊕ ((Bool × Unit) × Unit))) => (sumO (fun (z1 : (Unit × Unit)) => (some (true, ())))
     (fun (z1 : ((Bool × Unit) × Unit)) => (some (z1.1.1, ()))) z0))))
def ann39 : Ann := (.seq .o (.join ⟨[(0, (.fz (.int .i64))), (1, (.fz (.int .i64)))], []⟩ (.seq .o (.cond (.seq .o .o) .o)) (.join ⟨[], []⟩ (.seq .o (.block (.loop ⟨[(0, (.fz (.int .i64))), (1, (.fz (.int .i64))), (5, (.i .i64))], []⟩ [((.exit 0), ⟨[], []⟩), (.ret, ⟨[(4, .b)], []⟩)] (.join ⟨[(0, (.fz (.int .i64))), (1, (.fz (.int .i64))), (5, (.i .i64))], []⟩ (.seq .o (.cond .o .o)) (.join ⟨[(0, (.fz (.int .i64))), (1, (.fz (.int .i64))), (5, (.i .i64))], []⟩ (.block (.seq .o (.cond (.seq .o .o) .o))) .o))))) (.seq .o .o))))
def go39_l1 : (((List Int) × ((List Int) × (Int × Unit))) × Unit) -> Option ((((List Int) × ((List Int) × (Int × Unit))) × Unit) ⊕ ((Unit × Unit) ⊕ ((Bool × Unit) × Unit))) := (fun (r0 : (((List Int) × ((List Int) × (Int × Unit))) × Unit)) => (bif (decide (r0.1.2.2.1 < ((r0.1.1.length : Nat) : Int))) then
   (grd (okB (((0 : Int) <= r0.1.2.2.1) /\ (r0.1.2.2.1 < ((r0.1.1.length : Nat) : Int))))
    (grd (okB (((0 : Int) <= r0.1.2.2.1) /\ (r0.1.2.2.1 < ((r0.1.2.1.length : Nat) : Int))))
     (bif (!(decide ((r0.1.1.getD r0.1.2.2.1.toNat (0 : Int)) = (r0.1.2.1.getD r0.1.2.2.1.toNat (0 : Int))))) then
      (some (Sum.inr (Sum.inr ((false, ()), ()))))
      else
      (grd (okB (((-(9223372036854775808 : Int)) <= (r0.1.2.2.1 + (1 : Int))) /\ ((r0.1.2.2.1 + (1 : Int)) <= (9223372036854775807 : Int))))
       (some (Sum.inl ((r0.1.1, (r0.1.2.1, ((r0.1.2.2.1 + (1 : Int)), ()))), ())))))))
   else
   (some (Sum.inr (Sum.inl ((), ()))))))
def go39 (x0 : (List Int)) (x1 : (List Int)) : (Option (Bool × Unit)) :=
 (bif (!(decide (((x0.length : Nat) : Int) = ((x1.length : Nat) : Int)))) then
  (some (false, ()))
  else
  (callB (whileO (go39_l1) ((x0, (x1, ((0 : Int), ()))), ()))
   (fun (z0 : ((Unit × Unit) ⊕ ((Bool × Unit) × Unit))) => (sumO (fun (z1 : (Unit × Unit)) => (some (true, ())))
     (fun (z1 : ((Bool × Unit) × Unit)) => (some (z1.1.1, ()))) z0))))
theorem run39 (x0 : (List Int)) (x1 : (List Int)) : runF (P := Try.prog) [] Try.f39 ann39 [(0, (.fz (.int .i64))), (1, (.fz (.int .i64)))] [] .b [] (x0, (x1, ())) () = go39 x0 x1 := by kernel_rfl
def ann41 : Ann := (.seq .o (.join ⟨[], []⟩ (.seq .o (.block (.loop ⟨[(0, (.fz (.int .i64))), (1, (.i .i64)), (5, (.i .i64))], []⟩ [((.exit 0), ⟨[], []⟩), (.ret, ⟨[(4, .b)], []⟩)] (.join ⟨[(0, (.fz (.int .i64))), (1, (.i .i64)), (5, (.i .i64))], []⟩ (.seq .o (.cond .o .o)) (.join ⟨[(0, (.fz (.int .i64))), (1, (.i .i64)), (5, (.i .i64))], []⟩ (.block (.seq .o (.cond (.seq .o .o) .o))) .o))))) (.seq .o .o)))
def go41_l1 : (((List Int) × (Int × (Int × Unit))) × Unit) -> Option ((((List Int) × (Int × (Int × Unit))) × Unit) ⊕ ((Unit × Unit) ⊕ ((Bool × Unit) × Unit))) := (fun (r0 : (((List Int) × (Int × (Int × Unit))) × Unit)) => (bif (decide (r0.1.2.2.1 < ((r0.1.1.length : Nat) : Int))) then
   (grd (okB (((0 : Int) <= r0.1.2.2.1) /\ (r0.1.2.2.1 < ((r0.1.1.length : Nat) : Int))))
    (bif (decide ((r0.1.1.getD r0.1.2.2.1.toNat (0 : Int)) = r0.1.2.1)) then
     (some (Sum.inr (Sum.inr ((true, ()), ()))))
     else
     (grd (okB (((-(9223372036854775808 : Int)) <= (r0.1.2.2.1 + (1 : Int))) /\ ((r0.1.2.2.1 + (1 : Int)) <= (9223372036854775807 : Int))))
      (some (Sum.inl ((r0.1.1, (r0.1.2.1, ((r0.1.2.2.1 + (1 : Int)), ()))), ()))))))
   else
   (some (Sum.inr (Sum.inl ((), ()))))))
def go41 (x0 : (List Int)) (x1 : Int) : (Option (Bool × Unit)) :=
 (callB (whileO (go41_l1) ((x0, (x1, ((0 : Int), ()))), ()))
  (fun (z0 : ((Unit × Unit) ⊕ ((Bool × Unit) × Unit))) => (sumO (fun (z1 : (Unit × Unit)) => (some (false, ())))
    (fun (z1 : ((Bool × Unit) × Unit)) => (some (z1.1.1, ()))) z0)))
theorem run41 (x0 : (List Int)) (x1 : Int) : runF (P := Try.prog) [] Try.f41 ann41 [(0, (.fz (.int .i64))), (1, (.i .i64))] [] .b [] (x0, (x1, ())) () = go41 x0 x1 := by kernel_rfl
theorem all_eq {x y : List Int} (h : x.length = y.length) : (List.range x.length).all (fun i => decide (x.getD i 0 = y.getD i 0)) = decide (x = y) := by
 rw [Bool.eq_iff_iff]
 simp only [List.all_eq_true, List.mem_range, decide_eq_true_eq]
 constructor
 ·intro k
  refine List.ext_getElem h fun i h1 h2 => ?_
  have := k i h1
  simpa [List.getD_eq_getElem?_getD, h1, h2] using this
 ·rintro rfl i _; rfl
theorem ok54 (x y : List Int) (hx : x.length <= LEN) : go54 x y = some (decide (x = y), ()) := by
 rw [lenVal] at hx
 unfold go54 go54_l1
 by_cases h : (x.length : Int) = y.length
 ·have h' : x.length = y.length := by omega
  simp (maxSteps := 1000000) (disch := ((try dsimp only); omega)) only [↓gsA, gsB]
  refine callB_of (whileO_all (l := List.range x.length) (st := fun i => ((x, y, ((x.length : Nat) : Int), (i : Int), ()), ())) rfl 0 (fun i => decide (x.getD i 0 = y.getD i 0)) (A := .inl ((), ())) (B := .inr ((false, ()), ())) (fun i hi hp => ?_) (fun i hi hp => ?_) (fun _ => ?_)) ?_
  ·rw [List.length_range] at hi
   rw [range_getD hi] at hp
   have hp := of_decide_eq_true hp
   simp (maxSteps := 1000000) (disch := ((try dsimp only); omega)) only [↓gsA, gsB]
  ·rw [List.length_range] at hi
   rw [range_getD hi] at hp
   have hp := of_decide_eq_false hp
   simp (maxSteps := 1000000) (disch := ((try dsimp only); omega)) only [↓gsA, gsB]
  ·rw [List.length_range]; simp (maxSteps := 1000000) (disch := ((try dsimp only); omega)) only [↓gsA, gsB]
  ·rw [all_eq h']
   by_cases e : x = y
   ·rw [decide_eq_true e]; rfl
   ·rw [decide_eq_false e]; rfl
 ·have e : x ≠ y := fun e => h (by rw [e])
  rw [decide_eq_false e]
  simp (maxSteps := 1000000) (disch := ((try dsimp only); omega)) only [↓gsA, gsB]
theorem ok39 (x y : List Int) (hx : x.length <= LEN) : go39 x y = some (decide (x = y), ()) := by
 rw [lenVal] at hx
 unfold go39 go39_l1
 by_cases h : (x.length : Int) = y.length
 ·have h' : x.length = y.length := by omega
  simp (maxSteps := 1000000) (disch := ((try dsimp only); omega)) only [↓gsA, gsB]
  refine callB_of (whileO_all (l := List.range x.length) (st := fun i => ((x, y, (i : Int), ()), ())) rfl 0 (fun i => decide (x.getD i 0 = y.getD i 0)) (A := .inl ((), ())) (B := .inr ((false, ()), ())) (fun i hi hp => ?_) (fun i hi hp => ?_) (fun _ => ?_)) ?_
  ·rw [List.length_range] at hi
   rw [range_getD hi] at hp
   have hp := of_decide_eq_true hp
   simp (maxSteps := 1000000) (disch := ((try dsimp only); omega)) only [↓gsA, gsB]
  ·rw [List.length_range] at hi
   rw [range_getD hi] at hp
   have hp := of_decide_eq_false hp
   simp (maxSteps := 1000000) (disch := ((try dsimp only); omega)) only [↓gsA, gsB]
  ·rw [List.length_range]; simp (maxSteps := 1000000) (disch := ((try dsimp only); omega)) only [↓gsA, gsB]
  ·rw [all_eq h']
   by_cases e : x = y
   ·rw [decide_eq_true e]; rfl
   ·rw [decide_eq_false e]; rfl
 ·have e : x ≠ y := fun e => h (by rw [e])
  rw [decide_eq_false e]
  simp (maxSteps := 1000000) (disch := ((try dsimp only); omega)) only [↓gsA, gsB]
def c39 : Ctr Try.prog := mkCtr 39 Try.f39 Try.func39 [] ann39 [(0, (.fz (.int .i64))), (1, (.fz (.int .i64)))] [] .b [] (fun x _ => grd (okB (x.1.length <= LEN)) (some (decide (x.1 = x.2.1), ()))) (fun x _ r h => FO (run39 x.1 x.2.1) (ok39 x.1 x.2.1) h)
theorem ok41 (l : List Int) (v : Int) (hl : l.length <= LEN) : go41 l v = some (!(l.all fun x => !decide (x = v)), ()) := by
 rw [lenVal] at hl
 unfold go41 go41_l1
 refine callB_of (whileO_all (l := l) (st := fun i => ((l, v, (i : Int), ()), ())) rfl 0 (fun x => !decide (x = v)) (A := .inl ((), ())) (B := .inr ((true, ()), ())) (fun i hi hp => ?_) (fun i hi hp => ?_) (fun _ => ?_)) ?_
 ·have hp : ¬ l.getD i 0 = v := by simpa using hp
  simp (maxSteps := 1000000) (disch := ((try dsimp only); omega)) only [↓gsA, gsB]
 ·have hp : l.getD i 0 = v := by simpa using hp
  simp (maxSteps := 1000000) (disch := ((try dsimp only); omega)) only [↓gsA, gsB]
 ·simp (maxSteps := 1000000) (disch := ((try dsimp only); omega)) only [↓gsA, gsB]
 ·cases l.all (fun x => !decide (x = v)) <;> rfl
def c41 : Ctr Try.prog := mkCtr 41 Try.f41 Try.func41 [] ann41 [(0, (.fz (.int .i64))), (1, (.i .i64))] [] .b [] (fun x _ => grd (okB (x.1.length <= LEN)) (some (!(x.1.all fun y => !decide (y = x.2.1)), ()))) (fun x _ r h => FO (run41 x.1 x.2.1) (ok41 x.1 x.2.1) h)
end
end Go.Abs
namespace Go.Abs
open Go Go.Proofs
noncomputable section
def ar101 : List (Nat × Sh) := [(0, (.i .i64)), (1, (.ptr 0 0)), (2, (.ptr 1 0)), (3, (.ptr 2 0)), (4, (.ptr 3 0))]
def os101 : List OSh := [(.cells 69 [(.full 4)]), (.cells 25 [(.full 5)]), (.box 30 (.st 6)), (.cells 120 [(.fn 101 [(.ptr 0 0), (.ptr 1 0), (.ptr 2 0), (.ptr 3 0)])]), (.lst 4 .bool), (.lst 3 (.int .i64))]
def ro101 : List OSh := [(.cells 69 [(.full 4)]), (.cells 25 [(.full 6)]), (.box 30 (.st 6)), (.cells 120 [(.fn 101 [(.ptr 0 0), (.ptr 1 0), (.ptr 2 0), (.ptr 3 0)])]), (.lst 4 .bool), .dead, (.lst 3 (.int .i64))]
@[reducible] def D101 : Type := (Int × (Unit × (Unit × (Unit × (Unit × Unit))))) -> ((Unit × Unit) × ((Unit × Unit) × (Fn × (((Unit × (Unit × (Unit × (Unit × Unit)))) × Unit) × (List Bool × (List Int × Unit)))))) -> Option (Unit × ((Unit × Unit) × ((Unit × Unit) × (Fn × (((Unit × (Unit × (Unit × (Unit × Unit)))) × Unit) × (List Bool × (Unit × (List Int × Unit))))))))
def Ok101 (G : D101) : Prop := ∀ (x : DT ar101) (y : DO os101) r, G x y = some r -> CT Try.prog 101 (mkArgs ar101 x) (mkH 6 os101 y) (fun v H' => v = mkE (.tup []) r.1 /\ H' = mkH 6 ro101 r.2)
def mk101 (G : D101) (h : Ok101 G) : Ctr Try.prog := ⟨101, inferInstance, ar101, os101, .tup [], ro101, G, h⟩
end
end Go.Abs
namespace Go.Abs
open Go Go.Proofs
noncomputable section
def ann101 : Ann := (.join ⟨[(0, (.i .i64)), (1, (.ptr 0 0)), (2, (.ptr 1 0)), (3, (.ptr 2 0)), (4, (.ptr 3 0))], [(.cells 69 [(.full 4)]), (.cells 25 [(.full 5)]), (.box 30 (.st 6)), (.cells 120 [(.fn 101 [(.ptr 0 0), (.ptr 1 0), (.ptr 2 0), (.ptr 3 0)])]), (.lst 4 .bool), (.lst 3 (.int .i64))]⟩ (.seq .o (.cond .o .o)) (.seq .o (.seq .o (.seq .o (.block (.loop ⟨[(4, (.ptr 3 0)), (35, (.fz (.st 1))), (36, (.i .i64)), (37, (.i .i64))], [(.cells 69 [(.full 4)]), (.cells 25 [(.full 6)]), (.box 30 (.st 6)), (.cells 120 [(.fn 101 [(.ptr 0 0), (.ptr 1 0), (.ptr 2 0), (.ptr 3 0)])]), (.lst 4 .bool), .dead, (.lst 3 (.int .i64))]⟩ [((.exit 0), ⟨[], [(.cells 69 [(.full 4)]), (.cells 25 [(.full 6)]), (.box 30 (.st 6)), (.cells 120 [(.fn 101 [(.ptr 0 0), (.ptr 1 0), (.ptr 2 0), (.ptr 3 0)])]), (.lst 4 .bool), .dead, (.lst 3 (.int .i64))]⟩)] (.seq .o (.join ⟨[(4, (.ptr 3 0)), (35, (.fz (.st 1))), (36, (.i .i64)), (37, (.i .i64))], [(.cells 69 [(.full 4)]), (.cells 25 [(.full 6)]), (.box 30 (.st 6)), (.cells 120 [(.fn 101 [(.ptr 0 0), (.ptr 1 0), (.ptr 2 0), (.ptr 3 0)])]), (.lst 4 .bool), .dead, (.lst 3 (.int .i64))]⟩ (.cond .o .o) (.join ⟨[(4, (.ptr 3 0)), (35, (.fz (.st 1))), (36, (.i .i64)), (37, (.i .i64))], [(.cells 69 [(.full 4)]), (.cells 25 [(.full 6)]), (.box 30 (.st 6)), (.cells 120 [(.fn 101 [(.ptr 0 0), (.ptr 1 0), (.ptr 2 0), (.ptr 3 0)])]), (.lst 4 .bool), .dead, (.lst 3 (.int .i64))]⟩ (.block (.seq .o .o)) .o)))))))))
def go101_l1 (G : D101) : ((Unit × ((List Edge) × (Int × (Int × Unit)))) × ((Unit × Unit) × ((Unit × Unit) × (Fn × (((Unit × (Unit × (Unit × (Unit × Unit)))) × Unit) × ((List Bool) × (Unit × ((List Int) × Unit)))))))) -> Option (((Unit × ((List Edge) × (Int × (Int × Unit)))) × ((Unit × Unit) × ((Unit × Unit) × (Fn × (((Unit × (Unit × (Unit × (Unit × Unit)))) × Unit) × ((List Bool) × (Unit × ((List Int) × Unit)))))))) ⊕ (Unit × ((Unit × Unit) × ((Unit × Unit) × (Fn × (((Unit × (Unit × (Unit × (Unit × Unit)))) × Unit) × ((List Bool) × (Unit × ((List Int) × Unit))))))))) := (fun (r0 : ((Unit × ((List Edge) × (Int × (Int × Unit)))) × ((Unit × Unit) × ((Unit × Unit) × (Fn × (((Unit × (Unit × (Unit × (Unit × Unit)))) × Unit) × ((List Bool) × (Unit × ((List Int) × Unit))))))))) => (bif (decide (r0.1.2.2.2.1 < r0.1.2.2.1)) then
   (grd (okB (((0 : Int) <= r0.1.2.2.2.1) /\ (r0.1.2.2.2.1 < ((r0.1.2.1.length : Nat) : Int))))
    (callB (G ((r0.1.2.1.getD r0.1.2.2.2.1.toNat Edge.z).block, ((), ((), ((), ((), ()))))) (((), ()), (((), ()), (r0.2.2.2.1, ((((), ((), ((), ((), ())))), ()), (r0.2.2.2.2.2.1, (r0.2.2.2.2.2.2.2.1, ())))))))
     (fun (r1 : (Unit × ((Unit × Unit) × ((Unit × Unit) × (Fn × (((Unit × (Unit × (Unit × (Unit × Unit)))) × Unit) × ((List Bool) × (Unit × ((List Int) × Unit))))))))) => (grd ((decide ((1 : Nat) = (1 : Nat))) && ((decide ((1 : Nat) = (1 : Nat))) && ((decide (1 = 1)) && ((decide ((1 : Nat) = (1 : Nat))) && ((decide (r1.2.2.2.2.2.1.length = r0.2.2.2.2.2.1.length)) && true)))))
       (grd (okB (((-(9223372036854775808 : Int)) <= (r0.1.2.2.2.1 + (1 : Int))) /\ ((r0.1.2.2.2.1 + (1 : Int)) <= (9223372036854775807 : Int))))
        (some (Sum.inl (((), (r0.1.2.1, (r0.1.2.2.1, ((r0.1.2.2.2.1 + (1 : Int)), ())))), (((), ()), (((), ()), (r1.2.2.2.1, ((((), ((), ((), ((), ())))), ()), (r1.2.2.2.2.2.1, ((), (r1.2.2.2.2.2.2.2.1, ())))))))))))))))
   else
   (some (Sum.inr ((), (((), ()), (((), ()), (r0.2.2.2.1, ((((), ((), ((), ((), ())))), ()), (r0.2.2.2.2.2.1, ((), (r0.2.2.2.2.2.2.2.1, ()))))))))))))
def go101 (G : D101) (x0 : Int) (y0 : (Unit × Unit)) (y1 : (Unit × Unit)) (y2 : Fn) (y3 : ((Unit × (Unit × (Unit × (Unit × Unit)))) × Unit)) (y4 : (List Bool)) (y5 : (List Int)) : (Option (Unit × ((Unit × Unit) × ((Unit × Unit) × (Fn × (((Unit × (Unit × (Unit × (Unit × Unit)))) × Unit) × ((List Bool) × (Unit × ((List Int) × Unit))))))))) :=
 (bif (decide (x0 < (0 : Int))) then
  (some ((), (((), ()), (((), ()), (y2, ((((), ((), ((), ((), ())))), ()), (y4, ((), (y5, ())))))))))
  else
  (bif (decide (((y4.length : Nat) : Int) <= x0)) then
   (some ((), (((), ()), (((), ()), (y2, ((((), ((), ((), ((), ())))), ()), (y4, ((), (y5, ())))))))))
   else
   (grd (okB (((0 : Int) <= x0) /\ (x0 < ((y4.length : Nat) : Int))))
    (grd (Nat.blt x0.toNat y4.length)
     (bif (y4.getD x0.toNat false) then
      (some ((), (((), ()), (((), ()), (y2, ((((), ((), ((), ((), ())))), ()), (y4, ((), (y5, ())))))))))
      else
      (grd (okB (((0 : Int) <= x0) /\ (x0 < ((y4.length : Nat) : Int))))
       (grd (Nat.blt x0.toNat y4.length)
        (grd (okB ((((y5.length + 1) * (8 : Nat)) <= (140737488355328 : Nat)) /\ ((y5.length + 1) <= (281474976710656 : Nat))))
         (grd (okB (((0 : Int) <= x0) /\ (x0 < ((y2.blocks.length : Nat) : Int))))
          (callB (whileO (go101_l1 G) (((), ((y2.blocks.getD x0.toNat Block.z).term.to, ((((y2.blocks.getD x0.toNat Block.z).term.to.length : Nat) : Int), ((0 : Int), ())))), (((), ()), (((), ()), (y2, ((((), ((), ((), ((), ())))), ()), ((y4.set x0.toNat true), ((), ((y5 ++ (x0 :: ([] : List Int))), ())))))))))
           (fun (z0 : (Unit × ((Unit × Unit) × ((Unit × Unit) × (Fn × (((Unit × (Unit × (Unit × (Unit × Unit)))) × Unit) × ((List Bool) × (Unit × ((List Int) × Unit))))))))) => (some ((), (((), ()), (((), ()), (z0.2.2.2.1, ((((), ((), ((), ((), ())))), ()), (z0.2.2.2.2.2.1, ((), (z0.2.2.2.2.2.2.2.1, ()))))))))))))))))))))
theorem run101 (G : D101) (hG : (Ok101 G)) (x0 : Int) (y0 : (Unit × Unit)) (y1 : (Unit × Unit)) (y2 : Fn) (y3 : ((Unit × (Unit × (Unit × (Unit × Unit)))) × Unit)) (y4 : (List Bool)) (y5 : (List Int)) : runF (P := Try.prog) [mk101 G hG] Try.f101 ann101 [(0, (.i .i64)), (1, (.ptr 0 0)), (2, (.ptr 1 0)), (3, (.ptr 2 0)), (4, (.ptr 3 0))] [(.cells 69 [(.full 4)]), (.cells 25 [(.full 5)]), (.box 30 (.st 6)), (.cells 120 [(.fn 101 [(.ptr 0 0), (.ptr 1 0), (.ptr 2 0), (.ptr 3 0)])]), (.lst 4 .bool), (.lst 3 (.int .i64))] (.tup []) [(.cells 69 [(.full 4)]), (.cells 25 [(.full 6)]), (.box 30 (.st 6)), (.cells 120 [(.fn 101 [(.ptr 0 0), (.ptr 1 0), (.ptr 2 0), (.ptr 3 0)])]), (.lst 4 .bool), .dead, (.lst 3 (.int .i64))] (x0, ((), ((), ((), ((), ()))))) (y0, (y1, (y2, (y3, (y4, (y5, ())))))) = go101 G x0 y0 y1 y2 y3 y4 y5 := by kernel_rfl
def F101 : Nat -> D101
 | 0 => fun _ _ => none
 | n + 1 => fun x y => go101 (F101 n) x.1 y.1 y.2.1 y.2.2.1 y.2.2.2.1 y.2.2.2.2.1 y.2.2.2.2.2.1
theorem okF101 : ∀ n, Ok101 (F101 n)
 | 0 => fun x y r h => by cases h
 | n + 1 => fun x y r h => by
  have h1 := run101 (F101 n) (okF101 n) x.1 y.1 y.2.1 y.2.2.1 y.2.2.2.1 y.2.2.2.2.1 y.2.2.2.2.2.1
  exact CT.of Try.func101 (h1.trans h)
def Sp.visit (f : Fn) : Nat -> Int -> List Bool × List Int -> List Bool × List Int
 | 0, _, s => s
 | n + 1, b, s => if b < 0 \/ (s.1.length : Int) <= b then s else if s.1.getD b.toNat false then s else
   (f.blocks.getD b.toNat Block.z).term.to.foldl (fun s e => Sp.visit f n e.block s) (s.1.set b.toNat true, s.2 ++ [b])
def unseen (l : List Bool) : Nat := l.count false
theorem unseen_set {l : List Bool} {i : Nat} (h : i < l.length) (hf : l.getD i false = false) : unseen (l.set i true) + 1 = unseen l := by
 induction l generalizing i with
 | nil => simp at h
 | cons a l ih =>
  cases i with
  | zero =>
   have : a = false := by simpa using hf
   subst this
   simp [unseen]
  | succ i =>
   have h1 := ih (i := i) (by simpa using h) (by simpa using hf)
   simp only [unseen, List.set_cons_succ, List.count_cons] at h1 ⊢
   omega
theorem foldl_inv {α β : Type} (P : β -> Prop) (g : β -> α -> β) (h : ∀ s a, P s -> P (g s a)) : ∀ (l : List α) (s : β), P s -> P (l.foldl g s)
 | [], _, hs => hs
 | a :: l, s, hs => foldl_inv P g h l (g s a) (h s a hs)
theorem visit_inv (f : Fn) : ∀ (n : Nat) (b : Int) (s : List Bool × List Int), (Sp.visit f n b s).1.length = s.1.length /\ (Sp.visit f n b s).2.length + unseen (Sp.visit f n b s).1 = s.2.length + unseen s.1 /\ unseen (Sp.visit f n b s).1 <= unseen s.1
 | 0, b, s => ⟨rfl, rfl, Nat.le_refl _⟩
 | n + 1, b, s => by
  unfold Sp.visit
  split
  ·exact ⟨rfl, rfl, Nat.le_refl _⟩
  ·rename_i hb
   split
   ·exact ⟨rfl, rfl, Nat.le_refl _⟩
   ·rename_i hs
    have hlt : b.toNat < s.1.length := by omega
    have hu := unseen_set hlt (by simpa using hs)
    refine foldl_inv (fun r : List Bool × List Int => r.1.length = s.1.length /\ r.2.length + unseen r.1 = s.2.length + unseen s.1 /\ unseen r.1 <= unseen s.1) _ (fun r e hr => ?_) _ _ ⟨by simp, by simp only [List.length_append, List.length_singleton]; omega, by simp only; omega⟩
    obtain ⟨h1, h2, h3⟩ := visit_inv f n e.block r
    exact ⟨h1.trans hr.1, h2.trans hr.2.1, Nat.le_trans h3 hr.2.2⟩
def pk101 (f : Fn) (s : List Bool × List Int) : (Unit × ((Unit × Unit) × ((Unit × Unit) × (Fn × (((Unit × (Unit × (Unit × (Unit × Unit)))) × Unit) × ((List Bool) × (Unit × ((List Int) × Unit)))))))) :=
 ((), (((), ()), (((), ()), (f, ((((), ((), ((), ((), ())))), ()), (s.1, ((), (s.2, ()))))))))
theorem take_step {α : Type} {l : List α} {k : Nat} (h : k < l.length) (z : α) : l.take (k + 1) = l.take k ++ [l.getD k z] := by
 rw [List.take_succ_eq_append_getElem h, List.getD_eq_getElem?_getD, List.getElem?_eq_getElem h, Option.getD_some]
theorem F101_ok (f : Fn) (hf : f.ok) : ∀ (n : Nat) (b : Int) (s : List Bool × List Int), unseen s.1 < n -> s.1.length = f.blocks.length -> s.2.length + unseen s.1 <= f.blocks.length ->
  F101 n (b, ((), ((), ((), ((), ()))))) (((), ()), (((), ()), (f, ((((), ((), ((), ((), ())))), ()), (s.1, (s.2, ())))))) = some (pk101 f (Sp.visit f n b s))
 | 0, b, s, h, _, _ => by omega
 | n + 1, b, s, h, hl, ho => by
  have hB := hf.2.2.2.2.2.1
  simp only [reachBytes] at hB
  show go101 (F101 n) b ((), ()) ((), ()) f (((), ((), ((), ((), ())))), ()) s.1 s.2 = _
  unfold go101 Sp.visit
  by_cases h1 : b < 0
  ·rw [if_pos (.inl h1)]
   simp only [decide_eq_true h1, cond_true]; rfl
  ·by_cases h2 : (s.1.length : Int) <= b
   ·rw [if_pos (.inr h2)]
    simp only [decide_eq_false h1, cond_false, decide_eq_true h2, cond_true]; rfl
   ·rw [if_neg (by omega)]
    have hlt : b.toNat < s.1.length := by omega
    have g1 : (0 : Int) <= b /\ b < ((s.1.length : Nat) : Int) := by omega
    simp only [decide_eq_false h1, cond_false, decide_eq_false h2, grd_ok g1, grd_blt hlt]
    cases h3 : s.1.getD b.toNat false with
    | true => simp only [cond_true, if_true]; rfl
    | false =>
     simp only [cond_false, Bool.false_eq_true, if_false]
     have hu := unseen_set hlt h3
     have g2 : (s.2.length + 1) * (8 : Nat) <= (140737488355328 : Nat) /\ s.2.length + 1 <= (281474976710656 : Nat) := by omega
     have g3 : (0 : Int) <= b /\ b < ((f.blocks.length : Nat) : Int) := by omega
     rw [grd_ok g2, grd_ok g3]
     have hbk : Block.ok (f.blocks.getD b.toNat Block.z) := getD_ok hf.2.2.2.2.2 Block.z (by omega)
     have htl := hbk.2.2.1.2.2.1.len
     rw [lenVal] at htl
     generalize hto : (f.blocks.getD b.toNat Block.z).term.to = to at htl ⊢
     refine callB_of (whileO_to (st := fun k => (((), (to, (((to.length : Nat) : Int), ((k : Int), ())))), (((), ()), (((), ()), (f, ((((), ((), ((), ((), ())))), ()), (((to.take k).foldl (fun s e => Sp.visit f n e.block s) (s.1.set b.toNat true, s.2 ++ [b])).1, ((), (((to.take k).foldl (fun s e => Sp.visit f n e.block s) (s.1.set b.toNat true, s.2 ++ [b])).2, ()))))))))) rfl to.length (X0 := pk101 f (to.foldl (fun s e => Sp.visit f n e.block s) (s.1.set b.toNat true, s.2 ++ [b]))) (fun k hk => ?_) ?_) rfl
     ·have inv := foldl_inv (fun r : List Bool × List Int => r.1.length = s.1.length /\ r.2.length + unseen r.1 = s.2.length + unseen s.1 /\ unseen r.1 <= unseen (s.1.set b.toNat true)) (fun s e => Sp.visit f n e.block s) (fun r e hr => by
       obtain ⟨q1, q2, q3⟩ := visit_inv f n e.block r
       exact ⟨q1.trans hr.1, q2.trans hr.2.1, Nat.le_trans q3 hr.2.2⟩) (to.take k) (s.1.set b.toNat true, s.2 ++ [b]) ⟨by simp, by simp only [List.length_append, List.length_singleton]; omega, Nat.le_refl _⟩
      obtain ⟨i1, i2, i3⟩ := inv
      rw [take_step hk Edge.z, List.foldl_append]
      generalize (to.take k).foldl (fun s e => Sp.visit f n e.block s) (s.1.set b.toNat true, s.2 ++ [b]) = r at i1 i2 i3 ⊢
      have rec_ := F101_ok f hf n (to.getD k Edge.z).block r (by omega) (by omega) (by omega)
      obtain ⟨q1, _, _⟩ := visit_inv f n (to.getD k Edge.z).block r
      unfold go101_l1
      simp only [Int.toNat_natCast]
      have g4 : (0 : Int) <= (k : Int) /\ (k : Int) < ((to.length : Nat) : Int) := by omega
      have g5 : (k : Int) < ((to.length : Nat) : Int) := by omega
      rw [decide_eq_true g5, cond_true, grd_ok g4]
      refine callB_of rec_ ?_
      simp only [pk101, q1, decide_true, Bool.and_true, grd_true]
      rw [grd_ok (by omega)]
      rfl
     ·unfold go101_l1
      simp only [List.take_length]
      rw [decide_eq_false (by omega), cond_false]
      rfl
def c101 : Ctr Try.prog := ⟨101, inferInstance, ar101, os101, .tup [], ro101, fun x y => grd (okB (Fn.ok y.2.2.1 /\ y.2.2.2.2.1.length = y.2.2.1.blocks.length /\ y.2.2.2.2.2.1.length + unseen y.2.2.2.2.1 <= y.2.2.1.blocks.length)) (some (pk101 y.2.2.1 (Sp.visit y.2.2.1 (unseen y.2.2.2.2.1 + 1) x.1 (y.2.2.2.2.1, y.2.2.2.2.2.1)))),
 fun x y r h => by
  obtain ⟨h1, h2⟩ := grd_out h
  obtain ⟨g1, g2, g3⟩ := okB_out h1
  injection h2 with h2
  subst h2
  exact okF101 (unseen y.2.2.2.2.1 + 1) x y _ (F101_ok y.2.2.1 g1 (unseen y.2.2.2.2.1 + 1) x.1 (y.2.2.2.2.1, y.2.2.2.2.2.1) (Nat.lt_succ_self _) g2 g3)⟩
end
end Go.Abs
namespace Go.Abs
open Go Go.Proofs
noncomputable section
def ann66 : Ann := (.seq .o (.seq .o (.seq .o (.seq .o (.seq .o (.seq .o (.seq .o .o)))))))
def go66 (x0 : Fn) : (Option (Unit × ((List Int) × Unit))) :=
 (grd (okB ((((x0.blocks.length : Nat) : Int) = ((x0.blocks.length : Nat) : Int)) /\ (((0 : Int) <= ((x0.blocks.length : Nat) : Int)) /\ (((((x0.blocks.length : Nat) : Int) * (((1 : Nat) : Nat) : Int)) <= (140737488355328 : Int)) /\ (((x0.blocks.length : Nat) : Int) <= (281474976710656 : Int))))))
  (callB (grd (okB ((Fn.ok x0) /\ (((@List.replicate Bool ((x0.blocks.length : Nat) : Int).toNat false).length = x0.blocks.length) /\ ((0 + (unseen (@List.replicate Bool ((x0.blocks.length : Nat) : Int).toNat false))) <= x0.blocks.length))))
    (some (pk101 x0 (Sp.visit x0 ((unseen (@List.replicate Bool ((x0.blocks.length : Nat) : Int).toNat false)) + (1 : Nat)) (0 : Int) ((@List.replicate Bool ((x0.blocks.length : Nat) : Int).toNat false), ([] : List Int))))))
   (fun (r0 : (Unit × ((Unit × Unit) × ((Unit × Unit) × (Fn × (((Unit × (Unit × (Unit × (Unit × Unit)))) × Unit) × ((List Bool) × (Unit × ((List Int) × Unit))))))))) => (grd ((decide ((1 : Nat) = (1 : Nat))) && ((decide ((1 : Nat) = (1 : Nat))) && ((decide (1 = 1)) && ((decide ((1 : Nat) = (1 : Nat))) && ((decide (r0.2.2.2.2.2.1.length = (@List.replicate Bool ((x0.blocks.length : Nat) : Int).toNat false).length)) && true)))))
     (some ((), (r0.2.2.2.2.2.2.2.1, ())))))))
theorem run66 (x0 : Fn) : runF (P := Try.prog) [c101] Try.f66 ann66 [(0, (.st 6))] [] (.full 0) [(.lst 3 (.int .i64))] (x0, ()) () = go66 x0 := by kernel_rfl
def Sp.order (f : Fn) : List Int := (Sp.visit f (f.blocks.length + 1) 0 (List.replicate f.blocks.length false, [])).2
theorem unseen_rep (n : Nat) : unseen (List.replicate n false) = n := by simp [unseen]
theorem ok66 (f : Fn) (h : f.ok) : go66 f = some ((), Sp.order f, ()) := by
 have hB := h.2.2.2.2.2.1
 simp only [reachBytes] at hB
 unfold go66
 simp only [Int.toNat_natCast, unseen_rep, List.length_replicate]
 rw [grd_ok (by refine ⟨?_, ?_, ?_, ?_⟩ <;> first | trivial | omega), grd_ok (by refine ⟨h, ?_, ?_⟩ <;> first | trivial | omega)]
 simp only [callB_some, pk101]
 have e := (visit_inv f (f.blocks.length + 1) 0 (List.replicate f.blocks.length false, [])).1
 simp only [List.length_replicate] at e
 simp only [e, decide_true, Bool.and_true, grd_true]
 rfl
def c66 : Ctr Try.prog := mkCtr 66 Try.f66 Try.func66 [c101] ann66 [(0, (.st 6))] [] (.full 0) [(.lst 3 (.int .i64))] (fun x _ => grd (okB (Fn.ok x.1)) (some ((), Sp.order x.1, ()))) (fun x _ r h => FO (run66 x.1) (ok66 x.1) h)
end
end Go.Abs
namespace Go.Abs
open Go Go.Proofs
noncomputable section
def ann38 : Ann := (.seq .o (.join ⟨[(1, (.i .i64)), (2, (.ptr 0 0))], [(.box 30 (.st 6))]⟩ (.seq .o (.cond (.seq .o .o) .o)) (.seq .o (.join ⟨[(5, (.full 0))], [(.lst 3 (.int .i64))]⟩ (.seq .o (.block (.loop ⟨[(5, (.full 0)), (23, (.fz (.st 1))), (24, (.i .i64)), (25, (.i .i64))], [(.lst 3 (.int .i64))]⟩ [((.exit 0), ⟨[(5, (.full 0))], [(.lst 3 (.int .i64))]⟩)] (.seq .o (.join ⟨[(5, (.full 0)), (23, (.fz (.st 1))), (24, (.i .i64)), (25, (.i .i64))], [(.lst 3 (.int .i64))]⟩ (.cond .o .o) (.join ⟨[(5, (.full 0)), (23, (.fz (.st 1))), (24, (.i .i64)), (25, (.i .i64))], [(.lst 3 (.int .i64))]⟩ (.block (.seq .o .o)) .o)))))) (.seq .o (.seq .o .o))))))
def go38_l1 : ((Unit × ((List Edge) × (Int × (Int × Unit)))) × ((List Int) × Unit)) -> Option (((Unit × ((List Edge) × (Int × (Int × Unit)))) × ((List Int) × Unit)) ⊕ ((Unit × Unit) × ((List Int) × Unit))) := (fun (r0 : ((Unit × ((List Edge) × (Int × (Int × Unit)))) × ((List Int) × Unit))) => (bif (decide (r0.1.2.2.2.1 < r0.1.2.2.1)) then
   (grd (okB (((0 : Int) <= r0.1.2.2.2.1) /\ (r0.1.2.2.2.1 < ((r0.1.2.1.length : Nat) : Int))))
    (grd (okB ((((r0.2.1.length + 1) * (8 : Nat)) <= (140737488355328 : Nat)) /\ ((r0.2.1.length + 1) <= (281474976710656 : Nat))))
     (grd (okB (((-(9223372036854775808 : Int)) <= (r0.1.2.2.2.1 + (1 : Int))) /\ ((r0.1.2.2.2.1 + (1 : Int)) <= (9223372036854775807 : Int))))
      (some (Sum.inl (((), (r0.1.2.1, (r0.1.2.2.1, ((r0.1.2.2.2.1 + (1 : Int)), ())))), ((r0.2.1 ++ ((r0.1.2.1.getD r0.1.2.2.2.1.toNat Edge.z).block :: ([] : List Int))), ())))))))
   else
   (some (Sum.inr (((), ()), (r0.2.1, ()))))))
def go38 (x0 : Fn) (x1 : Int) : (Option ((List Int) × Unit)) :=
 (bif (decide (x1 < (0 : Int))) then
  (some (([] : List Int), ()))
  else
  (bif (decide (((x0.blocks.length : Nat) : Int) <= x1)) then
   (some (([] : List Int), ()))
   else
   (grd (okB (((0 : Int) <= x1) /\ (x1 < ((x0.blocks.length : Nat) : Int))))
    (callB (whileO (go38_l1) (((), ((x0.blocks.getD x1.toNat Block.z).term.to, ((((x0.blocks.getD x1.toNat Block.z).term.to.length : Nat) : Int), ((0 : Int), ())))), (([] : List Int), ())))
     (fun (z0 : ((Unit × Unit) × ((List Int) × Unit))) => (callB (grd (okB (z0.2.1.length <= (2 : Nat)))
        (some ((), ((Sp.srt z0.2.1), ()))))
       (fun (r0 : (Unit × ((List Int) × Unit))) => (grd ((decide (r0.2.1.length = z0.2.1.length)) && true)
         (callB (grd (okB (r0.2.1.length <= (2 : Nat)))
           (some ((), ((), ((Sp.uniq r0.2.1), ())))))
          (fun (r1 : (Unit × (Unit × ((List Int) × Unit)))) => (some (r1.2.2.1, ()))))))))))))
theorem run38 (x0 : Fn) (x1 : Int) : runF (P := Try.prog) [c88, c89] Try.f38 ann38 [(0, (.st 6)), (1, (.i .i64))] [] (.fz (.int .i64)) [] (x0, (x1, ())) () = go38 x0 x1 := by kernel_rfl
def Sp.nexts (f : Fn) (b : Int) : List Int := if 0 <= b /\ b < ((f.blocks.length : Nat) : Int) then Sp.uniq (Sp.srt ((f.blocks.getD b.toNat Block.z).term.to.map fun e => e.block)) else []
def Sp.two (f : Fn) : Prop := ∀ b, b ∈ f.blocks -> b.term.to.length <= 2
theorem ok38 (f : Fn) (h2 : Sp.two f) (b : Int) : go38 f b = some (Sp.nexts f b, ()) := by
 unfold go38 Sp.nexts
 by_cases hb : b < 0
 ·rw [decide_eq_true hb, cond_true, if_neg (by omega)]
 ·rw [decide_eq_false hb, cond_false]
  by_cases hn : ((f.blocks.length : Nat) : Int) <= b
  ·rw [decide_eq_true hn, cond_true, if_neg (by omega)]
  ·rw [decide_eq_false hn, cond_false, grd_ok (by omega), if_pos (by omega)]
   have hto : (f.blocks.getD b.toNat Block.z).term.to.length <= 2 := by
    refine h2 _ ?_
    have hlt : b.toNat < f.blocks.length := by omega
    rw [List.getD_eq_getElem?_getD, List.getElem?_eq_getElem hlt]
    exact List.getElem_mem hlt
   generalize (f.blocks.getD b.toNat Block.z).term.to = to at hto ⊢
   refine callB_of (y := (((), ()), (to.map (fun e => e.block), ()))) ?_ ?_
   ·refine whileO_to (st := fun k => (((), (to, (((to.length : Nat) : Int), ((k : Int), ())))), ((to.take k).map (fun e => e.block), ()))) rfl to.length (fun k hk => ?_) ?_
    ·unfold go38_l1
     simp only [Int.toNat_natCast]
     have hl : ((to.take k).map fun e => e.block).length <= 2 := by simp; omega
     rw [decide_eq_true (by omega), cond_true, grd_ok (by omega), grd_ok (by omega), grd_ok (by omega), take_step hk Edge.z, List.map_append]
     rfl
    ·unfold go38_l1
     simp only
     rw [decide_eq_false (by omega), cond_false, List.take_length]
   ·simp only
    rw [grd_ok (by simpa using hto)]
    simp only [callB_some]
    rw [srt_len, decide_eq_true rfl, Bool.true_and, grd_of rfl, grd_ok (by simpa using hto)]
    rfl
def c38 : Ctr Try.prog := mkCtr 38 Try.f38 Try.func38 [c88, c89] ann38 [(0, (.st 6)), (1, (.i .i64))] [] (.fz (.int .i64)) [] (fun x _ => grd (okB (Sp.two x.1)) (some (Sp.nexts x.1 x.2.1, ()))) (fun x _ r h => FO (run38 x.1 x.2.1) (fun k => ok38 x.1 k x.2.1) h)
end
end Go.Abs
namespace Go.Abs
open Go Go.Proofs
noncomputable section
def ann35 : Ann := (.seq .o (.seq (.x ⟨false, false, false, false, [25], [], [], .no⟩) (.join ⟨[(3, (.full 0))], [(.lst 25 (.st 12))]⟩ (.seq .o (.block (.loop ⟨[(1, (.ptr 0 0)), (3, (.full 1)), (13, (.i .i64)), (14, (.i .i64))], [(.box 30 (.st 6)), (.lst 25 (.st 12))]⟩ [((.exit 0), ⟨[(3, (.full 0))], [(.lst 25 (.st 12))]⟩)] (.seq .o (.join ⟨[(1, (.ptr 0 0)), (3, (.full 1)), (13, (.i .i64)), (14, (.i .i64))], [(.box 30 (.st 6)), (.lst 25 (.st 12))]⟩ (.cond .o .o) (.join ⟨[(1, (.ptr 0 0)), (3, (.full 1)), (13, (.i .i64)), (14, (.i .i64))], [(.box 30 (.st 6)), (.lst 25 (.st 12))]⟩ (.block (.seq .o (.seq .o (.block (.loop ⟨[(1, (.ptr 0 0)), (3, (.full 1)), (4, (.i .i64)), (13, (.i .i64)), (14, (.i .i64)), (19, (.fz (.int .i64))), (20, (.i .i64)), (21, (.i .i64))], [(.box 30 (.st 6)), (.lst 25 (.st 12))]⟩ [((.exit 2), ⟨[(1, (.ptr 0 0)), (3, (.full 1)), (13, (.i .i64)), (14, (.i .i64))], [(.box 30 (.st 6)), (.lst 25 (.st 12))]⟩)] (.seq .o (.join ⟨[(1, (.ptr 0 0)), (3, (.full 1)), (4, (.i .i64)), (13, (.i .i64)), (14, (.i .i64)), (19, (.fz (.int .i64))), (20, (.i .i64)), (21, (.i .i64))], [(.box 30 (.st 6)), (.lst 25 (.st 12))]⟩ (.cond .o .o) (.join ⟨[(1, (.ptr 0 0)), (3, (.full 1)), (4, (.i .i64)), (13, (.i .i64)), (14, (.i .i64)), (19, (.fz (.int .i64))), (20, (.i .i64)), (21, (.i .i64))], [(.box 30 (.st 6)), (.lst 25 (.st 12))]⟩ (.block (.seq .o (.seq .o (.cond (.x ⟨false, false, false, false, [25], [], [], .no⟩) .o)))) .o)))))))) .o)))))) (.seq .o .o))))
def go35_j1 : ((Unit × (Unit × (Int × (Int × (Int × ((List Int) × (Int × (Int × Unit)))))))) × (Fn × ((List LsI) × Unit))) -> Option (((Unit × (Unit × (Int × (Int × (Int × ((List Int) × (Int × (Int × Unit)))))))) × (Fn × ((List LsI) × Unit))) ⊕ ((Unit × (Unit × (Int × (Int × Unit)))) × (Fn × ((List LsI) × Unit)))) := (fun (z0 : ((Unit × (Unit × (Int × (Int × (Int × ((List Int) × (Int × (Int × Unit)))))))) × (Fn × ((List LsI) × Unit)))) => (grd (okB (((-(9223372036854775808 : Int)) <= (z0.1.2.2.2.2.2.2.2.1 + (1 : Int))) /\ ((z0.1.2.2.2.2.2.2.2.1 + (1 : Int)) <= (9223372036854775807 : Int))))
   (some (Sum.inl (((), ((), (z0.1.2.2.1, (z0.1.2.2.2.1, (z0.1.2.2.2.2.1, (z0.1.2.2.2.2.2.1, (z0.1.2.2.2.2.2.2.1, ((z0.1.2.2.2.2.2.2.2.1 + (1 : Int)), ())))))))), (z0.2.1, (z0.2.2.1, ())))))))
def go35_l2 : ((Unit × (Unit × (Int × (Int × (Int × ((List Int) × (Int × (Int × Unit)))))))) × (Fn × ((List LsI) × Unit))) -> Option (((Unit × (Unit × (Int × (Int × (Int × ((List Int) × (Int × (Int × Unit)))))))) × (Fn × ((List LsI) × Unit))) ⊕ ((Unit × (Unit × (Int × (Int × Unit)))) × (Fn × ((List LsI) × Unit)))) := (fun (r2 : ((Unit × (Unit × (Int × (Int × (Int × ((List Int) × (Int × (Int × Unit)))))))) × (Fn × ((List LsI) × Unit)))) => (bif (decide (r2.1.2.2.2.2.2.2.2.1 < r2.1.2.2.2.2.2.2.1)) then
   (jpO (go35_j1)
    (fun (j0 : (((Unit × (Unit × (Int × (Int × (Int × ((List Int) × (Int × (Int × Unit)))))))) × (Fn × ((List LsI) × Unit))) -> (Option (((Unit × (Unit × (Int × (Int × (Int × ((List Int) × (Int × (Int × Unit)))))))) × (Fn × ((List LsI) × Unit))) ⊕ ((Unit × (Unit × (Int × (Int × Unit)))) × (Fn × ((List LsI) × Unit))))))) => (grd (okB (((0 : Int) <= r2.1.2.2.2.2.2.2.2.1) /\ (r2.1.2.2.2.2.2.2.2.1 < ((r2.1.2.2.2.2.2.1.length : Nat) : Int))))
      (bif (decide ((0 : Int) <= (r2.1.2.2.2.2.2.1.getD r2.1.2.2.2.2.2.2.2.1.toNat (0 : Int)))) then
       (bif (decide ((r2.1.2.2.2.2.2.1.getD r2.1.2.2.2.2.2.2.2.1.toNat (0 : Int)) < ((r2.2.2.1.length : Nat) : Int))) then
        (grd (okB (((0 : Int) <= (r2.1.2.2.2.2.2.1.getD r2.1.2.2.2.2.2.2.2.1.toNat (0 : Int))) /\ ((r2.1.2.2.2.2.2.1.getD r2.1.2.2.2.2.2.2.2.1.toNat (0 : Int)) < ((r2.2.2.1.length : Nat) : Int))))
         (grd (Nat.blt (r2.1.2.2.2.2.2.1.getD r2.1.2.2.2.2.2.2.2.1.toNat (0 : Int)).toNat r2.2.2.1.length)
          (callB (@Sp.gnL Int (r2.2.2.1.getD (r2.1.2.2.2.2.2.1.getD r2.1.2.2.2.2.2.2.2.1.toNat (0 : Int)).toNat (LsI.mk (@Gn.own Int ([] : List Int)))).v)
           (fun (z0 : (List Int)) => (grd (Nat.blt (r2.1.2.2.2.2.2.1.getD r2.1.2.2.2.2.2.2.2.1.toNat (0 : Int)).toNat r2.2.2.1.length)
             (callB (@Sp.gnL Int (r2.2.2.1.getD (r2.1.2.2.2.2.2.1.getD r2.1.2.2.2.2.2.2.2.1.toNat (0 : Int)).toNat (LsI.mk (@Gn.own Int ([] : List Int)))).v)
              (fun (l0 : (List Int)) => (shO (r2.2.2.1.set (r2.1.2.2.2.2.2.1.getD r2.1.2.2.2.2.2.2.2.1.toNat (0 : Int)).toNat (LsI.mk (@Gn.gone Int)))
                (fun (l'0 : (List LsI)) => (grd (okB ((((l0.length + 1) * (8 : Nat)) <= (140737488355328 : Nat)) /\ ((l0.length + 1) <= (281474976710656 : Nat))))
                  (grd (okB (((0 : Int) <= (r2.1.2.2.2.2.2.1.getD r2.1.2.2.2.2.2.2.2.1.toNat (0 : Int))) /\ ((r2.1.2.2.2.2.2.1.getD r2.1.2.2.2.2.2.2.2.1.toNat (0 : Int)) < ((l'0.length : Nat) : Int))))
                   (grd (Nat.blt (r2.1.2.2.2.2.2.1.getD r2.1.2.2.2.2.2.2.2.1.toNat (0 : Int)).toNat l'0.length)
                    (shO (l'0.set (r2.1.2.2.2.2.2.1.getD r2.1.2.2.2.2.2.2.2.1.toNat (0 : Int)).toNat (LsI.mk (@Gn.own Int (l0 ++ (r2.1.2.2.1 :: ([] : List Int))))))
                     (fun (l1 : (List LsI)) => (j0 (((), ((), (r2.1.2.2.1, (r2.1.2.2.2.1, (r2.1.2.2.2.2.1, (r2.1.2.2.2.2.2.1, (r2.1.2.2.2.2.2.2.1, (r2.1.2.2.2.2.2.2.2.1, ())))))))), (r2.2.1, (l1, ()))))))))))))))))))
        else
        (j0 (((), ((), (r2.1.2.2.1, (r2.1.2.2.2.1, (r2.1.2.2.2.2.1, (r2.1.2.2.2.2.2.1, (r2.1.2.2.2.2.2.2.1, (r2.1.2.2.2.2.2.2.2.1, ())))))))), (r2.2.1, (r2.2.2.1, ())))))
       else
       (j0 (((), ((), (r2.1.2.2.1, (r2.1.2.2.2.1, (r2.1.2.2.2.2.1, (r2.1.2.2.2.2.2.1, (r2.1.2.2.2.2.2.2.1, (r2.1.2.2.2.2.2.2.2.1, ())))))))), (r2.2.1, (r2.2.2.1, ()))))))))
   else
   (some (Sum.inr (((), ((), (r2.1.2.2.2.1, (r2.1.2.2.2.2.1, ())))), (r2.2.1, (r2.2.2.1, ())))))))
def go35_l1 : ((Unit × (Unit × (Int × (Int × Unit)))) × (Fn × ((List LsI) × Unit))) -> Option (((Unit × (Unit × (Int × (Int × Unit)))) × (Fn × ((List LsI) × Unit))) ⊕ ((Unit × Unit) × ((List LsI) × Unit))) := (fun (r0 : ((Unit × (Unit × (Int × (Int × Unit)))) × (Fn × ((List LsI) × Unit)))) => (bif (decide (r0.1.2.2.2.1 < r0.1.2.2.1)) then
   (callB (grd (okB (Sp.two r0.2.1))
     (some ((Sp.nexts r0.2.1 r0.1.2.2.2.1), ())))
    (fun (r1 : ((List Int) × Unit)) => (callB (whileO (go35_l2) (((), ((), (r0.1.2.2.2.1, (r0.1.2.2.1, (r0.1.2.2.2.1, (r1.1, (((r1.1.length : Nat) : Int), ((0 : Int), ())))))))), (r0.2.1, (r0.2.2.1, ()))))
      (fun (z0 : ((Unit × (Unit × (Int × (Int × Unit)))) × (Fn × ((List LsI) × Unit)))) => (grd (okB (((-(9223372036854775808 : Int)) <= (z0.1.2.2.2.1 + (1 : Int))) /\ ((z0.1.2.2.2.1 + (1 : Int)) <= (9223372036854775807 : Int))))
        (some (Sum.inl (((), ((), (z0.1.2.2.1, ((z0.1.2.2.2.1 + (1 : Int)), ())))), (z0.2.1, (z0.2.2.1, ()))))))))))
   else
   (some (Sum.inr (((), ()), (r0.2.2.1, ()))))))
def go35 (x0 : Fn) : (Option (Unit × ((List LsI) × Unit))) :=
 (grd (okB ((((x0.blocks.length : Nat) : Int) = ((x0.blocks.length : Nat) : Int)) /\ (((0 : Int) <= ((x0.blocks.length : Nat) : Int)) /\ (((((x0.blocks.length : Nat) : Int) * (((24 : Nat) : Nat) : Int)) <= (140737488355328 : Int)) /\ (((x0.blocks.length : Nat) : Int) <= (281474976710656 : Int))))))
  (callB (whileO (go35_l1) (((), ((), (((x0.blocks.length : Nat) : Int), ((0 : Int), ())))), (x0, ((@List.replicate LsI ((x0.blocks.length : Nat) : Int).toNat (LsI.mk (@Gn.own Int ([] : List Int)))), ()))))
   (fun (z0 : ((Unit × Unit) × ((List LsI) × Unit))) => (some ((), (z0.2.1, ()))))))
theorem run35 (x0 : Fn) : runF (P := Try.prog) [c38] Try.f35 ann35 [(0, (.st 6))] [] (.full 0) [(.lst 25 (.st 12))] (x0, ()) () = go35 x0 := by kernel_rfl
def Sp.ownI (l : List Int) : LsI := ⟨.own l⟩
def Sp.put1 (b : Int) (o : List (List Int)) (s : Int) : List (List Int) := if 0 <= s /\ s < ((o.length : Nat) : Int) then o.set s.toNat (o.getD s.toNat [] ++ [b]) else o
def Sp.predsTo (f : Fn) : Nat -> List (List Int)
 | 0 => List.replicate f.blocks.length []
 | k + 1 => (Sp.nexts f k).foldl (Sp.put1 k) (Sp.predsTo f k)
def Sp.preds (f : Fn) : List (List Int) := Sp.predsTo f f.blocks.length
theorem put1_len (b : Int) (o : List (List Int)) (s : Int) : (Sp.put1 b o s).length = o.length := by unfold Sp.put1; split <;> simp
theorem putL_len (b : Int) : ∀ (l : List Int) (o : List (List Int)), (l.foldl (Sp.put1 b) o).length = o.length
 | [], o => rfl
 | s :: l, o => by rw [List.foldl_cons, putL_len b l, put1_len]
theorem predsTo_len (f : Fn) : ∀ k, (Sp.predsTo f k).length = f.blocks.length
 | 0 => by simp [Sp.predsTo]
 | k + 1 => by rw [Sp.predsTo, putL_len, predsTo_len f k]
def lenLe (o : List (List Int)) (m : Nat) : Prop := ∀ l, l ∈ o -> l.length <= m
theorem lenLe.getD {o : List (List Int)} {m : Nat} (h : lenLe o m) (s : Nat) : (o.getD s []).length <= m := by
 rw [List.getD_eq_getElem?_getD]
 by_cases hs : s < o.length
 ·rw [List.getElem?_eq_getElem hs]; exact h _ (List.getElem_mem hs)
 ·rw [List.getElem?_eq_none (by omega)]; exact Nat.zero_le _
theorem lenLe.put {o : List (List Int)} {m : Nat} (h : lenLe o m) (b s : Int) : lenLe (Sp.put1 b o s) (m + 1) := by
 unfold Sp.put1
 split
 ·intro l hl
  rcases List.mem_or_eq_of_mem_set hl with h1 | h1
  ·have := h l h1; omega
  ·rw [h1, List.length_append]; have := h.getD s.toNat; simp only [List.length_cons, List.length_nil]; omega
 ·intro l hl; have := h l hl; omega
theorem lenLe.puts {b : Int} : ∀ {l : List Int} {o : List (List Int)} {m : Nat}, lenLe o m -> lenLe (l.foldl (Sp.put1 b) o) (m + l.length)
 | [], o, m, h => h
 | s :: l, o, m, h => by
  rw [List.foldl_cons]
  have := (h.put b s).puts (b := b) (l := l)
  rw [List.length_cons]
  rwa [show m + (l.length + 1) = m + 1 + l.length by omega]
theorem nexts_len (f : Fn) (h2 : Sp.two f) (b : Int) : (Sp.nexts f b).length <= 2 := by
 unfold Sp.nexts
 split
 ·rename_i hb
  have hto : (f.blocks.getD b.toNat Block.z).term.to.length <= 2 := by
   refine h2 _ ?_
   have hlt : b.toNat < f.blocks.length := by omega
   rw [List.getD_eq_getElem?_getD, List.getElem?_eq_getElem hlt]
   exact List.getElem_mem hlt
  have h3 : (Sp.srt ((f.blocks.getD b.toNat Block.z).term.to.map fun e => e.block)).length <= 2 := by rw [srt_len]; simpa using hto
  generalize Sp.srt ((f.blocks.getD b.toNat Block.z).term.to.map fun e => e.block) = l at h3
  unfold Sp.uniq
  split
  ·split <;> simp
  ·exact h3
 ·exact Nat.zero_le _
theorem predsTo_le (f : Fn) (h2 : Sp.two f) : ∀ k, lenLe (Sp.predsTo f k) (2 * k)
 | 0 => fun l hl => by rw [Sp.predsTo, List.mem_replicate] at hl; rw [hl.2]; exact Nat.zero_le _
 | k + 1 => fun l hl => by
  have := (predsTo_le f h2 k).puts (b := k) (l := Sp.nexts f k) l hl
  have := nexts_len f h2 k
  omega
theorem ownI_getD (o : List (List Int)) (s : Nat) : (o.map Sp.ownI).getD s ⟨.own []⟩ = Sp.ownI (o.getD s []) := by
 simp only [List.getD_eq_getElem?_getD, List.getElem?_map]
 cases o[s]? <;> rfl
theorem inner35 (f : Fn) (h2 : Sp.two f) (hB : f.blocks.length * 24 <= 140737488355328) (b : Nat) (n : Int) (hb : b < f.blocks.length) (o : List (List Int)) (ho : o.length = f.blocks.length) (hl : lenLe o (2 * b)) :
  whileO go35_l2 (((), ((), ((b : Int), (n, ((b : Int), (Sp.nexts f b, ((((Sp.nexts f b).length : Nat) : Int), ((0 : Int), ())))))))), (f, (o.map Sp.ownI, ()))) = some (((), ((), (n, ((b : Int), ())))), (f, (((Sp.nexts f b).foldl (Sp.put1 b) o).map Sp.ownI, ()))) := by
 have hn2 := nexts_len f h2 b
 generalize hN : Sp.nexts f b = N at hn2 ⊢
 refine whileO_to (st := fun j => (((), ((), ((b : Int), (n, ((b : Int), (N, (((N.length : Nat) : Int), ((j : Int), ())))))))), (f, (((N.take j).foldl (Sp.put1 b) o).map Sp.ownI, ())))) rfl N.length (fun j hj => ?_) ?_
 ·unfold go35_l2
  simp only [Int.toNat_natCast]
  have hlj : lenLe ((N.take j).foldl (Sp.put1 b) o) (2 * b + 2) := fun l hm => by
   have := hl.puts (b := b) (l := N.take j) l hm
   rw [List.length_take] at this
   omega
  have hoj : ((N.take j).foldl (Sp.put1 b) o).length = f.blocks.length := by rw [putL_len, ho]
  rw [decide_eq_true (by omega), cond_true, jpO_eq, grd_ok (by omega), take_step hj (0 : Int), List.foldl_append, List.foldl_cons, List.foldl_nil]
  generalize (N.take j).foldl (Sp.put1 b) o = oj at hlj hoj ⊢
  obtain ⟨s, hs⟩ : ∃ s, N.getD j 0 = s := ⟨_, rfl⟩
  simp only [hs]
  have hj1 : ∀ X, go35_j1 (((), ((), ((b : Int), (n, ((b : Int), (N, (((N.length : Nat) : Int), ((j : Int), ())))))))), (f, (X, ()))) = some (.inl (((), ((), ((b : Int), (n, ((b : Int), (N, (((N.length : Nat) : Int), (((j + 1 : Nat) : Int), ())))))))), (f, (X, ())))) := fun X => by
   unfold go35_j1
   simp only
   rw [grd_ok (by omega)]
   rfl
  by_cases h0 : 0 <= s
  ·rw [decide_eq_true h0, cond_true]
   by_cases h1 : s < ((oj.length : Nat) : Int)
   ·have h1' : s < (((oj.map Sp.ownI).length : Nat) : Int) := by simpa using h1
    have hlt : s.toNat < oj.length := by omega
    rw [decide_eq_true h1', cond_true, grd_ok ⟨h0, h1'⟩, grd_of (blt_t (by simpa using hlt)), ownI_getD]
    have hg : @Sp.gnL Int (Sp.ownI (oj.getD s.toNat [])).v = some (oj.getD s.toNat []) := rfl
    rw [hg]
    simp only [callB_some, shO_eq]
    have hle := hlj.getD s.toNat
    rw [grd_of (blt_t (by simpa using hlt)), grd_ok (by omega), grd_ok (by simp only [List.length_set, List.length_map]; omega), grd_of (blt_t (by simp only [List.length_set, List.length_map]; exact hlt)), hj1]
    have : ((oj.map Sp.ownI).set s.toNat ⟨.gone⟩).set s.toNat ⟨.own (oj.getD s.toNat [] ++ [(b : Int)])⟩ = (Sp.put1 b oj s).map Sp.ownI := by
     unfold Sp.put1
     rw [if_pos ⟨h0, h1⟩, List.set_set, List.map_set]
     rfl
    rw [this]
   ·rw [decide_eq_false (by simpa using h1), cond_false, hj1]
    have : Sp.put1 b oj s = oj := by unfold Sp.put1; rw [if_neg (fun h => h1 h.2)]
    rw [this]
  ·rw [decide_eq_false h0, cond_false, hj1]
   have : Sp.put1 b oj s = oj := by unfold Sp.put1; rw [if_neg (fun h => h0 h.1)]
   rw [this]
 ·unfold go35_l2
  simp only
  rw [decide_eq_false (by omega), cond_false, List.take_length]
theorem ok35 (f : Fn) (hf : f.ok /\ Sp.two f) : go35 f = some ((), ((Sp.preds f).map Sp.ownI, ())) := by
 obtain ⟨hf, h2⟩ := hf
 have hB := hf.2.2.2.2.2.1
 simp only [reachBytes] at hB
 have hn : f.blocks.length * 24 <= 140737488355328 := by omega
 unfold go35
 rw [grd_ok ⟨rfl, by omega, by omega, by omega⟩]
 refine callB_of (y := (((), ()), ((Sp.preds f).map Sp.ownI, ()))) ?_ rfl
 refine whileO_to (st := fun k => (((), ((), (((f.blocks.length : Nat) : Int), ((k : Int), ())))), (f, ((Sp.predsTo f k).map Sp.ownI, ())))) ?_ f.blocks.length (fun k hk => ?_) ?_
 ·simp only [Sp.predsTo, Int.toNat_natCast, List.map_replicate]
  rfl
 ·unfold go35_l1
  simp only
  rw [decide_eq_true (by omega), cond_true, grd_ok h2]
  simp only [callB_some]
  refine callB_of (inner35 f h2 hn k _ hk (Sp.predsTo f k) (predsTo_len f k) (predsTo_le f h2 k)) ?_
  rw [grd_ok (by simp only; omega)]
  rfl
 ·unfold go35_l1
  simp only
  rw [decide_eq_false (by omega), cond_false]
  rfl
def c35 : Ctr Try.prog := mkCtr 35 Try.f35 Try.func35 [c38] ann35 [(0, (.st 6))] [] (.full 0) [(.lst 25 (.st 12))] (fun x _ => grd (okB (Fn.ok x.1 /\ Sp.two x.1)) (some ((), ((Sp.preds x.1).map Sp.ownI, ())))) (fun x _ r h => FO (run35 x.1) (ok35 x.1) h)
end
end Go.Abs
namespace Go.Abs
open Go Go.Proofs
noncomputable section
def ann40 : Ann := (.seq .o (.seq .o (.join ⟨[(5, (.full 0))], [(.lst 3 (.int .i64))]⟩ (.seq .o (.block (.loop ⟨[(1, (.i .i64)), (2, (.ptr 0 0)), (5, (.full 1)), (6, (.i .i64))], [(.box 30 (.st 6)), (.lst 3 (.int .i64))]⟩ [((.exit 0), ⟨[(5, (.full 0))], [(.lst 3 (.int .i64))]⟩)] (.join ⟨[(1, (.i .i64)), (2, (.ptr 0 0)), (5, (.full 1)), (6, (.i .i64))], [(.box 30 (.st 6)), (.lst 3 (.int .i64))]⟩ (.seq .o (.cond .o .o)) (.join ⟨[(1, (.i .i64)), (2, (.ptr 0 0)), (5, (.full 1)), (6, (.i .i64))], [(.box 30 (.st 6)), (.lst 3 (.int .i64))]⟩ (.block (.seq .o (.block (.loop ⟨[(1, (.i .i64)), (2, (.ptr 0 0)), (5, (.full 1)), (6, (.i .i64)), (7, (.i .i64))], [(.box 30 (.st 6)), (.lst 3 (.int .i64))]⟩ [((.exit 2), ⟨[(1, (.i .i64)), (2, (.ptr 0 0)), (5, (.full 1)), (6, (.i .i64))], [(.box 30 (.st 6)), (.lst 3 (.int .i64))]⟩)] (.join ⟨[(1, (.i .i64)), (2, (.ptr 0 0)), (5, (.full 1)), (6, (.i .i64)), (7, (.i .i64))], [(.box 30 (.st 6)), (.lst 3 (.int .i64))]⟩ (.seq .o (.cond .o .o)) (.join ⟨[(1, (.i .i64)), (2, (.ptr 0 0)), (5, (.full 1)), (6, (.i .i64)), (7, (.i .i64))], [(.box 30 (.st 6)), (.lst 3 (.int .i64))]⟩ (.block (.seq .o (.cond .o .o))) .o)))))) .o))))) (.seq .o .o))))
def go40_j1 : ((Int × (Unit × (Unit × (Int × (Int × Unit))))) × (Fn × ((List Int) × Unit))) -> Option (((Int × (Unit × (Unit × (Int × (Int × Unit))))) × (Fn × ((List Int) × Unit))) ⊕ ((Int × (Unit × (Unit × (Int × Unit)))) × (Fn × ((List Int) × Unit)))) := (fun (z0 : ((Int × (Unit × (Unit × (Int × (Int × Unit))))) × (Fn × ((List Int) × Unit)))) => (grd (okB (((-(9223372036854775808 : Int)) <= (z0.1.2.2.2.2.1 + (1 : Int))) /\ ((z0.1.2.2.2.2.1 + (1 : Int)) <= (9223372036854775807 : Int))))
   (some (Sum.inl ((z0.1.1, ((), ((), (z0.1.2.2.2.1, ((z0.1.2.2.2.2.1 + (1 : Int)), ()))))), (z0.2.1, (z0.2.2.1, ())))))))
def go40_l2 : ((Int × (Unit × (Unit × (Int × (Int × Unit))))) × (Fn × ((List Int) × Unit))) -> Option (((Int × (Unit × (Unit × (Int × (Int × Unit))))) × (Fn × ((List Int) × Unit))) ⊕ ((Int × (Unit × (Unit × (Int × Unit)))) × (Fn × ((List Int) × Unit)))) := (fun (r1 : ((Int × (Unit × (Unit × (Int × (Int × Unit))))) × (Fn × ((List Int) × Unit)))) => (grd (okB (((0 : Int) <= r1.1.1) /\ (r1.1.1 < ((r1.2.1.blocks.length : Nat) : Int))))
   (bif (decide (r1.1.2.2.2.2.1 < (((r1.2.1.blocks.getD r1.1.1.toNat Block.z).term.to.length : Nat) : Int))) then
    (jpO (go40_j1)
     (fun (j0 : (((Int × (Unit × (Unit × (Int × (Int × Unit))))) × (Fn × ((List Int) × Unit))) -> (Option (((Int × (Unit × (Unit × (Int × (Int × Unit))))) × (Fn × ((List Int) × Unit))) ⊕ ((Int × (Unit × (Unit × (Int × Unit)))) × (Fn × ((List Int) × Unit))))))) => (grd (okB (((0 : Int) <= r1.1.1) /\ (r1.1.1 < ((r1.2.1.blocks.length : Nat) : Int))))
       (grd (okB (((0 : Int) <= r1.1.2.2.2.2.1) /\ (r1.1.2.2.2.2.1 < (((r1.2.1.blocks.getD r1.1.1.toNat Block.z).term.to.length : Nat) : Int))))
        (bif (decide (((r1.2.1.blocks.getD r1.1.1.toNat Block.z).term.to.getD r1.1.2.2.2.2.1.toNat Edge.z).block = r1.1.2.2.2.1)) then
         (callB (grd (okB (r1.2.2.1.length <= LEN))
           (some ((!(@List.all Int r1.2.2.1 (fun (r2 : Int) => (!(decide (r2 = r1.1.2.2.2.1)))))), ())))
          (fun (r2 : (Bool × Unit)) => (bif (!r2.1) then
            (grd (okB ((((r1.2.2.1.length + 1) * (8 : Nat)) <= (140737488355328 : Nat)) /\ ((r1.2.2.1.length + 1) <= (281474976710656 : Nat))))
             (j0 ((r1.1.1, ((), ((), (r1.1.2.2.2.1, (r1.1.2.2.2.2.1, ()))))), (r1.2.1, ((r1.2.2.1 ++ (r1.1.2.2.2.1 :: ([] : List Int))), ())))))
            else
            (j0 ((r1.1.1, ((), ((), (r1.1.2.2.2.1, (r1.1.2.2.2.2.1, ()))))), (r1.2.1, (r1.2.2.1, ())))))))
         else
         (j0 ((r1.1.1, ((), ((), (r1.1.2.2.2.1, (r1.1.2.2.2.2.1, ()))))), (r1.2.1, (r1.2.2.1, ())))))))))
    else
    (some (Sum.inr ((r1.1.1, ((), ((), (r1.1.2.2.2.1, ())))), (r1.2.1, (r1.2.2.1, ()))))))))
def go40_l1 : ((Int × (Unit × (Unit × (Int × Unit)))) × (Fn × ((List Int) × Unit))) -> Option (((Int × (Unit × (Unit × (Int × Unit)))) × (Fn × ((List Int) × Unit))) ⊕ ((Unit × Unit) × ((List Int) × Unit))) := (fun (r0 : ((Int × (Unit × (Unit × (Int × Unit)))) × (Fn × ((List Int) × Unit)))) => (bif (decide ((0 : Int) <= r0.1.1)) then
   (bif (decide (r0.1.1 < ((r0.2.1.blocks.length : Nat) : Int))) then
    (bif (decide (r0.1.2.2.2.1 < ((r0.2.1.blocks.length : Nat) : Int))) then
     (callB (whileO (go40_l2) ((r0.1.1, ((), ((), (r0.1.2.2.2.1, ((0 : Int), ()))))), (r0.2.1, (r0.2.2.1, ()))))
      (fun (z0 : ((Int × (Unit × (Unit × (Int × Unit)))) × (Fn × ((List Int) × Unit)))) => (grd (okB (((-(9223372036854775808 : Int)) <= (z0.1.2.2.2.1 + (1 : Int))) /\ ((z0.1.2.2.2.1 + (1 : Int)) <= (9223372036854775807 : Int))))
        (some (Sum.inl ((z0.1.1, ((), ((), ((z0.1.2.2.2.1 + (1 : Int)), ())))), (z0.2.1, (z0.2.2.1, ()))))))))
     else
     (some (Sum.inr (((), ()), (r0.2.2.1, ())))))
    else
    (some (Sum.inr (((), ()), (r0.2.2.1, ())))))
   else
   (some (Sum.inr (((), ()), (r0.2.2.1, ()))))))
def go40 (x0 : Fn) (x1 : Int) : (Option (Unit × ((List Int) × Unit))) :=
 (callB (whileO (go40_l1) ((x1, ((), ((), ((0 : Int), ())))), (x0, (([] : List Int), ()))))
  (fun (z0 : ((Unit × Unit) × ((List Int) × Unit))) => (some ((), (z0.2.1, ())))))
theorem run40 (x0 : Fn) (x1 : Int) : runF (P := Try.prog) [c41] Try.f40 ann40 [(0, (.st 6)), (1, (.i .i64))] [] (.full 0) [(.lst 3 (.int .i64))] (x0, (x1, ())) () = go40 x0 x1 := by kernel_rfl
def Sp.leads (f : Fn) (b s : Nat) : Bool := (f.blocks.getD b Block.z).term.to.any fun e => decide (e.block = (s : Int))
def succsTo (f : Fn) (b k : Nat) : List Int := ((List.range k).filter (Sp.leads f b)).map fun (s : Nat) => (s : Int)
def Sp.succs (f : Fn) (b : Int) : List Int := if 0 <= b /\ b < f.blocks.length then succsTo f b.toNat f.blocks.length else []
theorem succsTo_lt {f : Fn} {b k : Nat} {x : Int} (h : x ∈ succsTo f b k) : x < k := by
 simp only [succsTo, List.mem_map, List.mem_filter, List.mem_range] at h
 obtain ⟨s, ⟨h1, _⟩, rfl⟩ := h
 omega
theorem succsTo_len (f : Fn) (b k : Nat) : (succsTo f b k).length <= k := by
 simp only [succsTo, List.length_map]
 exact Nat.le_trans (List.length_filter_le _ _) (by simp)
theorem not_in {l : List Int} {s : Int} (h : s ∉ l) : (l.all fun y => !decide (y = s)) = true := by
 rw [List.all_eq_true]
 intro y hy
 have : y ≠ s := fun e => h (e ▸ hy)
 simp [this]
theorem loop402 (f : Fn) (hf : f.ok) (b s : Nat) (hb : b < f.blocks.length) (out : List Int) (ho : (s : Int) ∉ out) (hl : out.length < f.blocks.length) :
  whileO go40_l2 (((b : Int), ((), ((), ((s : Int), (0, ()))))), (f, (out, ()))) = some (((b : Int), ((), ((), ((s : Int), ())))), (f, ((if Sp.leads f b s then out ++ [(s : Int)] else out), ()))) := by
 have hB := hf.2.2.2.2.2.1
 simp only [reachBytes] at hB
 have hbk : Block.ok (f.blocks.getD b Block.z) := getD_ok hf.2.2.2.2.2 Block.z hb
 have htl := hbk.2.2.1.2.2.1.len
 rw [lenVal] at htl
 unfold Sp.leads
 generalize hto : (f.blocks.getD b Block.z).term.to = to at htl ⊢
 unfold go40_l2
 refine whileO_to (st := fun k => (((b : Int), ((), ((), ((s : Int), ((k : Int), ()))))), (f, ((if (to.take k).any (fun e => decide (e.block = (s : Int))) then out ++ [(s : Int)] else out), ())))) (by simp) to.length (fun k hk => ?_) ?_
 ·have g1 : (0 : Int) <= (b : Int) /\ (b : Int) < ((f.blocks.length : Nat) : Int) := by omega
  have g2 : (k : Int) < ((to.length : Nat) : Int) := by omega
  have g3 : (0 : Int) <= (k : Int) /\ (k : Int) < ((to.length : Nat) : Int) := by omega
  have g4 : (-(9223372036854775808 : Int)) <= ((k : Int) + 1) /\ ((k : Int) + 1) <= (9223372036854775807 : Int) := by omega
  simp only [Int.toNat_natCast, hto]
  rw [grd_ok g1, decide_eq_true g2, cond_true, jpO_eq, grd_ok g1, grd_ok g3, take_step hk Edge.z, List.any_append]
  simp only [List.any_cons, List.any_nil, Bool.or_false]
  have hlo : ∀ c : Bool, (if c then out ++ [(s : Int)] else out).length <= LEN := fun c => by
   rw [lenVal]
   cases c <;> simp <;> omega
  by_cases he : (to.getD k Edge.z).block = (s : Int)
  ·rw [decide_eq_true he, cond_true, grd_ok (hlo _)]
   simp only [callB_some]
   cases hc : (to.take k).any (fun e => decide (e.block = (s : Int))) with
   | true =>
    have : ((out ++ [(s : Int)]).all fun y => !decide (y = (s : Int))) = false := by simp
    simp only [if_true, this, Bool.not_false, Bool.not_true, cond_false, Bool.or_true]
    unfold go40_j1
    rw [grd_ok g4]; rfl
   | false =>
    simp only [Bool.false_eq_true, if_false, not_in ho, Bool.not_true, Bool.not_false, cond_true, Bool.false_or, if_true]
    unfold go40_j1
    rw [grd_ok (by omega), grd_ok g4]; rfl
  ·rw [decide_eq_false he, cond_false]
   simp only [Bool.or_false]
   unfold go40_j1
   rw [grd_ok g4]; rfl
 ·have g1 : (0 : Int) <= (b : Int) /\ (b : Int) < ((f.blocks.length : Nat) : Int) := by omega
  simp only [Int.toNat_natCast, hto, List.take_length]
  rw [grd_ok g1, decide_eq_false (by omega), cond_false]
theorem ok40 (f : Fn) (hf : f.ok) (b : Int) : go40 f b = some ((), Sp.succs f b, ()) := by
 have hB := hf.2.2.2.2.2.1
 simp only [reachBytes] at hB
 unfold go40 Sp.succs
 by_cases h1 : 0 <= b
 ·by_cases h2 : b < ((f.blocks.length : Nat) : Int)
  ·rw [if_pos ⟨h1, h2⟩]
   obtain ⟨n, rfl⟩ : ∃ n : Nat, b = n := ⟨b.toNat, by omega⟩
   refine callB_of (whileO_to (st := fun k => (((n : Int), ((), ((), ((k : Int), ())))), (f, (succsTo f n k, ())))) rfl f.blocks.length (X0 := (((), ()), (succsTo f n f.blocks.length, ()))) (fun k hk => ?_) ?_) (by simp only [Int.toNat_natCast])
   ·unfold go40_l1
    simp only
    rw [decide_eq_true h1, cond_true, decide_eq_true h2, cond_true, decide_eq_true (by omega), cond_true]
    have hl := succsTo_len f n k
    refine callB_of (loop402 f hf n k (by omega) (succsTo f n k) (fun hm => by have := succsTo_lt hm; omega) (by omega)) ?_
    rw [grd_ok (by simp only; omega)]
    have e : succsTo f n (k + 1) = if Sp.leads f n k then succsTo f n k ++ [(k : Int)] else succsTo f n k := by
     simp only [succsTo, List.range_succ, List.filter_append, List.map_append]
     cases h : Sp.leads f n k <;> simp [h]
    rw [e]; rfl
   ·unfold go40_l1
    simp only
    rw [decide_eq_true h1, cond_true, decide_eq_true h2, cond_true, decide_eq_false (by omega), cond_false]
  ·rw [if_neg (fun h => h2 h.2)]
   refine callB_of (y := (((), ()), (([] : List Int), ()))) ?_ rfl
   rw [whileO_eq]
   unfold go40_l1
   simp only
   rw [decide_eq_true h1, cond_true, decide_eq_false h2, cond_false]
 ·rw [if_neg (fun h => h1 h.1)]
  refine callB_of (y := (((), ()), (([] : List Int), ()))) ?_ rfl
  rw [whileO_eq]
  unfold go40_l1
  simp only
  rw [decide_eq_false h1, cond_false]
def c40 : Ctr Try.prog := mkCtr 40 Try.f40 Try.func40 [c41] ann40 [(0, (.st 6)), (1, (.i .i64))] [] (.full 0) [(.lst 3 (.int .i64))] (fun x _ => grd (okB (Fn.ok x.1)) (some ((), Sp.succs x.1 x.2.1, ()))) (fun x _ r h => FO (run40 x.1 x.2.1) (fun k => ok40 x.1 k x.2.1) h)
end
end Go.Abs
namespace Go.Abs
open Go Go.Proofs
noncomputable section
def ann36 : Ann := (.seq .o (.seq .o (.join ⟨[(3, (.full 0))], [(.lst 4 .bool)]⟩ (.seq .o (.block (.loop ⟨[(3, (.full 0)), (11, (.full 1)), (12, (.i .i64)), (13, (.i .i64))], [(.lst 4 .bool), (.lst 3 (.int .i64))]⟩ [((.exit 0), ⟨[(3, (.full 0))], [(.lst 4 .bool)]⟩)] (.seq .o (.join ⟨[(3, (.full 0)), (11, (.full 1)), (12, (.i .i64)), (13, (.i .i64))], [(.lst 4 .bool), (.lst 3 (.int .i64))]⟩ (.cond .o .o) (.join ⟨[(3, (.full 0)), (11, (.full 1)), (12, (.i .i64)), (13, (.i .i64))], [(.lst 4 .bool), (.lst 3 (.int .i64))]⟩ (.block (.seq .o .o)) .o)))))) (.seq .o .o))))
def go36_l1 : ((Unit × (Unit × (Int × (Int × Unit)))) × ((List Bool) × ((List Int) × Unit))) -> Option (((Unit × (Unit × (Int × (Int × Unit)))) × ((List Bool) × ((List Int) × Unit))) ⊕ ((Unit × Unit) × ((List Bool) × Unit))) := (fun (r1 : ((Unit × (Unit × (Int × (Int × Unit)))) × ((List Bool) × ((List Int) × Unit)))) => (bif (decide (r1.1.2.2.2.1 < r1.1.2.2.1)) then
   (grd (okB (((0 : Int) <= r1.1.2.2.2.1) /\ (r1.1.2.2.2.1 < ((r1.2.2.1.length : Nat) : Int))))
    (grd (Nat.blt r1.1.2.2.2.1.toNat r1.2.2.1.length)
     (grd (okB (((0 : Int) <= (r1.2.2.1.getD r1.1.2.2.2.1.toNat (0 : Int))) /\ ((r1.2.2.1.getD r1.1.2.2.2.1.toNat (0 : Int)) < ((r1.2.1.length : Nat) : Int))))
      (grd (Nat.blt (r1.2.2.1.getD r1.1.2.2.2.1.toNat (0 : Int)).toNat r1.2.1.length)
       (grd (okB (((-(9223372036854775808 : Int)) <= (r1.1.2.2.2.1 + (1 : Int))) /\ ((r1.1.2.2.2.1 + (1 : Int)) <= (9223372036854775807 : Int))))
        (some (Sum.inl (((), ((), (r1.1.2.2.1, ((r1.1.2.2.2.1 + (1 : Int)), ())))), ((r1.2.1.set (r1.2.2.1.getD r1.1.2.2.2.1.toNat (0 : Int)).toNat true), (r1.2.2.1, ()))))))))))
   else
   (some (Sum.inr (((), ()), (r1.2.1, ()))))))
def go36 (x0 : Fn) : (Option (Unit × ((List Bool) × Unit))) :=
 (grd (okB ((((x0.blocks.length : Nat) : Int) = ((x0.blocks.length : Nat) : Int)) /\ (((0 : Int) <= ((x0.blocks.length : Nat) : Int)) /\ (((((x0.blocks.length : Nat) : Int) * (((1 : Nat) : Nat) : Int)) <= (140737488355328 : Int)) /\ (((x0.blocks.length : Nat) : Int) <= (281474976710656 : Int))))))
  (callB (grd (okB (Fn.ok x0))
    (some ((), ((Sp.order x0), ()))))
   (fun (r0 : (Unit × ((List Int) × Unit))) => (callB (whileO (go36_l1) (((), ((), (((r0.2.1.length : Nat) : Int), ((0 : Int), ())))), ((@List.replicate Bool ((x0.blocks.length : Nat) : Int).toNat false), (r0.2.1, ()))))
     (fun (z0 : ((Unit × Unit) × ((List Bool) × Unit))) => (some ((), (z0.2.1, ()))))))))
theorem run36 (x0 : Fn) : runF (P := Try.prog) [c66] Try.f36 ann36 [(0, (.st 6))] [] (.full 0) [(.lst 4 .bool)] (x0, ()) () = go36 x0 := by kernel_rfl
def ann37 : Ann := (.seq .o (.seq .o (.join ⟨[(1, (.ptr 0 0)), (3, (.full 1))], [(.box 30 (.st 6)), (.lst 4 .bool)]⟩ (.seq .o (.block (.loop ⟨[(1, (.ptr 0 0)), (3, (.full 1)), (10, (.i .i64)), (11, (.i .i64))], [(.box 30 (.st 6)), (.lst 4 .bool)]⟩ [((.exit 0), ⟨[(1, (.ptr 0 0)), (3, (.full 1))], [(.box 30 (.st 6)), (.lst 4 .bool)]⟩)] (.seq .o (.join ⟨[(1, (.ptr 0 0)), (3, (.full 1)), (10, (.i .i64)), (11, (.i .i64))], [(.box 30 (.st 6)), (.lst 4 .bool)]⟩ (.cond .o .o) (.join ⟨[(1, (.ptr 0 0)), (3, (.full 1)), (10, (.i .i64)), (11, (.i .i64))], [(.box 30 (.st 6)), (.lst 4 .bool)]⟩ (.block (.seq .o .o)) .o)))))) (.join ⟨[(3, (.full 0))], [(.lst 4 .bool)]⟩ (.seq .o (.block (.loop ⟨[(1, (.ptr 0 0)), (3, (.full 1)), (22, (.i .i64)), (23, (.i .i64))], [(.box 30 (.st 6)), (.lst 4 .bool)]⟩ [((.exit 2), ⟨[(3, (.full 0))], [(.lst 4 .bool)]⟩)] (.seq .o (.join ⟨[(1, (.ptr 0 0)), (3, (.full 1)), (22, (.i .i64)), (23, (.i .i64))], [(.box 30 (.st 6)), (.lst 4 .bool)]⟩ (.cond .o .o) (.join ⟨[(1, (.ptr 0 0)), (3, (.full 1)), (22, (.i .i64)), (23, (.i .i64))], [(.box 30 (.st 6)), (.lst 4 .bool)]⟩ (.block (.seq .o (.block (.loop ⟨[(1, (.ptr 0 0)), (3, (.full 1)), (5, (.i .i64)), (22, (.i .i64)), (23, (.i .i64))], [(.box 30 (.st 6)), (.lst 4 .bool)]⟩ [((.exit 4), ⟨[(1, (.ptr 0 0)), (3, (.full 1)), (22, (.i .i64)), (23, (.i .i64))], [(.box 30 (.st 6)), (.lst 4 .bool)]⟩)] (.join ⟨[(1, (.ptr 0 0)), (3, (.full 1)), (5, (.i .i64)), (22, (.i .i64)), (23, (.i .i64))], [(.box 30 (.st 6)), (.lst 4 .bool)]⟩ (.seq .o (.cond .o .o)) (.join ⟨[(1, (.ptr 0 0)), (3, (.full 1)), (5, (.i .i64)), (22, (.i .i64)), (23, (.i .i64))], [(.box 30 (.st 6)), (.lst 4 .bool)]⟩ (.block (.seq .o (.seq .o (.block (.loop ⟨[(1, (.ptr 0 0)), (3, (.full 1)), (5, (.i .i64)), (6, (.full 2)), (7, (.i .i64)), (22, (.i .i64)), (23, (.i .i64))], [(.box 30 (.st 6)), (.lst 4 .bool), (.lst 3 (.int .i64))]⟩ [((.exit 6), ⟨[(1, (.ptr 0 0)), (3, (.full 1)), (5, (.i .i64)), (22, (.i .i64)), (23, (.i .i64))], [(.box 30 (.st 6)), (.lst 4 .bool)]⟩)] (.join ⟨[(1, (.ptr 0 0)), (3, (.full 1)), (5, (.i .i64)), (6, (.full 2)), (7, (.i .i64)), (22, (.i .i64)), (23, (.i .i64))], [(.box 30 (.st 6)), (.lst 4 .bool), (.lst 3 (.int .i64))]⟩ (.seq .o (.cond .o .o)) (.join ⟨[(1, (.ptr 0 0)), (3, (.full 1)), (5, (.i .i64)), (6, (.full 2)), (7, (.i .i64)), (22, (.i .i64)), (23, (.i .i64))], [(.box 30 (.st 6)), (.lst 4 .bool), (.lst 3 (.int .i64))]⟩ (.block .o) .o))))))) .o)))))) .o)))))) (.seq .o .o)))))
def go37_l4 : ((Unit × (Unit × (Int × (Unit × (Int × (Int × (Int × Unit))))))) × (Fn × ((List Bool) × ((List Int) × Unit)))) -> Option (((Unit × (Unit × (Int × (Unit × (Int × (Int × (Int × Unit))))))) × (Fn × ((List Bool) × ((List Int) × Unit)))) ⊕ ((Unit × (Unit × (Int × (Int × (Int × Unit))))) × (Fn × ((List Bool) × Unit)))) := (fun (r3 : ((Unit × (Unit × (Int × (Unit × (Int × (Int × (Int × Unit))))))) × (Fn × ((List Bool) × ((List Int) × Unit))))) => (grd (okB (((0 : Int) <= r3.1.2.2.1) /\ (r3.1.2.2.1 < ((r3.2.2.1.length : Nat) : Int))))
   (grd (Nat.blt r3.1.2.2.1.toNat r3.2.2.1.length)
    (bif (r3.2.2.1.getD r3.1.2.2.1.toNat false) then
     (bif (decide (r3.1.2.2.2.2.1 < ((r3.2.2.2.1.length : Nat) : Int))) then
      (grd (okB (((0 : Int) <= r3.1.2.2.2.2.1) /\ (r3.1.2.2.2.2.1 < ((r3.2.2.2.1.length : Nat) : Int))))
       (grd (Nat.blt r3.1.2.2.2.2.1.toNat r3.2.2.2.1.length)
        (grd (okB (((0 : Int) <= (r3.2.2.2.1.getD r3.1.2.2.2.2.1.toNat (0 : Int))) /\ ((r3.2.2.2.1.getD r3.1.2.2.2.2.1.toNat (0 : Int)) < ((r3.2.2.1.length : Nat) : Int))))
         (grd (Nat.blt (r3.2.2.2.1.getD r3.1.2.2.2.2.1.toNat (0 : Int)).toNat r3.2.2.1.length)
          (grd (okB (((-(9223372036854775808 : Int)) <= (r3.1.2.2.2.2.1 + (1 : Int))) /\ ((r3.1.2.2.2.2.1 + (1 : Int)) <= (9223372036854775807 : Int))))
           (some (Sum.inl (((), ((), (r3.1.2.2.1, ((), ((r3.1.2.2.2.2.1 + (1 : Int)), (r3.1.2.2.2.2.2.1, (r3.1.2.2.2.2.2.2.1, ()))))))), (r3.2.1, ((r3.2.2.1.set (r3.2.2.2.1.getD r3.1.2.2.2.2.1.toNat (0 : Int)).toNat true), (r3.2.2.2.1, ())))))))))))
      else
      (some (Sum.inr (((), ((), (r3.1.2.2.1, (r3.1.2.2.2.2.2.1, (r3.1.2.2.2.2.2.2.1, ()))))), (r3.2.1, (r3.2.2.1, ()))))))
     else
     (some (Sum.inr (((), ((), (r3.1.2.2.1, (r3.1.2.2.2.2.2.1, (r3.1.2.2.2.2.2.2.1, ()))))), (r3.2.1, (r3.2.2.1, ())))))))))
def go37_l3 : ((Unit × (Unit × (Int × (Int × (Int × Unit))))) × (Fn × ((List Bool) × Unit))) -> Option (((Unit × (Unit × (Int × (Int × (Int × Unit))))) × (Fn × ((List Bool) × Unit))) ⊕ ((Unit × (Unit × (Int × (Int × Unit)))) × (Fn × ((List Bool) × Unit)))) := (fun (r1 : ((Unit × (Unit × (Int × (Int × (Int × Unit))))) × (Fn × ((List Bool) × Unit)))) => (bif (decide (r1.1.2.2.1 < ((r1.2.1.blocks.length : Nat) : Int))) then
   (callB (grd (okB (Fn.ok r1.2.1))
     (some ((), ((Sp.succs r1.2.1 r1.1.2.2.1), ()))))
    (fun (r2 : (Unit × ((List Int) × Unit))) => (callB (whileO (go37_l4) (((), ((), (r1.1.2.2.1, ((), ((0 : Int), (r1.1.2.2.2.1, (r1.1.2.2.2.2.1, ()))))))), (r1.2.1, (r1.2.2.1, (r2.2.1, ())))))
      (fun (z1 : ((Unit × (Unit × (Int × (Int × (Int × Unit))))) × (Fn × ((List Bool) × Unit)))) => (grd (okB (((-(9223372036854775808 : Int)) <= (z1.1.2.2.1 + (1 : Int))) /\ ((z1.1.2.2.1 + (1 : Int)) <= (9223372036854775807 : Int))))
        (some (Sum.inl (((), ((), ((z1.1.2.2.1 + (1 : Int)), (z1.1.2.2.2.1, (z1.1.2.2.2.2.1, ()))))), (z1.2.1, (z1.2.2.1, ()))))))))))
   else
   (some (Sum.inr (((), ((), (r1.1.2.2.2.1, (r1.1.2.2.2.2.1, ())))), (r1.2.1, (r1.2.2.1, ())))))))
def go37_l2 : ((Unit × (Unit × (Int × (Int × Unit)))) × (Fn × ((List Bool) × Unit))) -> Option (((Unit × (Unit × (Int × (Int × Unit)))) × (Fn × ((List Bool) × Unit))) ⊕ ((Unit × Unit) × ((List Bool) × Unit))) := (fun (r0 : ((Unit × (Unit × (Int × (Int × Unit)))) × (Fn × ((List Bool) × Unit)))) => (bif (decide (r0.1.2.2.2.1 < r0.1.2.2.1)) then
   (callB (whileO (go37_l3) (((), ((), ((0 : Int), (r0.1.2.2.1, (r0.1.2.2.2.1, ()))))), (r0.2.1, (r0.2.2.1, ()))))
    (fun (z1 : ((Unit × (Unit × (Int × (Int × Unit)))) × (Fn × ((List Bool) × Unit)))) => (grd (okB (((-(9223372036854775808 : Int)) <= (z1.1.2.2.2.1 + (1 : Int))) /\ ((z1.1.2.2.2.1 + (1 : Int)) <= (9223372036854775807 : Int))))
      (some (Sum.inl (((), ((), (z1.1.2.2.1, ((z1.1.2.2.2.1 + (1 : Int)), ())))), (z1.2.1, (z1.2.2.1, ()))))))))
   else
   (some (Sum.inr (((), ()), (r0.2.2.1, ()))))))
def go37_l1 : ((Unit × (Unit × (Int × (Int × Unit)))) × (Fn × ((List Bool) × Unit))) -> Option (((Unit × (Unit × (Int × (Int × Unit)))) × (Fn × ((List Bool) × Unit))) ⊕ ((Unit × (Unit × Unit)) × (Fn × ((List Bool) × Unit)))) := (fun (r0 : ((Unit × (Unit × (Int × (Int × Unit)))) × (Fn × ((List Bool) × Unit)))) => (bif (decide (r0.1.2.2.2.1 < r0.1.2.2.1)) then
   (grd (okB ((((r0.2.2.1.length + 1) * (1 : Nat)) <= (140737488355328 : Nat)) /\ ((r0.2.2.1.length + 1) <= (281474976710656 : Nat))))
    (grd (okB (((-(9223372036854775808 : Int)) <= (r0.1.2.2.2.1 + (1 : Int))) /\ ((r0.1.2.2.2.1 + (1 : Int)) <= (9223372036854775807 : Int))))
     (some (Sum.inl (((), ((), (r0.1.2.2.1, ((r0.1.2.2.2.1 + (1 : Int)), ())))), (r0.2.1, ((r0.2.2.1 ++ ((decide (r0.1.2.2.2.1 = (0 : Int))) :: ([] : List Bool))), ())))))))
   else
   (some (Sum.inr (((), ((), ())), (r0.2.1, (r0.2.2.1, ())))))))
def go37 (x0 : Fn) : (Option (Unit × ((List Bool) × Unit))) :=
 (callB (whileO (go37_l1) (((), ((), (((x0.blocks.length : Nat) : Int), ((0 : Int), ())))), (x0, (([] : List Bool), ()))))
  (fun (z0 : ((Unit × (Unit × Unit)) × (Fn × ((List Bool) × Unit)))) => (callB (whileO (go37_l2) (((), ((), (((z0.2.1.blocks.length : Nat) : Int), ((0 : Int), ())))), (z0.2.1, (z0.2.2.1, ()))))
    (fun (z1 : ((Unit × Unit) × ((List Bool) × Unit))) => (some ((), (z1.2.1, ())))))))
theorem run37 (x0 : Fn) : runF (P := Try.prog) [c40] Try.f37 ann37 [(0, (.st 6))] [] (.full 0) [(.lst 4 .bool)] (x0, ()) () = go37 x0 := by kernel_rfl
theorem visit_rng (f : Fn) : ∀ (n : Nat) (b : Int) (s : List Bool × List Int), (∀ x ∈ s.2, 0 <= x /\ x < s.1.length) -> ∀ x ∈ (Sp.visit f n b s).2, 0 <= x /\ x < s.1.length
 | 0, _, _, h => h
 | n + 1, b, s, h => by
  unfold Sp.visit
  split
  ·exact h
  ·rename_i hb
   split
   ·exact h
   ·refine (foldl_inv (fun r : List Bool × List Int => r.1.length = s.1.length /\ ∀ x ∈ r.2, 0 <= x /\ x < s.1.length) _ (fun r e hr => ?_) _ _ ⟨by simp, fun x hx => ?_⟩).2
    ·have h1 := (visit_inv f n e.block r).1
     refine ⟨h1.trans hr.1, ?_⟩
     have h2 := visit_rng f n e.block r
     rw [hr.1] at h2
     exact h2 hr.2
    ·rcases List.mem_append.1 hx with hx | hx
     ·exact h x hx
     ·have : x = b := by simpa using hx
      subst this
      omega
theorem order_rng (f : Fn) : ∀ x ∈ Sp.order f, 0 <= x /\ x < f.blocks.length := by
 have := visit_rng f (f.blocks.length + 1) 0 (List.replicate f.blocks.length false, []) (fun x hx => by cases hx)
 unfold Sp.order
 simpa using this
theorem order_len (f : Fn) : (Sp.order f).length <= f.blocks.length := by
 have := (visit_inv f (f.blocks.length + 1) 0 (List.replicate f.blocks.length false, [])).2.1
 simp only [unseen_rep, List.length_nil] at this
 unfold Sp.order
 omega
def setAll (o : List Bool) (l : List Int) : List Bool := l.foldl (fun o s => o.set s.toNat true) o
theorem setAll_len (o : List Bool) : ∀ l : List Int, (setAll o l).length = o.length := fun l => foldl_inv (fun r : List Bool => r.length = o.length) _ (fun r a h => by simpa using h) l o rfl
theorem setAll_app (o : List Bool) (l m : List Int) : setAll o (l ++ m) = setAll (setAll o l) m := by simp [setAll]
def Sp.reach (f : Fn) : List Bool := setAll (List.replicate f.blocks.length false) (Sp.order f)
theorem ok36 (f : Fn) (hf : f.ok) : go36 f = some ((), Sp.reach f, ()) := by
 have hB := hf.2.2.2.2.2.1
 simp only [reachBytes] at hB
 have hr := order_rng f
 have hl := order_len f
 unfold go36 Sp.reach
 simp only [Int.toNat_natCast]
 rw [grd_ok (by refine ⟨?_, ?_, ?_, ?_⟩ <;> first | trivial | omega), grd_ok hf]
 simp only [callB_some]
 generalize Sp.order f = l at hr hl ⊢
 refine callB_of (whileO_to (st := fun k => (((), ((), (((l.length : Nat) : Int), ((k : Int), ())))), (setAll (List.replicate f.blocks.length false) (l.take k), (l, ())))) rfl l.length (X0 := (((), ()), (setAll (List.replicate f.blocks.length false) l, ()))) (fun k hk => ?_) ?_) rfl
 ·have e := setAll_len (List.replicate f.blocks.length false) (l.take k)
  rw [List.length_replicate] at e
  have hx := hr (l.getD k 0) (by rw [List.getD_eq_getElem?_getD, List.getElem?_eq_getElem hk]; exact List.getElem_mem hk)
  unfold go36_l1
  simp only [Int.toNat_natCast, e]
  rw [decide_eq_true (by omega), cond_true, grd_ok (by omega), grd_blt hk, grd_ok hx, grd_blt (by omega), grd_ok (by omega), take_step hk 0, setAll_app]
  rfl
 ·unfold go36_l1
  simp only [List.take_length]
  rw [decide_eq_false (by omega), cond_false]
def c36 : Ctr Try.prog := mkCtr 36 Try.f36 Try.func36 [c66] ann36 [(0, (.st 6))] [] (.full 0) [(.lst 4 .bool)] (fun x _ => grd (okB (Fn.ok x.1)) (some ((), Sp.reach x.1, ()))) (fun x _ r h => FO (run36 x.1) (ok36 x.1) h)
def Sp.relax (f : Fn) (b : Nat) (o : List Bool) : List Bool := if o.getD b false then setAll o (Sp.succs f b) else o
def Sp.round (f : Fn) (o : List Bool) : List Bool := (List.range f.blocks.length).foldl (fun o b => Sp.relax f b o) o
def Sp.start (n : Nat) : List Bool := (List.range n).map fun i => decide (i = 0)
def Sp.rounds (f : Fn) : Nat -> List Bool
 | 0 => Sp.start f.blocks.length
 | k + 1 => Sp.round f (Sp.rounds f k)
theorem relax_len (f : Fn) (b : Nat) (o : List Bool) : (Sp.relax f b o).length = o.length := by
 unfold Sp.relax
 split
 ·exact setAll_len o _
 ·rfl
theorem round_len (f : Fn) (o : List Bool) : (Sp.round f o).length = o.length := foldl_inv (fun r : List Bool => r.length = o.length) _ (fun r a h => (relax_len f a r).trans h) _ o rfl
theorem rounds_len (f : Fn) : ∀ k, (Sp.rounds f k).length = f.blocks.length
 | 0 => by simp [Sp.rounds, Sp.start]
 | k + 1 => (round_len f _).trans (rounds_len f k)
theorem setAll_mono (o : List Bool) {b : Nat} : ∀ l : List Int, o.getD b false = true -> (setAll o l).getD b false = true := fun l h => foldl_inv (fun r : List Bool => r.getD b false = true) _ (fun r a h => by
 by_cases e : b = a.toNat
 ·by_cases hl : a.toNat < r.length
  ·rw [e, getD_set_self hl]
  ·rw [List.set_eq_of_length_le (by omega)]; exact h
 ·rw [getD_set_ne e]; exact h) l o h
theorem succs_rng (f : Fn) (b : Int) : ∀ x ∈ Sp.succs f b, 0 <= x /\ x < f.blocks.length := fun x hx => by
 unfold Sp.succs at hx
 split at hx
 ·refine ⟨?_, succsTo_lt hx⟩
  simp only [succsTo, List.mem_map] at hx
  obtain ⟨s, _, rfl⟩ := hx
  omega
 ·cases hx
theorem succs_len (f : Fn) (b : Int) : (Sp.succs f b).length <= f.blocks.length := by
 unfold Sp.succs
 split
 ·exact succsTo_len f _ _
 ·simp
theorem loop374 (f : Fn) (hf : f.ok) (b : Nat) (o : List Bool) (ho : o.length = f.blocks.length) (hb : b < f.blocks.length) (u v : Int) :
  whileO go37_l4 (((), ((), ((b : Int), ((), (0, (u, (v, ()))))))), (f, (o, (Sp.succs f b, ())))) = some (((), ((), ((b : Int), (u, (v, ()))))), (f, (Sp.relax f b o, ()))) := by
 have hB := hf.2.2.2.2.2.1
 simp only [reachBytes] at hB
 have hr := succs_rng f b
 have hl := succs_len f b
 unfold Sp.relax
 generalize Sp.succs f b = l at hr hl ⊢
 cases h : o.getD b false with
 | false =>
  rw [whileO_eq]
  unfold go37_l4
  simp only [Int.toNat_natCast]
  rw [grd_ok (by omega), grd_blt (by omega), h, cond_false]
  rfl
 | true =>
  unfold go37_l4
  refine whileO_to (st := fun k => (((), ((), ((b : Int), ((), ((k : Int), (u, (v, ()))))))), (f, (setAll o (l.take k), (l, ()))))) rfl l.length (fun k hk => ?_) ?_
  ·have e := setAll_len o (l.take k)
   have hx := hr (l.getD k 0) (by rw [List.getD_eq_getElem?_getD, List.getElem?_eq_getElem hk]; exact List.getElem_mem hk)
   have hm := setAll_mono o (l.take k) h
   simp only [Int.toNat_natCast, e]
   rw [grd_ok (by omega), grd_blt (by omega), hm, cond_true, decide_eq_true (by omega), cond_true, grd_ok (by omega), grd_blt hk, grd_ok (by omega), grd_blt (by omega), grd_ok (by omega), take_step hk 0, setAll_app]
   rfl
  ·have e := setAll_len o l
   have hm := setAll_mono o l h
   simp only [Int.toNat_natCast, List.take_length, e]
   rw [grd_ok (by omega), grd_blt (by omega), hm, cond_true, decide_eq_false (by omega), cond_false]
   rfl
theorem foldr_inv {β : Type} (P : β -> Prop) (g : β -> Nat -> β) (h : ∀ s a, P s -> P (g s a)) (n : Nat) (s : β) (hs : P s) : P ((List.range n).foldl g s) := foldl_inv P g h _ s hs
theorem loop373 (f : Fn) (hf : f.ok) (o : List Bool) (ho : o.length = f.blocks.length) (u v : Int) :
  whileO go37_l3 (((), ((), (0, (u, (v, ()))))), (f, (o, ()))) = some (((), ((), (u, (v, ())))), (f, (Sp.round f o, ()))) := by
 have hB := hf.2.2.2.2.2.1
 simp only [reachBytes] at hB
 unfold go37_l3 Sp.round
 refine whileO_to (st := fun k => (((), ((), ((k : Int), (u, (v, ()))))), (f, ((List.range k).foldl (fun o b => Sp.relax f b o) o, ())))) rfl f.blocks.length (fun k hk => ?_) ?_
 ·have e : ((List.range k).foldl (fun o b => Sp.relax f b o) o).length = f.blocks.length := foldr_inv (fun r : List Bool => r.length = f.blocks.length) _ (fun r a h => (relax_len f a r).trans h) k o ho
  simp only
  rw [decide_eq_true (by omega), cond_true, grd_ok hf]
  simp only [callB_some]
  refine callB_of (loop374 f hf k _ e hk u v) ?_
  rw [grd_ok (by simp only; omega), List.range_succ, List.foldl_append]
  rfl
 ·simp only
  rw [decide_eq_false (by omega), cond_false]
theorem ok37 (f : Fn) (hf : f.ok) : go37 f = some ((), Sp.rounds f f.blocks.length, ()) := by
 have hB := hf.2.2.2.2.2.1
 simp only [reachBytes] at hB
 unfold go37
 refine callB_of (whileO_to (st := fun k => (((), ((), (((f.blocks.length : Nat) : Int), ((k : Int), ())))), (f, (((List.range k).map fun i => decide (i = 0)), ())))) rfl f.blocks.length (X0 := (((), ((), ())), (f, (Sp.start f.blocks.length, ())))) (fun k hk => ?_) ?_) ?_
 ·unfold go37_l1
  simp only [List.length_map, List.length_range]
  rw [decide_eq_true (by omega), cond_true, grd_ok (by omega), grd_ok (by omega), List.range_succ, List.map_append]
  have e : decide ((k : Int) = 0) = decide (k = 0) := by
   by_cases h : k = 0
   ·subst h; rfl
   ·rw [decide_eq_false h, decide_eq_false (by omega)]
  rw [e]; rfl
 ·unfold go37_l1
  simp only
  rw [decide_eq_false (by omega), cond_false]
  rfl
 ·refine callB_of (whileO_to (st := fun k => (((), ((), (((f.blocks.length : Nat) : Int), ((k : Int), ())))), (f, (Sp.rounds f k, ())))) rfl f.blocks.length (X0 := (((), ()), (Sp.rounds f f.blocks.length, ()))) (fun k hk => ?_) ?_) rfl
  ·unfold go37_l2
   simp only
   rw [decide_eq_true (by omega), cond_true]
   refine callB_of (loop373 f hf _ (rounds_len f k) _ _) ?_
   rw [grd_ok (by simp only; omega)]
   rfl
  ·unfold go37_l2
   simp only
   rw [decide_eq_false (by omega), cond_false]
def c37 : Ctr Try.prog := mkCtr 37 Try.f37 Try.func37 [c40] ann37 [(0, (.st 6))] [] (.full 0) [(.lst 4 .bool)] (fun x _ => grd (okB (Fn.ok x.1)) (some ((), Sp.rounds x.1 x.1.blocks.length, ()))) (fun x _ r h => FO (run37 x.1) (ok37 x.1) h)
end
end Go.Abs
namespace Go.Abs
open Go Go.Proofs
noncomputable section
inductive Rch (f : Fn) : Nat -> Prop where
 | zero (h : 0 < f.blocks.length) : Rch f 0
 | step {b s : Nat} : Rch f b -> Sp.leads f b s = true -> s < f.blocks.length -> Rch f s
def seen (o : List Bool) (x : Nat) : Prop := o.getD x false = true
theorem seen_lt {o : List Bool} {x : Nat} (h : seen o x) : x < o.length := by
 unfold seen at h
 rw [List.getD_eq_getElem?_getD] at h
 refine Classical.byContradiction fun hn => ?_
 rw [List.getElem?_eq_none (by omega)] at h
 simp at h
theorem seen_set {o : List Bool} {x y : Nat} : seen (o.set y true) x ↔ seen o x \/ (x = y /\ y < o.length) := by
 unfold seen
 simp only [List.getD_eq_getElem?_getD, List.getElem?_set]
 by_cases h : y = x
 ·subst h
  rw [if_pos rfl]
  by_cases hl : y < o.length
  ·rw [if_pos hl]; simp [hl]
  ·rw [if_neg hl, List.getElem?_eq_none (by omega)]; simp [hl]
 ·rw [if_neg h]
  constructor
  ·exact .inl
  ·rintro (h1 | ⟨h1, _⟩)
   ·exact h1
   ·exact absurd h1.symm h
theorem seen_ext {a b : List Bool} (hl : a.length = b.length) (h : ∀ x, seen a x ↔ seen b x) : a = b := by
 refine List.ext_getElem hl fun i h1 h2 => ?_
 have := h i
 unfold seen at this
 simp only [List.getD_eq_getElem?_getD, List.getElem?_eq_getElem h1, List.getElem?_eq_getElem h2, Option.getD_some] at this
 cases ha : a[i] <;> cases hb : b[i] <;> simp_all
theorem seen_setAll {o : List Bool} {l : List Int} {x : Nat} : seen (setAll o l) x ↔ seen o x \/ (x < o.length /\ ∃ s ∈ l, s.toNat = x) := by
 induction l generalizing o with
 | nil => simp [setAll]
 | cons a l ih =>
  show seen (setAll (o.set a.toNat true) l) x ↔ _
  rw [ih, seen_set, List.length_set]
  simp only [List.mem_cons, exists_eq_or_imp]
  constructor
  ·rintro ((h | ⟨h1, h2⟩) | ⟨h1, h2⟩)
   ·exact .inl h
   ·exact .inr ⟨by omega, .inl h1.symm⟩
   ·exact .inr ⟨h1, .inr h2⟩
  ·rintro (h | ⟨h1, h2 | h2⟩)
   ·exact .inl (.inl h)
   ·exact .inl (.inr ⟨h2.symm, by omega⟩)
   ·exact .inr ⟨h1, h2⟩
theorem seen_rep {n x : Nat} : ¬ seen (List.replicate n false) x := by
 unfold seen
 rw [List.getD_eq_getElem?_getD, List.getElem?_replicate]
 split <;> simp
theorem leads_iff {f : Fn} {b s : Nat} : Sp.leads f b s = true ↔ ∃ e ∈ (f.blocks.getD b Block.z).term.to, e.block = (s : Int) := by
 simp [Sp.leads, List.any_eq_true]
structure Vis (f : Fn) (s s' : List Bool × List Int) : Prop where
 len : s'.1.length = s.1.length
 mono : ∀ x, seen s.1 x -> seen s'.1 x
 closed : ∀ x, seen s'.1 x -> ¬ seen s.1 x -> ∀ y, y < s.1.length -> Sp.leads f x y = true -> seen s'.1 y
 out : (∀ x : Nat, seen s.1 x ↔ (x : Int) ∈ s.2) -> ∀ x : Nat, seen s'.1 x ↔ (x : Int) ∈ s'.2
 un : unseen s'.1 <= unseen s.1
theorem Vis.refl (f : Fn) (s : List Bool × List Int) : Vis f s s := ⟨rfl, fun _ h => h, fun x h hn => absurd h hn, fun h => h, Nat.le_refl _⟩
theorem Vis.trans {f : Fn} {a b c : List Bool × List Int} (h : Vis f a b) (k : Vis f b c) : Vis f a c :=
 ⟨k.len.trans h.len, fun x hx => k.mono x (h.mono x hx), fun x hx hn y hy hl => by
  by_cases hb : seen b.1 x
  ·exact k.mono y (h.closed x hb hn y hy hl)
  ·exact k.closed x hx hb y (by rw [h.len]; exact hy) hl, fun ho => k.out (h.out ho), Nat.le_trans k.un h.un⟩
theorem fold_vis {f : Fn} {n : Nat} (ih : ∀ (b : Int) (s : List Bool × List Int), unseen s.1 < n -> Vis f s (Sp.visit f n b s) /\ (0 <= b -> b < (s.1.length : Int) -> seen (Sp.visit f n b s).1 b.toNat)) :
  ∀ (l : List Edge) (s : List Bool × List Int), unseen s.1 < n -> Vis f s (l.foldl (fun s e => Sp.visit f n e.block s) s) /\ ∀ e ∈ l, 0 <= e.block -> e.block < (s.1.length : Int) -> seen (l.foldl (fun s e => Sp.visit f n e.block s) s).1 e.block.toNat
 | [], s, h => ⟨Vis.refl f s, fun e he => by cases he⟩
 | a :: l, s, h => by
  obtain ⟨h1, h2⟩ := ih a.block s h
  obtain ⟨h3, h4⟩ := fold_vis ih l (Sp.visit f n a.block s) (Nat.lt_of_le_of_lt h1.un h)
  refine ⟨h1.trans h3, fun e he p1 p2 => ?_⟩
  rcases List.mem_cons.1 he with rfl | he
  ·exact h3.mono _ (h2 p1 p2)
  ·exact h4 e he p1 (by rw [h1.len]; exact p2)
theorem visit_vis (f : Fn) : ∀ (n : Nat) (b : Int) (s : List Bool × List Int), unseen s.1 < n -> Vis f s (Sp.visit f n b s) /\ (0 <= b -> b < (s.1.length : Int) -> seen (Sp.visit f n b s).1 b.toNat)
 | 0, b, s, h => by omega
 | n + 1, b, s, h => by
  unfold Sp.visit
  split
  ·rename_i hb
   exact ⟨Vis.refl f s, fun p1 p2 => by omega⟩
  ·rename_i hb
   split
   ·rename_i hs
    exact ⟨Vis.refl f s, fun _ _ => hs⟩
   ·rename_i hs
    have hlt : b.toNat < s.1.length := by omega
    have hu := unseen_set hlt (by simpa using hs)
    obtain ⟨h3, h4⟩ := fold_vis (visit_vis f n) (f.blocks.getD b.toNat Block.z).term.to (s.1.set b.toNat true, s.2 ++ [b]) (by simp only; omega)
    generalize (f.blocks.getD b.toNat Block.z).term.to.foldl (fun s e => Sp.visit f n e.block s) (s.1.set b.toNat true, s.2 ++ [b]) = s' at h3 h4
    have hb1 : seen (s.1.set b.toNat true) b.toNat := seen_set.2 (.inr ⟨rfl, hlt⟩)
    refine ⟨⟨by rw [h3.len]; simp, fun x hx => h3.mono x (seen_set.2 (.inl hx)), fun x hx hn y hy hl => ?_, fun ho => h3.out fun x => ?_, by have := h3.un; simp only at this; omega⟩, fun _ _ => h3.mono _ hb1⟩
    ·by_cases hxb : x = b.toNat
     ·subst hxb
      obtain ⟨e, he, e1⟩ := leads_iff.1 hl
      have := h4 e he (by omega) (by simp only [List.length_set]; omega)
      rwa [e1, Int.toNat_natCast] at this
     ·refine h3.closed x hx (fun hx2 => ?_) y (by simpa using hy) hl
      rcases seen_set.1 hx2 with h5 | ⟨h5, _⟩
      ·exact hn h5
      ·exact hxb h5
    ·rw [seen_set, List.mem_append, ho x]
     simp only [List.mem_singleton]
     constructor
     ·rintro (h5 | ⟨h5, _⟩)
      ·exact .inl h5
      ·exact .inr (by omega)
     ·rintro (h5 | h5)
      ·exact .inl h5
      ·exact .inr ⟨by omega, hlt⟩
theorem visit_sound (f : Fn) : ∀ (n : Nat) (b : Int) (s : List Bool × List Int), s.1.length = f.blocks.length -> (0 <= b -> b < (f.blocks.length : Int) -> Rch f b.toNat) -> (∀ x, seen s.1 x -> Rch f x) ->
  ∀ x, seen (Sp.visit f n b s).1 x -> Rch f x
 | 0, b, s, hl, hb, hs => hs
 | n + 1, b, s, hl, hb, hs => by
  unfold Sp.visit
  split
  ·exact hs
  ·rename_i hn
   split
   ·exact hs
   ·have hr : Rch f b.toNat := hb (by omega) (by omega)
    have key : ∀ (l : List Edge) (r : List Bool × List Int), (∀ e ∈ l, e ∈ (f.blocks.getD b.toNat Block.z).term.to) -> r.1.length = f.blocks.length -> (∀ x, seen r.1 x -> Rch f x) -> ∀ x, seen (l.foldl (fun s e => Sp.visit f n e.block s) r).1 x -> Rch f x := by
     intro l
     induction l with
     | nil => exact fun r _ _ h => h
     | cons e l ih =>
      intro r hm hrl hrs
      refine ih (Sp.visit f n e.block r) (fun e' he' => hm e' (List.mem_cons_of_mem _ he')) ((visit_inv f n e.block r).1.trans hrl) (visit_sound f n e.block r hrl (fun p1 p2 => ?_) hrs)
      exact Rch.step hr (leads_iff.2 ⟨e, hm e List.mem_cons_self, by omega⟩) (by omega)
    refine key _ _ (fun e he => he) (by simpa using hl) (fun x hx => ?_)
    rcases seen_set.1 hx with h5 | ⟨h5, _⟩
    ·exact hs x h5
    ·rw [h5]; exact hr
theorem reach_iff (f : Fn) (h0 : 0 < f.blocks.length) (x : Nat) : seen (Sp.reach f) x ↔ Rch f x := by
 have hun : unseen (List.replicate f.blocks.length false) < f.blocks.length + 1 := by rw [unseen_rep]; omega
 obtain ⟨v, hv⟩ := visit_vis f (f.blocks.length + 1) 0 (List.replicate f.blocks.length false, []) hun
 have hs := visit_sound f (f.blocks.length + 1) 0 (List.replicate f.blocks.length false, []) (by simp) (fun _ _ => Rch.zero h0) (fun x hx => absurd hx seen_rep)
 have ho := v.out (fun x => ⟨fun hx => absurd hx seen_rep, fun hx => by cases hx⟩)
 have hrng := order_rng f
 have e : seen (Sp.reach f) x ↔ seen (Sp.visit f (f.blocks.length + 1) 0 (List.replicate f.blocks.length false, [])).1 x := by
  unfold Sp.reach
  rw [seen_setAll, ho x]
  show _ \/ _ ↔ (x : Int) ∈ Sp.order f
  constructor
  ·rintro (h | ⟨h1, s, h2, h3⟩)
   ·exact absurd h seen_rep
   ·have := hrng s h2
    rwa [show (x : Int) = s by omega]
  ·intro h
   have := hrng _ h
   exact .inr ⟨by simp; omega, _, h, by simp⟩
 rw [e]
 clear e
 constructor
 ·exact hs x
 ·intro hr
  induction hr with
  | zero h => exact hv (by omega) (by simp; omega)
  | step hb hl hlt ih => exact v.closed _ ih seen_rep _ (by simpa using hlt) hl
end
end Go.Abs
namespace Go.Abs
open Go Go.Proofs
noncomputable section
theorem mem_succs {f : Fn} {b : Nat} (hb : b < f.blocks.length) {x : Nat} : (∃ s ∈ Sp.succs f b, s.toNat = x) ↔ x < f.blocks.length /\ Sp.leads f b x = true := by
 unfold Sp.succs
 rw [if_pos (by omega), Int.toNat_natCast]
 simp only [succsTo, List.mem_map, List.mem_filter, List.mem_range]
 constructor
 ·rintro ⟨s, ⟨n, ⟨h1, h2⟩, rfl⟩, h3⟩
  rw [Int.toNat_natCast] at h3
  subst h3
  exact ⟨h1, h2⟩
 ·rintro ⟨h1, h2⟩
  exact ⟨(x : Int), ⟨x, ⟨h1, h2⟩, rfl⟩, Int.toNat_natCast x⟩
theorem seen_relax {f : Fn} {b : Nat} (hb : b < f.blocks.length) {o : List Bool} (hl : o.length = f.blocks.length) {x : Nat} : seen (Sp.relax f b o) x ↔ seen o x \/ (seen o b /\ x < f.blocks.length /\ Sp.leads f b x = true) := by
 unfold Sp.relax
 split
 ·rename_i h
  rw [seen_setAll, mem_succs hb, hl]
  constructor
  ·rintro (h1 | ⟨h1, h2, h3⟩)
   ·exact .inl h1
   ·exact .inr ⟨h, h1, h3⟩
  ·rintro (h1 | ⟨_, h2, h3⟩)
   ·exact .inl h1
   ·exact .inr ⟨h2, h2, h3⟩
 ·rename_i h
  constructor
  ·exact .inl
  ·rintro (h1 | ⟨h1, _⟩)
   ·exact h1
   ·exact absurd h1 h
def Clo (f : Fn) (o : List Bool) : Prop := ∀ b s, b < f.blocks.length -> s < f.blocks.length -> seen o b -> Sp.leads f b s = true -> seen o s
def rnd (f : Fn) (l : List Nat) (o : List Bool) : List Bool := l.foldl (fun o b => Sp.relax f b o) o
theorem rnd_mono {f : Fn} : ∀ {l : List Nat} {o : List Bool}, (∀ b ∈ l, b < f.blocks.length) -> o.length = f.blocks.length -> ∀ x, seen o x -> seen (rnd f l o) x
 | [], o, _, _, x, h => h
 | b :: l, o, hl, ho, x, h => rnd_mono (o := Sp.relax f b o) (fun c hc => hl c (List.mem_cons_of_mem _ hc)) ((relax_len f b o).trans ho) x ((seen_relax (hl b List.mem_cons_self) ho).2 (.inl h))
theorem rnd_hit {f : Fn} {b s : Nat} (hs : s < f.blocks.length) (hlead : Sp.leads f b s = true) : ∀ {l : List Nat} {o : List Bool}, (∀ c ∈ l, c < f.blocks.length) -> o.length = f.blocks.length -> b ∈ l -> seen o b -> seen (rnd f l o) s
 | [], o, _, _, hb, _ => by cases hb
 | c :: l, o, hl, ho, hb, hsb => by
  have hl' : ∀ d ∈ l, d < f.blocks.length := fun d hd => hl d (List.mem_cons_of_mem _ hd)
  have ho' := (relax_len f c o).trans ho
  have hc := hl c List.mem_cons_self
  rcases List.mem_cons.1 hb with e | hb
  ·subst e
   exact rnd_mono hl' ho' s ((seen_relax hc ho).2 (.inr ⟨hsb, hs, hlead⟩))
  ·exact rnd_hit hs hlead (o := Sp.relax f c o) hl' ho' hb ((seen_relax hc ho).2 (.inl hsb))
theorem relax_clo {f : Fn} {b : Nat} (hb : b < f.blocks.length) {o : List Bool} (hl : o.length = f.blocks.length) (hc : Clo f o) : Sp.relax f b o = o :=
 seen_ext (relax_len f b o) fun x => by
  rw [seen_relax hb hl]
  constructor
  ·rintro (h | ⟨h1, h2, h3⟩)
   ·exact h
   ·exact hc b x hb h2 h1 h3
  ·exact .inl
theorem rnd_clo {f : Fn} : ∀ {l : List Nat} {o : List Bool}, (∀ b ∈ l, b < f.blocks.length) -> o.length = f.blocks.length -> Clo f o -> rnd f l o = o
 | [], o, _, _, _ => rfl
 | b :: l, o, hl, ho, hc => by
  show rnd f l (Sp.relax f b o) = o
  rw [relax_clo (hl b List.mem_cons_self) ho hc]
  exact rnd_clo (fun c h => hl c (List.mem_cons_of_mem _ h)) ho hc
theorem rnd_sound {f : Fn} : ∀ {l : List Nat} {o : List Bool}, (∀ b ∈ l, b < f.blocks.length) -> o.length = f.blocks.length -> (∀ x, seen o x -> Rch f x) -> ∀ x, seen (rnd f l o) x -> Rch f x
 | [], o, _, _, h => h
 | b :: l, o, hl, ho, h => rnd_sound (o := Sp.relax f b o) (fun c hc => hl c (List.mem_cons_of_mem _ hc)) ((relax_len f b o).trans ho) fun x hx => by
  rcases (seen_relax (hl b List.mem_cons_self) ho).1 hx with h1 | ⟨h1, h2, h3⟩
  ·exact h x h1
  ·exact Rch.step (h b h1) h3 h2
theorem count_cons1 (x : Bool) (a : List Bool) : (x :: a).count true = a.count true + (if x then 1 else 0) := by
 rw [List.count_cons]; cases x <;> rfl
theorem count_le : ∀ {a b : List Bool}, a.length = b.length -> (∀ x, seen a x -> seen b x) -> a.count true <= b.count true
 | [], [], _, _ => Nat.le_refl _
 | x :: a, y :: b, hl, h => by
  have ih := count_le (a := a) (b := b) (by simpa using hl) (fun n hn => h (n + 1) hn)
  have h0 : x = true -> y = true := h 0
  rw [count_cons1, count_cons1]
  by_cases hx : x = true
  ·rw [if_pos hx, if_pos (h0 hx)]; omega
  ·rw [if_neg hx]; omega
theorem count_lt : ∀ {a b : List Bool}, a.length = b.length -> (∀ x, seen a x -> seen b x) -> ∀ {z : Nat}, seen b z -> ¬ seen a z -> a.count true < b.count true
 | [], [], _, _, z, hb, _ => by have := seen_lt hb; simp at this
 | x :: a, y :: b, hl, h, 0, hb, ha => by
  have ih := count_le (a := a) (b := b) (by simpa using hl) (fun n hn => h (n + 1) hn)
  have hb : y = true := hb
  have ha : ¬ x = true := ha
  rw [count_cons1, count_cons1, if_pos hb, if_neg ha]; omega
 | x :: a, y :: b, hl, h, z + 1, hb, ha => by
  have ih := count_lt (a := a) (b := b) (by simpa using hl) (fun n hn => h (n + 1) hn) (z := z) hb ha
  have h0 : x = true -> y = true := h 0
  rw [count_cons1, count_cons1]
  by_cases hx : x = true
  ·rw [if_pos hx, if_pos (h0 hx)]; omega
  ·rw [if_neg hx]; omega
theorem rng_lt {n : Nat} : ∀ b ∈ List.range n, b < n := fun b hb => List.mem_range.1 hb
theorem seen_start {n x : Nat} : seen (Sp.start n) x ↔ x = 0 /\ 0 < n := by
 unfold seen Sp.start
 simp only [List.getD_eq_getElem?_getD, List.getElem?_map, List.getElem?_range]
 by_cases h : x < n
 ·rw [List.getElem?_range h]; simp; omega
 ·rw [List.getElem?_eq_none (by simp; omega)]; simp; omega
theorem rounds_clo (f : Fn) (h0 : 0 < f.blocks.length) : ∀ k, Clo f (Sp.rounds f k) \/ k + 1 <= (Sp.rounds f k).count true
 | 0 => by
  refine .inr ?_
  have hs : seen (Sp.start f.blocks.length) 0 := seen_start.2 ⟨rfl, h0⟩
  have : true ∈ Sp.start f.blocks.length := by
   have hlt := seen_lt hs
   unfold seen at hs
   rw [List.getD_eq_getElem?_getD, List.getElem?_eq_getElem hlt, Option.getD_some] at hs
   rw [<- hs]; exact List.getElem_mem hlt
  exact List.count_pos_iff.2 this
 | k + 1 => by
  have hl := rounds_len f k
  rcases rounds_clo f h0 k with h | h
  ·refine .inl ?_
   have : Sp.rounds f (k + 1) = Sp.rounds f k := rnd_clo rng_lt hl h
   rw [this]; exact h
  ·by_cases hc : Clo f (Sp.rounds f k)
   ·refine .inl ?_
    have : Sp.rounds f (k + 1) = Sp.rounds f k := rnd_clo rng_lt hl hc
    rw [this]; exact hc
   ·refine .inr ?_
    have : ∃ b s, b < f.blocks.length /\ s < f.blocks.length /\ seen (Sp.rounds f k) b /\ Sp.leads f b s = true /\ ¬ seen (Sp.rounds f k) s := by
     refine Classical.byContradiction fun hn => hc fun b s h1 h2 h3 h4 => Classical.byContradiction fun h5 => hn ⟨b, s, h1, h2, h3, h4, h5⟩
    obtain ⟨b, s, h1, h2, h3, h4, h5⟩ := this
    have h6 : seen (Sp.rounds f (k + 1)) s := rnd_hit h2 h4 rng_lt hl (List.mem_range.2 h1) h3
    have := count_lt (a := Sp.rounds f k) (b := Sp.rounds f (k + 1)) (by rw [hl, rounds_len]) (rnd_mono rng_lt hl) h6 h5
    omega
theorem rounds_iff (f : Fn) (h0 : 0 < f.blocks.length) (x : Nat) : seen (Sp.rounds f f.blocks.length) x ↔ Rch f x := by
 have hc : Clo f (Sp.rounds f f.blocks.length) := by
  rcases rounds_clo f h0 f.blocks.length with h | h
  ·exact h
  ·have := List.count_le_length (l := Sp.rounds f f.blocks.length) (a := true)
   rw [rounds_len] at this
   omega
 have hs : ∀ k x, seen (Sp.rounds f k) x -> Rch f x := fun k => by
  induction k with
  | zero => intro x hx; obtain ⟨rfl, h⟩ := seen_start.1 hx; exact Rch.zero h
  | succ k ih => exact rnd_sound rng_lt (rounds_len f k) ih
 have hm : ∀ k, seen (Sp.rounds f k) 0 := fun k => by
  induction k with
  | zero => exact seen_start.2 ⟨rfl, h0⟩
  | succ k ih => exact rnd_mono rng_lt (rounds_len f k) 0 ih
 have hrl : ∀ x, Rch f x -> x < f.blocks.length := fun x hx => by cases hx <;> assumption
 constructor
 ·exact hs _ x
 ·intro hr
  induction hr with
  | zero h => exact hm _
  | step hb hl hlt ih => exact hc _ _ (hrl _ hb) hlt ih hl
theorem reach_len (f : Fn) : (Sp.reach f).length = f.blocks.length := by unfold Sp.reach; rw [setAll_len]; simp
theorem reach_rounds (f : Fn) (h0 : 0 < f.blocks.length) : Sp.reach f = Sp.rounds f f.blocks.length :=
 seen_ext (by rw [reach_len, rounds_len]) fun x => by rw [reach_iff f h0, rounds_iff f h0]
end
end Go.Abs
namespace Go.Abs
open Go Go.Proofs
noncomputable section
theorem valid_to {f : Fn} (h : Sp.valid f = true) : ∀ b ∈ f.blocks, b.term.to.length <= 2 /\ ∀ e ∈ b.term.to, 0 <= e.block /\ e.block < (f.blocks.length : Int) := fun b hb => by
 unfold Sp.valid at h
 simp only [Bool.and_eq_true, Option.isSome_iff_exists] at h
 obtain ⟨_, s', h⟩ := h
 obtain ⟨s1, s2, h⟩ := foldO_all _ _ _ h b hb
 unfold Sp.blkStep at h
 split at h
 ·split at h
  ·split at h
   ·split at h
    ·rename_i ht
     unfold Sp.termOk at ht
     simp only [Bool.and_eq_true, List.all_eq_true, decide_eq_true_eq] at ht
     obtain ⟨⟨⟨_, h1, _⟩, _⟩, h2⟩ := ht
     refine ⟨?_, fun e he => ?_⟩
     ·unfold Sp.sizeOfKind at h1
      split at h1
      ·omega
      ·split at h1 <;> omega
     ·have := h2 e he
      unfold Sp.edgeOk at this
      simp only [Bool.and_eq_true, Bool.not_eq_true', decide_eq_false_iff_not] at this
      omega
    ·cases h
   ·cases h
  ·cases h
 ·cases h
theorem valid_pos {f : Fn} (h : Sp.valid f = true) : 0 < f.blocks.length := by
 unfold Sp.valid Sp.headOk at h
 simp only [Bool.and_eq_true, Bool.not_eq_true', decide_eq_false_iff_not] at h
 omega
theorem valid_two2 {f : Fn} (h : Sp.valid f = true) : Sp.two f := fun b hb => (valid_to h b hb).1
theorem asc_ext : ∀ {a b : List Int}, a.Pairwise (· < ·) -> b.Pairwise (· < ·) -> (∀ x, x ∈ a ↔ x ∈ b) -> a = b
 | [], [], _, _, _ => rfl
 | [], y :: b, _, _, h => absurd ((h y).2 List.mem_cons_self) (by simp)
 | x :: a, [], _, _, h => absurd ((h x).1 List.mem_cons_self) (by simp)
 | x :: a, y :: b, ha, hb, h => by
  obtain ⟨a1, a2⟩ := List.pairwise_cons.1 ha
  obtain ⟨b1, b2⟩ := List.pairwise_cons.1 hb
  have e : x = y := by
   rcases List.mem_cons.1 ((h x).1 List.mem_cons_self) with e | h1
   ·exact e
   ·rcases List.mem_cons.1 ((h y).2 List.mem_cons_self) with e | h2
    ·exact e.symm
    ·have := a1 y h2; have := b1 x h1; omega
  subst e
  rw [asc_ext a2 b2 fun z => ?_]
  constructor
  ·intro hz
   rcases List.mem_cons.1 ((h z).1 (List.mem_cons_of_mem _ hz)) with e | h1
   ·have := a1 z hz; omega
   ·exact h1
  ·intro hz
   rcases List.mem_cons.1 ((h z).2 (List.mem_cons_of_mem _ hz)) with e | h1
   ·have := b1 z hz; omega
   ·exact h1
theorem succsTo_asc (f : Fn) (b k : Nat) : (succsTo f b k).Pairwise (· < ·) := by
 unfold succsTo
 rw [List.pairwise_map]
 refine List.Pairwise.filter _ (List.Pairwise.imp (fun h => ?_) List.pairwise_lt_range)
 exact Int.ofNat_lt.2 h
theorem mem_succsTo {f : Fn} {b k : Nat} {x : Int} : x ∈ succsTo f b k ↔ 0 <= x /\ x < k /\ Sp.leads f b x.toNat = true := by
 simp only [succsTo, List.mem_map, List.mem_filter, List.mem_range]
 constructor
 ·rintro ⟨n, ⟨h1, h2⟩, rfl⟩
  exact ⟨by omega, by omega, by rwa [Int.toNat_natCast]⟩
 ·rintro ⟨h1, h2, h3⟩
  exact ⟨x.toNat, ⟨by omega, h3⟩, by omega⟩
theorem uniq_srt {l : List Int} (h : l.length <= 2) : (Sp.uniq (Sp.srt l)).Pairwise (· < ·) /\ ∀ x, x ∈ Sp.uniq (Sp.srt l) ↔ x ∈ l := by
 match l, h with
 | [], _ => simp [Sp.srt, Sp.srtTo, Sp.uniq]
 | [a], _ => simp [Sp.srt, Sp.srtTo, Sp.uniq]
 | [a, b], _ =>
  have e : Sp.srt [a, b] = if b < a then [b, a] else [a, b] := by
   simp [Sp.srt, Sp.srtTo, Sp.sink]
  rw [e]
  split
  ·rename_i hlt
   have hne : ¬ a = b := by omega
   simp only [Sp.uniq, if_neg hne]
   refine ⟨by simp; exact hlt, fun x => ?_⟩
   simp only [List.mem_cons, List.not_mem_nil, or_false]
   exact Or.comm
  ·rename_i hlt
   simp only [Sp.uniq]
   split
   ·rename_i hab
    subst hab
    simp
   ·rename_i hab
    refine ⟨by simp; omega, fun x => Iff.rfl⟩
theorem nexts_succs {f : Fn} (h : Sp.valid f = true) (b : Int) : Sp.nexts f b = Sp.succs f b := by
 unfold Sp.nexts Sp.succs
 split
 ·rename_i hb
  have hlt : b.toNat < f.blocks.length := by omega
  have hm : f.blocks.getD b.toNat Block.z ∈ f.blocks := by
   rw [List.getD_eq_getElem?_getD, List.getElem?_eq_getElem hlt]; exact List.getElem_mem hlt
  obtain ⟨h2, hr⟩ := valid_to h _ hm
  obtain ⟨u1, u2⟩ := uniq_srt (l := (f.blocks.getD b.toNat Block.z).term.to.map fun e => e.block) (by simpa using h2)
  refine asc_ext u1 (succsTo_asc f _ _) fun x => ?_
  rw [u2, mem_succsTo, leads_iff, List.mem_map]
  constructor
  ·rintro ⟨e, he, rfl⟩
   have := hr e he
   exact ⟨this.1, this.2, e, he, by omega⟩
  ·rintro ⟨h1, h3, e, he, h4⟩
   exact ⟨e, he, by omega⟩
 ·rfl
theorem puts_at (b : Int) : ∀ (l : List Int) (o : List (List Int)), l.Pairwise (· < ·) -> (∀ x ∈ l, 0 <= x /\ x < (o.length : Int)) -> ∀ s : Nat, (l.foldl (Sp.put1 b) o).getD s [] = if (s : Int) ∈ l then o.getD s [] ++ [b] else o.getD s []
 | [], o, _, _, s => by simp
 | t :: l, o, ha, hr, s => by
  obtain ⟨a1, a2⟩ := List.pairwise_cons.1 ha
  have ht := hr t List.mem_cons_self
  have hp : Sp.put1 b o t = o.set t.toNat (o.getD t.toNat [] ++ [b]) := by unfold Sp.put1; rw [if_pos ht]
  rw [List.foldl_cons, puts_at b l _ a2 (fun x hx => by rw [put1_len]; exact hr x (List.mem_cons_of_mem _ hx)) s, hp]
  by_cases e : (s : Int) = t
  ·have hn : ¬ (s : Int) ∈ l := fun hm => by have := a1 _ hm; omega
   rw [if_neg hn, if_pos (by rw [e]; exact List.mem_cons_self)]
   have e2 : t.toNat = s := by omega
   rw [e2]
   have hlt : s < o.length := by omega
   simp [List.getD_eq_getElem?_getD, hlt]
  ·have h1 : (o.set t.toNat (o.getD t.toNat [] ++ [b])).getD s [] = o.getD s [] := by
    simp only [List.getD_eq_getElem?_getD]
    rw [List.getElem?_set_ne (by omega)]
   rw [h1]
   by_cases hm : (s : Int) ∈ l
   ·rw [if_pos hm, if_pos (List.mem_cons_of_mem _ hm)]
   ·rw [if_neg hm, if_neg (fun h => by rcases List.mem_cons.1 h with h | h; exact e h; exact hm h)]
def Sp.into (f : Fn) (b : Int) (k : Nat) : List Int := ((List.range k).filter fun (j : Nat) => decide (b ∈ Sp.succs f (j : Int))).map fun (j : Nat) => (j : Int)
theorem into_succ (f : Fn) (b : Int) (k : Nat) : Sp.into f b (k + 1) = if b ∈ Sp.succs f k then Sp.into f b k ++ [(k : Int)] else Sp.into f b k := by
 simp only [Sp.into, List.range_succ, List.filter_append, List.map_append]
 by_cases h : b ∈ Sp.succs f k
 ·simp [h]
 ·simp [h]
theorem into_len (f : Fn) (b : Int) (k : Nat) : (Sp.into f b k).length <= k := by
 simp only [Sp.into, List.length_map]
 exact Nat.le_trans (List.length_filter_le _ _) (by simp)
theorem succs_asc (f : Fn) (b : Int) : (Sp.succs f b).Pairwise (· < ·) /\ ∀ x ∈ Sp.succs f b, 0 <= x /\ x < (f.blocks.length : Int) := by
 unfold Sp.succs
 split
 ·exact ⟨succsTo_asc f _ _, fun x hx => by have := mem_succsTo.1 hx; exact ⟨this.1, this.2.1⟩⟩
 ·exact ⟨List.Pairwise.nil, fun x hx => by cases hx⟩
theorem preds_at {f : Fn} (h : Sp.valid f = true) (s : Nat) (hs : s < f.blocks.length) : ∀ k, (Sp.predsTo f k).getD s [] = Sp.into f s k
 | 0 => by simp [Sp.predsTo, Sp.into, List.getD_eq_getElem?_getD, List.getElem?_replicate, hs]
 | k + 1 => by
  obtain ⟨h1, h2⟩ := succs_asc f k
  rw [Sp.predsTo, nexts_succs h, puts_at _ _ _ h1 (fun x hx => by rw [predsTo_len]; exact h2 x hx), preds_at h s hs k, into_succ]
end
end Go.Abs
