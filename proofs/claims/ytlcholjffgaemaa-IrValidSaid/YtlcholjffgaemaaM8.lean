/-
Texts of the proof, part 8: V4 V5 V6 V7 W1 X1 X2 X3 Za Ua Ub.
No statement of the program is proved here.
-/
import Derived.Test.YtlcholjffgaemaaM7
import Derived.Laws.BitsAllLaws
set_option linter.unusedVariables false
set_option linter.unusedSectionVars false
set_option linter.unusedSimpArgs false
set_option maxHeartbeats 1000000
namespace Go.Abs
open Go Go.Proofs
noncomputable section
def ann45 : Ann := (.seq .o (.seq .o (.join ⟨[(1, (.ptr 0 0)), (3, (.full 1))], [(.box 30 (.st 6)), (.lst 9 .str)]⟩ (.seq .o (.block (.loop ⟨[(1, (.ptr 0 0)), (3, (.full 1)), (4, (.i .i64))], [(.box 30 (.st 6)), (.lst 9 .str)]⟩ [((.exit 0), ⟨[(1, (.ptr 0 0)), (3, (.full 1))], [(.box 30 (.st 6)), (.lst 9 .str)]⟩), (.ret, ⟨[(2, .b)], []⟩)] (.join ⟨[(1, (.ptr 0 0)), (3, (.full 1)), (4, (.i .i64))], [(.box 30 (.st 6)), (.lst 9 .str)]⟩ (.seq .o (.cond .o .o)) (.join ⟨[(1, (.ptr 0 0)), (3, (.full 1)), (4, (.i .i64))], [(.box 30 (.st 6)), (.lst 9 .str)]⟩ (.block (.seq .o (.seq .o (.join ⟨[(1, (.ptr 0 0)), (3, (.full 1)), (4, (.i .i64)), (5, (.ptr 2 0))], [(.box 30 (.st 6)), (.lst 9 .str), (.box 53 (.st 4))]⟩ (.seq .o (.cond (.seq .o .o) .o)) (.seq .o (.block (.join ⟨[(1, (.ptr 0 0)), (3, (.full 1)), (4, (.i .i64)), (5, (.ptr 2 0)), (41, (.i .i64)), (42, .b)], [(.box 30 (.st 6)), (.lst 9 .str), (.box 53 (.st 4))]⟩ (.seq .o (.cond .o .o)) (.cond (.seq .o (.cond (.seq .o .o) .o)) (.join ⟨[(1, (.ptr 0 0)), (3, (.full 1)), (4, (.i .i64)), (5, (.ptr 2 0)), (58, .b)], [(.box 30 (.st 6)), (.lst 9 .str), (.box 53 (.st 4))]⟩ (.seq .o (.cond .o .o)) (.cond (.seq .o (.cond (.seq .o .o) .o)) (.seq .o .o))))))))))) .o))))) (.join ⟨[(1, (.ptr 0 0)), (3, (.full 1))], [(.box 30 (.st 6)), (.lst 9 .str)]⟩ (.seq .o (.block (.loop ⟨[(1, (.ptr 0 0)), (3, (.full 1)), (6, (.i .i64))], [(.box 30 (.st 6)), (.lst 9 .str)]⟩ [((.exit 3), ⟨[(1, (.ptr 0 0)), (3, (.full 1))], [(.box 30 (.st 6)), (.lst 9 .str)]⟩), (.ret, ⟨[(2, .b)], []⟩)] (.join ⟨[(1, (.ptr 0 0)), (3, (.full 1)), (6, (.i .i64))], [(.box 30 (.st 6)), (.lst 9 .str)]⟩ (.seq .o (.cond .o .o)) (.join ⟨[(1, (.ptr 0 0)), (3, (.full 1)), (6, (.i .i64))], [(.box 30 (.st 6)), (.lst 9 .str)]⟩ (.block (.seq .o (.seq .o (.cond (.seq .o .o) .o)))) .o))))) (.join ⟨[(1, (.ptr 0 0))], [(.box 30 (.st 6))]⟩ (.seq .o (.block (.loop ⟨[(1, (.ptr 0 0)), (3, (.full 1)), (7, (.i .i64))], [(.box 30 (.st 6)), (.lst 9 .str)]⟩ [((.exit 5), ⟨[(1, (.ptr 0 0))], [(.box 30 (.st 6))]⟩), (.ret, ⟨[(2, .b)], []⟩)] (.join ⟨[(1, (.ptr 0 0)), (3, (.full 1)), (7, (.i .i64))], [(.box 30 (.st 6)), (.lst 9 .str)]⟩ (.seq .o (.cond .o .o)) (.join ⟨[(1, (.ptr 0 0)), (3, (.full 1)), (7, (.i .i64))], [(.box 30 (.st 6)), (.lst 9 .str)]⟩ (.block (.join ⟨[(1, (.ptr 0 0)), (3, (.full 1)), (7, (.i .i64))], [(.box 30 (.st 6)), (.lst 9 .str)]⟩ (.seq .o (.cond (.seq .o .o) .o)) (.seq .o (.block (.loop ⟨[(1, (.ptr 0 0)), (3, (.full 1)), (7, (.i .i64)), (8, (.i .i64))], [(.box 30 (.st 6)), (.lst 9 .str)]⟩ [((.exit 7), ⟨[(1, (.ptr 0 0)), (3, (.full 1)), (7, (.i .i64))], [(.box 30 (.st 6)), (.lst 9 .str)]⟩), (.ret, ⟨[(2, .b)], []⟩)] (.join ⟨[(1, (.ptr 0 0)), (3, (.full 1)), (7, (.i .i64)), (8, (.i .i64))], [(.box 30 (.st 6)), (.lst 9 .str)]⟩ (.seq .o (.cond .o .o)) (.join ⟨[(1, (.ptr 0 0)), (3, (.full 1)), (7, (.i .i64)), (8, (.i .i64))], [(.box 30 (.st 6)), (.lst 9 .str)]⟩ (.block (.seq .o (.cond (.seq .o .o) .o))) .o))))))) .o))))) (.seq .o .o))))))
def go45_l4 : ((Unit × (Unit × (Int × (Int × Unit)))) × (Fn × ((List ByteArray) × Unit))) -> Option (((Unit × (Unit × (Int × (Int × Unit)))) × (Fn × ((List ByteArray) × Unit))) ⊕ (((Unit × (Unit × (Int × Unit))) × (Fn × ((List ByteArray) × Unit))) ⊕ ((Bool × Unit) × Unit))) := (fun (r2 : ((Unit × (Unit × (Int × (Int × Unit)))) × (Fn × ((List ByteArray) × Unit)))) => (bif (decide (r2.1.2.2.2.1 < r2.1.2.2.1)) then
   (grd (okB (((0 : Int) <= r2.1.2.2.2.1) /\ (r2.1.2.2.2.1 < ((r2.2.2.1.length : Nat) : Int))))
    (grd (Nat.blt r2.1.2.2.2.1.toNat r2.2.2.1.length)
     (grd (okB (((0 : Int) <= r2.1.2.2.1) /\ (r2.1.2.2.1 < ((r2.2.2.1.length : Nat) : Int))))
      (grd (Nat.blt r2.1.2.2.1.toNat r2.2.2.1.length)
       (bif ((ByteArray.toList (r2.2.2.1.getD r2.1.2.2.2.1.toNat ByteArray.empty)) == (ByteArray.toList (r2.2.2.1.getD r2.1.2.2.1.toNat ByteArray.empty))) then
        (some (Sum.inr (Sum.inr ((false, ()), ()))))
        else
        (grd (okB (((-(9223372036854775808 : Int)) <= (r2.1.2.2.2.1 + (1 : Int))) /\ ((r2.1.2.2.2.1 + (1 : Int)) <= (9223372036854775807 : Int))))
         (some (Sum.inl (((), ((), (r2.1.2.2.1, ((r2.1.2.2.2.1 + (1 : Int)), ())))), (r2.2.1, (r2.2.2.1, ())))))))))))
   else
   (some (Sum.inr (Sum.inl (((), ((), (r2.1.2.2.1, ()))), (r2.2.1, (r2.2.2.1, ()))))))))
def go45_l3 : ((Unit × (Unit × (Int × Unit))) × (Fn × ((List ByteArray) × Unit))) -> Option (((Unit × (Unit × (Int × Unit))) × (Fn × ((List ByteArray) × Unit))) ⊕ (((Unit × Unit) × (Fn × Unit)) ⊕ ((Bool × Unit) × Unit))) := (fun (r0 : ((Unit × (Unit × (Int × Unit))) × (Fn × ((List ByteArray) × Unit)))) => (bif (decide (r0.1.2.2.1 < ((r0.2.2.1.length : Nat) : Int))) then
   (grd (okB (((0 : Int) <= r0.1.2.2.1) /\ (r0.1.2.2.1 < ((r0.2.2.1.length : Nat) : Int))))
    (grd (Nat.blt r0.1.2.2.1.toNat r0.2.2.1.length)
     (callB (grd (okB ((ByteArray.size (r0.2.2.1.getD r0.1.2.2.1.toNat ByteArray.empty)) <= (9223372036854775807 : Nat)))
       (some ((Sp.ident (r0.2.2.1.getD r0.1.2.2.1.toNat ByteArray.empty)), ())))
      (fun (r1 : (Bool × Unit)) => (bif (!r1.1) then
        (some (Sum.inr (Sum.inr ((false, ()), ()))))
        else
        (callB (whileO (go45_l4) (((), ((), (r0.1.2.2.1, ((0 : Int), ())))), (r0.2.1, (r0.2.2.1, ()))))
         (fun (z4 : (((Unit × (Unit × (Int × Unit))) × (Fn × ((List ByteArray) × Unit))) ⊕ ((Bool × Unit) × Unit))) => (sumO (fun (z5 : ((Unit × (Unit × (Int × Unit))) × (Fn × ((List ByteArray) × Unit)))) => (grd (okB (((-(9223372036854775808 : Int)) <= (z5.1.2.2.1 + (1 : Int))) /\ ((z5.1.2.2.1 + (1 : Int)) <= (9223372036854775807 : Int))))
             (some (Sum.inl (((), ((), ((z5.1.2.2.1 + (1 : Int)), ()))), (z5.2.1, (z5.2.2.1, ())))))))
           (fun (z5 : ((Bool × Unit) × Unit)) => (some (Sum.inr (Sum.inr ((z5.1.1, ()), ()))))) z4))))))))
   else
   (some (Sum.inr (Sum.inl (((), ()), (r0.2.1, ())))))))
def go45_l2 : ((Unit × (Unit × (Int × Unit))) × (Fn × ((List ByteArray) × Unit))) -> Option (((Unit × (Unit × (Int × Unit))) × (Fn × ((List ByteArray) × Unit))) ⊕ (((Unit × (Unit × Unit)) × (Fn × ((List ByteArray) × Unit))) ⊕ ((Bool × Unit) × Unit))) := (fun (r0 : ((Unit × (Unit × (Int × Unit))) × (Fn × ((List ByteArray) × Unit)))) => (bif (decide (r0.1.2.2.1 < ((r0.2.1.streams.length : Nat) : Int))) then
   (grd (okB (((0 : Int) <= r0.1.2.2.1) /\ (r0.1.2.2.1 < ((r0.2.1.streams.length : Nat) : Int))))
    (grd (okB ((((r0.2.2.1.length + 1) * (16 : Nat)) <= (140737488355328 : Nat)) /\ ((r0.2.2.1.length + 1) <= (281474976710656 : Nat))))
     (grd (okB (((0 : Int) <= r0.1.2.2.1) /\ (r0.1.2.2.1 < ((r0.2.1.streams.length : Nat) : Int))))
      (bif (!(Sp.right (r0.2.1.streams.getD r0.1.2.2.1.toNat Strm.z).width)) then
       (some (Sum.inr (Sum.inr ((false, ()), ()))))
       else
       (grd (okB (((-(9223372036854775808 : Int)) <= (r0.1.2.2.1 + (1 : Int))) /\ ((r0.1.2.2.1 + (1 : Int)) <= (9223372036854775807 : Int))))
        (some (Sum.inl (((), ((), ((r0.1.2.2.1 + (1 : Int)), ()))), (r0.2.1, ((r0.2.2.1 ++ ((r0.2.1.streams.getD r0.1.2.2.1.toNat Strm.z).name :: ([] : List ByteArray))), ()))))))))))
   else
   (some (Sum.inr (Sum.inl (((), ((), ())), (r0.2.1, (r0.2.2.1, ()))))))))
def go45_j3 (j0 : (((Unit × (Unit × (Int × Unit))) × (Fn × ((List ByteArray) × Unit))) -> (Option (((Unit × (Unit × (Int × Unit))) × (Fn × ((List ByteArray) × Unit))) ⊕ (((Unit × (Unit × Unit)) × (Fn × ((List ByteArray) × Unit))) ⊕ ((Bool × Unit) × Unit)))))) : ((Unit × (Unit × (Int × (Unit × (Bool × Unit))))) × (Fn × ((List ByteArray) × (Arr × Unit)))) -> Option (((Unit × (Unit × (Int × Unit))) × (Fn × ((List ByteArray) × Unit))) ⊕ (((Unit × (Unit × Unit)) × (Fn × ((List ByteArray) × Unit))) ⊕ ((Bool × Unit) × Unit))) := (fun (z1 : ((Unit × (Unit × (Int × (Unit × (Bool × Unit))))) × (Fn × ((List ByteArray) × (Arr × Unit))))) => (bif z1.1.2.2.2.2.1 then
   (bif (decide (z1.2.2.2.1.factor < (1 : Int))) then
    (some (Sum.inr (Sum.inr ((false, ()), ()))))
    else
    (bif (decide ((if ((64 : Int) < z1.2.2.2.1.len) then (64 : Int) else z1.2.2.2.1.len) < z1.2.2.2.1.factor)) then
     (some (Sum.inr (Sum.inr ((false, ()), ()))))
     else
     (j0 (((), ((), (z1.1.2.2.1, ()))), (z1.2.1, (z1.2.2.1, ()))))))
   else
   (some (Sum.inr (Sum.inr ((false, ()), ()))))))
def go45_j2 (j0 : (((Unit × (Unit × (Int × Unit))) × (Fn × ((List ByteArray) × Unit))) -> (Option (((Unit × (Unit × (Int × Unit))) × (Fn × ((List ByteArray) × Unit))) ⊕ (((Unit × (Unit × Unit)) × (Fn × ((List ByteArray) × Unit))) ⊕ ((Bool × Unit) × Unit)))))) : ((Unit × (Unit × (Int × (Unit × (Int × (Bool × Unit)))))) × (Fn × ((List ByteArray) × (Arr × Unit)))) -> Option (((Unit × (Unit × (Int × Unit))) × (Fn × ((List ByteArray) × Unit))) ⊕ (((Unit × (Unit × Unit)) × (Fn × ((List ByteArray) × Unit))) ⊕ ((Bool × Unit) × Unit))) := (fun (z0 : ((Unit × (Unit × (Int × (Unit × (Int × (Bool × Unit)))))) × (Fn × ((List ByteArray) × (Arr × Unit))))) => (bif z0.1.2.2.2.2.2.1 then
   (bif (!(decide (z0.2.2.2.1.factor = (0 : Int)))) then
    (some (Sum.inr (Sum.inr ((false, ()), ()))))
    else
    (bif (decide (z0.2.2.2.1.kind = (3 : Int))) then
     (bif (decide ((64 : Int) < z0.2.2.2.1.len)) then
      (some (Sum.inr (Sum.inr ((false, ()), ()))))
      else
      (j0 (((), ((), (z0.1.2.2.1, ()))), (z0.2.1, (z0.2.2.1, ())))))
     else
     (j0 (((), ((), (z0.1.2.2.1, ()))), (z0.2.1, (z0.2.2.1, ()))))))
   else
   (jpO (go45_j3 j0)
    (fun (j1 : (((Unit × (Unit × (Int × (Unit × (Bool × Unit))))) × (Fn × ((List ByteArray) × (Arr × Unit)))) -> (Option (((Unit × (Unit × (Int × Unit))) × (Fn × ((List ByteArray) × Unit))) ⊕ (((Unit × (Unit × Unit)) × (Fn × ((List ByteArray) × Unit))) ⊕ ((Bool × Unit) × Unit)))))) => (bif (decide (z0.1.2.2.2.2.1 = (1 : Int))) then
      (j1 (((), ((), (z0.1.2.2.1, ((), (true, ()))))), (z0.2.1, (z0.2.2.1, (z0.2.2.2.1, ())))))
      else
      (j1 (((), ((), (z0.1.2.2.1, ((), ((decide (z0.1.2.2.2.2.1 = (2 : Int))), ()))))), (z0.2.1, (z0.2.2.1, (z0.2.2.2.1, ()))))))))))
def go45_j1 : ((Unit × (Unit × (Int × Unit))) × (Fn × ((List ByteArray) × Unit))) -> Option (((Unit × (Unit × (Int × Unit))) × (Fn × ((List ByteArray) × Unit))) ⊕ (((Unit × (Unit × Unit)) × (Fn × ((List ByteArray) × Unit))) ⊕ ((Bool × Unit) × Unit))) := (fun (z0 : ((Unit × (Unit × (Int × Unit))) × (Fn × ((List ByteArray) × Unit)))) => (grd (okB (((-(9223372036854775808 : Int)) <= (z0.1.2.2.1 + (1 : Int))) /\ ((z0.1.2.2.1 + (1 : Int)) <= (9223372036854775807 : Int))))
   (some (Sum.inl (((), ((), ((z0.1.2.2.1 + (1 : Int)), ()))), (z0.2.1, (z0.2.2.1, ())))))))
def go45_l1 : ((Unit × (Unit × (Int × Unit))) × (Fn × ((List ByteArray) × Unit))) -> Option (((Unit × (Unit × (Int × Unit))) × (Fn × ((List ByteArray) × Unit))) ⊕ (((Unit × (Unit × Unit)) × (Fn × ((List ByteArray) × Unit))) ⊕ ((Bool × Unit) × Unit))) := (fun (r0 : ((Unit × (Unit × (Int × Unit))) × (Fn × ((List ByteArray) × Unit)))) => (bif (decide (r0.1.2.2.1 < ((r0.2.1.arrays.length : Nat) : Int))) then
   (jpO (go45_j1)
    (fun (j0 : (((Unit × (Unit × (Int × Unit))) × (Fn × ((List ByteArray) × Unit))) -> (Option (((Unit × (Unit × (Int × Unit))) × (Fn × ((List ByteArray) × Unit))) ⊕ (((Unit × (Unit × Unit)) × (Fn × ((List ByteArray) × Unit))) ⊕ ((Bool × Unit) × Unit)))))) => (grd (okB (((0 : Int) <= r0.1.2.2.1) /\ (r0.1.2.2.1 < ((r0.2.1.arrays.length : Nat) : Int))))
      (grd (okB ((((r0.2.2.1.length + 1) * (16 : Nat)) <= (140737488355328 : Nat)) /\ ((r0.2.2.1.length + 1) <= (281474976710656 : Nat))))
       (bif (!(Sp.right (r0.2.1.arrays.getD r0.1.2.2.1.toNat Arr.z).width)) then
        (some (Sum.inr (Sum.inr ((false, ()), ()))))
        else
        (bif (decide ((r0.2.1.arrays.getD r0.1.2.2.1.toNat Arr.z).len < (1 : Int))) then
         (some (Sum.inr (Sum.inr ((false, ()), ()))))
         else
         (bif (decide ((4096 : Int) < (r0.2.1.arrays.getD r0.1.2.2.1.toNat Arr.z).len)) then
          (some (Sum.inr (Sum.inr ((false, ()), ()))))
          else
          (jpO (go45_j2 j0)
           (fun (j1 : (((Unit × (Unit × (Int × (Unit × (Int × (Bool × Unit)))))) × (Fn × ((List ByteArray) × (Arr × Unit)))) -> (Option (((Unit × (Unit × (Int × Unit))) × (Fn × ((List ByteArray) × Unit))) ⊕ (((Unit × (Unit × Unit)) × (Fn × ((List ByteArray) × Unit))) ⊕ ((Bool × Unit) × Unit)))))) => (bif (decide ((r0.2.1.arrays.getD r0.1.2.2.1.toNat Arr.z).kind = (0 : Int))) then
             (j1 (((), ((), (r0.1.2.2.1, ((), ((r0.2.1.arrays.getD r0.1.2.2.1.toNat Arr.z).kind, (true, ())))))), (r0.2.1, ((r0.2.2.1 ++ ((r0.2.1.arrays.getD r0.1.2.2.1.toNat Arr.z).name :: ([] : List ByteArray))), ((r0.2.1.arrays.getD r0.1.2.2.1.toNat Arr.z), ())))))
             else
             (j1 (((), ((), (r0.1.2.2.1, ((), ((r0.2.1.arrays.getD r0.1.2.2.1.toNat Arr.z).kind, ((decide ((r0.2.1.arrays.getD r0.1.2.2.1.toNat Arr.z).kind = (3 : Int))), ())))))), (r0.2.1, ((r0.2.2.1 ++ ((r0.2.1.arrays.getD r0.1.2.2.1.toNat Arr.z).name :: ([] : List ByteArray))), ((r0.2.1.arrays.getD r0.1.2.2.1.toNat Arr.z), ())))))))))))))))
   else
   (some (Sum.inr (Sum.inl (((), ((), ())), (r0.2.1, (r0.2.2.1, ()))))))))
def go45 (x0 : Fn) : (Option (Bool × Unit)) :=
 (callB (whileO (go45_l1) (((), ((), ((0 : Int), ()))), (x0, (([] : List ByteArray), ()))))
  (fun (z0 : (((Unit × (Unit × Unit)) × (Fn × ((List ByteArray) × Unit))) ⊕ ((Bool × Unit) × Unit))) => (sumO (fun (z1 : ((Unit × (Unit × Unit)) × (Fn × ((List ByteArray) × Unit)))) => (callB (whileO (go45_l2) (((), ((), ((0 : Int), ()))), (z1.2.1, (z1.2.2.1, ()))))
      (fun (z2 : (((Unit × (Unit × Unit)) × (Fn × ((List ByteArray) × Unit))) ⊕ ((Bool × Unit) × Unit))) => (sumO (fun (z3 : ((Unit × (Unit × Unit)) × (Fn × ((List ByteArray) × Unit)))) => (callB (whileO (go45_l3) (((), ((), ((0 : Int), ()))), (z3.2.1, (z3.2.2.1, ()))))
          (fun (z4 : (((Unit × Unit) × (Fn × Unit)) ⊕ ((Bool × Unit) × Unit))) => (sumO (fun (z5 : ((Unit × Unit) × (Fn × Unit))) => (bif (decide (((z5.2.1.arrays.length : Nat) : Int) <= (64 : Int))) then
              (some ((decide (((z5.2.1.streams.length : Nat) : Int) <= (64 : Int))), ()))
              else
              (some (false, ()))))
            (fun (z5 : ((Bool × Unit) × Unit)) => (some (z5.1.1, ()))) z4))))
        (fun (z3 : ((Bool × Unit) × Unit)) => (some (z3.1.1, ()))) z2))))
    (fun (z1 : ((Bool × Unit) × Unit)) => (some (z1.1.1, ()))) z0)))
theorem run45 (x0 : Fn) : runF (P := Try.prog) [c44, c92] Try.f45 ann45 [(0, (.st 6))] [] .b [] (x0, ()) () = go45 x0 := by kernel_rfl
def Sp.kindsOk (a : Arr) : Bool :=
 if a.kind = 0 \/ a.kind = 3 then decide (a.factor = 0) && !(decide (a.kind = 3) && decide (64 < a.len))
 else if a.kind = 1 \/ a.kind = 2 then !decide (a.factor < 1) && !decide ((if 64 < a.len then 64 else a.len) < a.factor) else false
def Sp.arrOk (a : Arr) : Bool := (Sp.right a.width && !decide (a.len < 1) && !decide (4096 < a.len)) && Sp.kindsOk a
def Fn.names (f : Fn) : List ByteArray := f.arrays.map Arr.name ++ f.streams.map Strm.name
def nameAt (l : List ByteArray) (i : Nat) : ByteArray := l.getD i ByteArray.empty
def Sp.nameOk (l : List ByteArray) (i : Nat) : Bool := Sp.ident (nameAt l i) && (List.range i).all fun k => !((nameAt l k).toList == (nameAt l i).toList)
def Sp.memOk (f : Fn) : Bool := f.arrays.all Sp.arrOk && (f.streams.all (fun s => Sp.right s.width) && ((List.range f.names.length).all (Sp.nameOk f.names) && (decide ((f.arrays.length : Int) <= 64) && decide ((f.streams.length : Int) <= 64))))
abbrev aNames (f : Fn) (i : Nat) : List ByteArray := (f.arrays.take i).map Arr.name
abbrev sNames (f : Fn) (i : Nat) : List ByteArray := f.arrays.map Arr.name ++ (f.streams.take i).map Strm.name
theorem arr_cases {β : Type} (a : Arr) (A B : β) : (bif Sp.right a.width then if a.len < 1 then B else if 4096 < a.len then B else if a.kind = 0 then (if a.factor = 0 then A else B) else if a.kind = 3 then (if a.factor = 0 then if 64 < a.len then B else A else B)
   else if a.kind = 1 then (if a.factor < 1 then B else if (if 64 < a.len then 64 else a.len) < a.factor then B else A) else if a.kind = 2 then (if a.factor < 1 then B else if (if 64 < a.len then 64 else a.len) < a.factor then B else A) else B else B) = if Sp.arrOk a = true then A else B := by
 unfold Sp.arrOk Sp.kindsOk
 cases Sp.right a.width
 ·simp
 ·simp only [cond_true, Bool.true_and]
  grind
theorem names_loop {f : Fn} {i : Nat} (hi : i < f.names.length) (hnl : f.names.length <= 281474976710656) : whileO go45_l4
  (((), (), (i : Int), 0, ()), f, f.names, ()) = some (if (List.range i).all (fun k => !((f.names.getD k ByteArray.empty).toList == (f.names.getD i ByteArray.empty).toList)) then .inl (((), (), (i : Int), ()), f, f.names, ()) else .inr ((false, ()), ())) := by
 unfold go45_l4
 refine whileO_all (l := List.range i) (st := fun k => (((), (), (i : Int), (k : Int), ()), f, f.names, ())) rfl 0 (fun k => !((f.names.getD k ByteArray.empty).toList == (f.names.getD i ByteArray.empty).toList)) (fun k hk hp => ?_) (fun k hk hp => ?_) (fun _ => ?_)
 ·rw [List.length_range] at hk
  rw [range_getD hk] at hp
  simp (maxSteps := 1000000) (disch := ((try dsimp only); omega)) only [↓gsA, gsB]
  rw [Bool.not_eq_true'] at hp
  rw [hp]
  simp (maxSteps := 1000000) (disch := ((try dsimp only); omega)) only [↓gsA, gsB]
 ·rw [List.length_range] at hk
  rw [range_getD hk] at hp
  simp (maxSteps := 1000000) (disch := ((try dsimp only); omega)) only [↓gsA, gsB]
  rw [Bool.not_eq_false'] at hp
  rw [hp]
  simp (maxSteps := 1000000) (disch := ((try dsimp only); omega)) only [↓gsA, gsB]
 ·rw [List.length_range]; simp (maxSteps := 1000000) (disch := ((try dsimp only); omega)) only [↓gsA, gsB]
theorem arrays_loop (f : Fn) (hf : f.ok) : whileO go45_l1 (((), (), 0, ()), f, [], ()) = some (if f.arrays.all Sp.arrOk then .inl (((), (), ()), f, aNames f f.arrays.length, ()) else .inr ((false, ()), ())) := by
 have ha : f.arrays.length * 48 <= 140737488351232 := hf.2.2.1.1
 unfold go45_l1 go45_j1 go45_j2 go45_j3
 refine whileO_all (l := f.arrays) (st := fun i => (((), (), (i : Int), ()), f, aNames f i, ())) rfl Arr.z Sp.arrOk (fun i hi hp => ?_) (fun i hi hp => ?_) (fun _ => ?_)
 ·have hlen : (aNames f i).length = i := by simp only [aNames, List.length_map, List.length_take]; omega
  have hnx : aNames f (i + 1) = aNames f i ++ [(f.arrays.getD i Arr.z).name] := by
   simp only [aNames]
   rw [List.take_succ_eq_append_getElem hi, List.map_append]
   simp [hi]
  simp (maxSteps := 1000000) (disch := ((try dsimp only); omega)) only [↓gsA, gsB]
  rw [hnx]
  exact (arr_cases _ _ _).trans (if_pos hp)
 ·have hlen : (aNames f i).length = i := by simp only [aNames, List.length_map, List.length_take]; omega
  simp (maxSteps := 1000000) (disch := ((try dsimp only); omega)) only [↓gsA, gsB]
  exact (arr_cases _ _ _).trans (if_neg (by rw [hp]; simp))
 ·simp (maxSteps := 1000000) (disch := ((try dsimp only); omega)) only [↓gsA, gsB]
theorem streams_loop (f : Fn) (hf : f.ok) : whileO go45_l2 (((), (), 0, ()), f, sNames f 0, ()) = some (if f.streams.all (fun s => Sp.right s.width) then .inl (((), (), ()), f, sNames f f.streams.length, ()) else .inr ((false, ()), ())) := by
 have ha : f.arrays.length * 48 <= 140737488351232 := hf.2.2.1.1
 have hs : f.streams.length * 32 <= 140737488351232 := hf.2.2.2.1.1
 unfold go45_l2
 refine whileO_all (l := f.streams) (st := fun i => (((), (), (i : Int), ()), f, sNames f i, ())) rfl Strm.z (fun s => Sp.right s.width) (fun i hi hp => ?_) (fun i hi hp => ?_) (fun _ => ?_)
 ·have hlen : (sNames f i).length = f.arrays.length + i := by simp only [sNames, List.length_append, List.length_map, List.length_take]; omega
  have hnx : sNames f (i + 1) = sNames f i ++ [(f.streams.getD i Strm.z).name] := by
   simp only [sNames]
   rw [show f.streams.take (i + 1) = f.streams.take i ++ [f.streams.getD i Strm.z] by rw [List.take_succ_eq_append_getElem hi]; simp [List.getD_eq_getElem?_getD, hi], List.map_append, List.append_assoc]
   rfl
  simp (maxSteps := 1000000) (disch := ((try dsimp only); omega)) only [↓gsA, gsB]
  rw [hp, hnx]
  simp (maxSteps := 1000000) (disch := ((try dsimp only); omega)) only [↓gsA, gsB]
 ·have hlen : (sNames f i).length = f.arrays.length + i := by simp only [sNames, List.length_append, List.length_map, List.length_take]; omega
  simp (maxSteps := 1000000) (disch := ((try dsimp only); omega)) only [↓gsA, gsB]
  rw [hp]; rfl
 ·simp (maxSteps := 1000000) (disch := ((try dsimp only); omega)) only [↓gsA, gsB]
theorem names_ok {f : Fn} (hf : f.ok) : f.names.length <= 281474976710656 /\ ∀ i, i < f.names.length -> (f.names.getD i ByteArray.empty).size <= 9223372036854775807 := by
 have ha : f.arrays.length * 48 <= 140737488351232 := hf.2.2.1.1
 have hs : f.streams.length * 32 <= 140737488351232 := hf.2.2.2.1.1
 refine ⟨by simp only [Fn.names, List.length_append, List.length_map]; omega, fun i hi => ?_⟩
 have hm : f.names.getD i ByteArray.empty ∈ f.names := by simp [List.getD_eq_getElem?_getD, hi]
 rcases List.mem_append.1 (show f.names.getD i ByteArray.empty ∈ f.arrays.map Arr.name ++ f.streams.map Strm.name from hm) with h | h
 all_goals obtain ⟨x, hx, e⟩ := List.mem_map.1 h
 ·rw [<- e]; exact (hf.2.2.1.2 x hx).1
 ·rw [<- e]; exact (hf.2.2.2.1.2 x hx).1
theorem all_names_loop (f : Fn) (hf : f.ok) : whileO go45_l3 (((), (), 0, ()), f, f.names, ()) = some (if (List.range f.names.length).all (Sp.nameOk f.names) then .inl (((), ()), f, ()) else .inr ((false, ()), ())) := by
 obtain ⟨hnl, hstr⟩ := names_ok hf
 unfold go45_l3
 refine whileO_all (l := List.range f.names.length) (st := fun i => (((), (), (i : Int), ()), f, f.names, ())) rfl 0 (Sp.nameOk f.names) (fun i hi hp => ?_) (fun i hi hp => ?_) (fun _ => ?_)
 ·rw [List.length_range] at hi
  rw [range_getD hi] at hp
  simp only [Sp.nameOk, nameAt, Bool.and_eq_true] at hp
  simp (maxSteps := 1000000) (disch := ((try dsimp only); omega)) only [↓gsA, gsB]
  rw [grd_ok (hstr i hi), hp.1]
  simp (maxSteps := 1000000) (disch := ((try dsimp only); omega)) only [↓gsA, gsB]
  refine callB_of (names_loop hi hnl) ?_
  rw [if_pos hp.2]
  simp (maxSteps := 1000000) (disch := ((try dsimp only); omega)) only [↓gsA, gsB]
 ·rw [List.length_range] at hi
  rw [range_getD hi] at hp
  simp only [Sp.nameOk, nameAt, Bool.and_eq_false_iff] at hp
  simp (maxSteps := 1000000) (disch := ((try dsimp only); omega)) only [↓gsA, gsB]
  rw [grd_ok (hstr i hi)]
  cases hid : Sp.ident (f.names.getD i ByteArray.empty) with
  | false => rfl
  | true =>
   rw [hid] at hp
   have hp := hp.resolve_left (by simp)
   simp (maxSteps := 1000000) (disch := ((try dsimp only); omega)) only [↓gsA, gsB]
   refine callB_of (names_loop hi hnl) ?_
   rw [if_neg (by rw [hp]; simp)]
   simp (maxSteps := 1000000) (disch := ((try dsimp only); omega)) only [↓gsA, gsB]
 ·rw [List.length_range]; simp (maxSteps := 1000000) (disch := ((try dsimp only); omega)) only [↓gsA, gsB]
theorem ok45 (f : Fn) (hf : f.ok) : go45 f = some (Sp.memOk f, ()) := by
 unfold go45
 refine callB_of (arrays_loop f hf) ?_
 cases hall : f.arrays.all Sp.arrOk with
 | false => simp [Sp.memOk, hall]
 | true =>
  rw [if_pos rfl]
  simp (maxSteps := 1000000) (disch := ((try dsimp only); omega)) only [↓gsA, gsB]
  rw [show aNames f f.arrays.length = sNames f 0 by simp [aNames, sNames]]
  refine callB_of (streams_loop f hf) ?_
  cases hall2 : f.streams.all (fun s => Sp.right s.width) with
  | false => simp [Sp.memOk, hall2]
  | true =>
   rw [if_pos rfl]
   simp (maxSteps := 1000000) (disch := ((try dsimp only); omega)) only [↓gsA, gsB]
   rw [show sNames f f.streams.length = f.names by simp [Fn.names, sNames]]
   refine callB_of (all_names_loop f hf) ?_
   cases hall3 : (List.range f.names.length).all (Sp.nameOk f.names) with
   | false => simp [Sp.memOk, hall3]
   | true =>
    rw [if_pos rfl]
    simp (maxSteps := 1000000) (disch := ((try dsimp only); omega)) only [↓gsA, gsB]
    simp only [Sp.memOk, hall, hall2, hall3, Bool.true_and]
    by_cases h : (f.arrays.length : Int) <= 64 <;> simp [h]
def c45 : Ctr Try.prog := mkCtr 45 Try.f45 Try.func45 [c44, c92] ann45 [(0, (.st 6))] [] .b [] (fun x _ => grd (okB x.1.ok) (some (Sp.memOk x.1, ()))) (fun x _ r h => FO (run45 x.1) (ok45 x.1) h)
end
end Go.Abs
namespace Go.Abs
open Go Go.Proofs
noncomputable section
def ann51 : Ann := (.seq .o (.seq .o (.join ⟨[(2, (.fz .bool)), (3, (.ptr 0 0)), (4, (.ptr 1 0)), (7, (.i .i64))], [(.box 30 (.st 6)), (.box 39 (.st 2))]⟩ (.seq .o (.block (.seq .o (.cond .o (.seq .o (.cond .o (.seq .o (.cond (.join ⟨[(2, (.fz .bool)), (3, (.ptr 0 0)), (4, (.ptr 1 0)), (7, (.i .i64))], [(.box 30 (.st 6)), (.box 39 (.st 2))]⟩ (.seq .o (.cond (.seq .o .o) .o)) (.seq .o (.block (.loop ⟨[(2, (.fz .bool)), (3, (.ptr 0 0)), (4, (.ptr 1 0)), (7, (.i .i64)), (8, (.i .i64))], [(.box 30 (.st 6)), (.box 39 (.st 2))]⟩ [((.exit 1), ⟨[(2, (.fz .bool)), (3, (.ptr 0 0)), (4, (.ptr 1 0)), (7, (.i .i64))], [(.box 30 (.st 6)), (.box 39 (.st 2))]⟩), (.ret, ⟨[(6, .b)], []⟩)] (.join ⟨[(2, (.fz .bool)), (3, (.ptr 0 0)), (4, (.ptr 1 0)), (7, (.i .i64)), (8, (.i .i64))], [(.box 30 (.st 6)), (.box 39 (.st 2))]⟩ (.seq .o (.cond .o .o)) (.join ⟨[(2, (.fz .bool)), (3, (.ptr 0 0)), (4, (.ptr 1 0)), (7, (.i .i64)), (8, (.i .i64))], [(.box 30 (.st 6)), (.box 39 (.st 2))]⟩ (.block (.seq .o (.cond (.seq .o .o) .o))) .o)))))) (.seq .o .o))))))))) (.join ⟨[(2, (.fz .bool)), (3, (.ptr 0 0)), (4, (.ptr 1 0))], [(.box 30 (.st 6)), (.box 39 (.st 2))]⟩ (.seq .o (.cond (.seq .o .o) .o)) (.join ⟨[(2, (.fz .bool)), (3, (.ptr 0 0)), (4, (.ptr 1 0))], [(.box 30 (.st 6)), (.box 39 (.st 2))]⟩ (.seq .o (.cond (.seq .o (.cond (.seq .o .o) .o)) (.seq .o (.cond (.seq .o .o) .o)))) (.join ⟨[], []⟩ (.seq .o (.block (.loop ⟨[(2, (.fz .bool)), (3, (.ptr 0 0)), (4, (.ptr 1 0)), (9, (.i .i64))], [(.box 30 (.st 6)), (.box 39 (.st 2))]⟩ [((.exit 3), ⟨[], []⟩), (.ret, ⟨[(6, .b)], []⟩)] (.join ⟨[(2, (.fz .bool)), (3, (.ptr 0 0)), (4, (.ptr 1 0)), (9, (.i .i64))], [(.box 30 (.st 6)), (.box 39 (.st 2))]⟩ (.seq .o (.cond .o .o)) (.join ⟨[(2, (.fz .bool)), (3, (.ptr 0 0)), (4, (.ptr 1 0)), (9, (.i .i64))], [(.box 30 (.st 6)), (.box 39 (.st 2))]⟩ (.block (.seq .o (.cond (.seq .o .o) .o))) .o))))) (.seq .o .o)))))))
def go51_l2 : (((List Bool) × (Unit × (Unit × (Int × (Int × Unit))))) × (Fn × (Term × Unit))) -> Option ((((List Bool) × (Unit × (Unit × (Int × (Int × Unit))))) × (Fn × (Term × Unit))) ⊕ ((((List Bool) × (Unit × (Unit × (Int × Unit)))) × (Fn × (Term × Unit))) ⊕ ((Bool × Unit) × Unit))) := (fun (r1 : (((List Bool) × (Unit × (Unit × (Int × (Int × Unit))))) × (Fn × (Term × Unit)))) => (bif (decide (r1.1.2.2.2.2.1 < ((r1.2.2.1.rets.length : Nat) : Int))) then
   (grd (okB (((0 : Int) <= r1.1.2.2.2.2.1) /\ (r1.1.2.2.2.2.1 < ((r1.2.2.1.rets.length : Nat) : Int))))
    (grd (okB (((0 : Int) <= (r1.2.2.1.rets.getD r1.1.2.2.2.2.1.toNat (0 : Int))) /\ ((r1.2.2.1.rets.getD r1.1.2.2.2.2.1.toNat (0 : Int)) < ((r1.2.1.widths.length : Nat) : Int))))
     (grd (okB (((0 : Int) <= r1.1.2.2.2.2.1) /\ (r1.1.2.2.2.2.1 < ((r1.2.1.rets.length : Nat) : Int))))
      (bif (!(decide ((r1.2.1.widths.getD (r1.2.2.1.rets.getD r1.1.2.2.2.2.1.toNat (0 : Int)).toNat (0 : Int)) = (r1.2.1.rets.getD r1.1.2.2.2.2.1.toNat (0 : Int))))) then
       (some (Sum.inr (Sum.inr ((false, ()), ()))))
       else
       (grd (okB (((-(9223372036854775808 : Int)) <= (r1.1.2.2.2.2.1 + (1 : Int))) /\ ((r1.1.2.2.2.2.1 + (1 : Int)) <= (9223372036854775807 : Int))))
        (some (Sum.inl ((r1.1.1, ((), ((), (r1.1.2.2.2.1, ((r1.1.2.2.2.2.1 + (1 : Int)), ()))))), (r1.2.1, (r1.2.2.1, ()))))))))))
   else
   (some (Sum.inr (Sum.inl ((r1.1.1, ((), ((), (r1.1.2.2.2.1, ())))), (r1.2.1, (r1.2.2.1, ()))))))))
def go51_l1 : (((List Bool) × (Unit × (Unit × (Int × Unit)))) × (Fn × (Term × Unit))) -> Option ((((List Bool) × (Unit × (Unit × (Int × Unit)))) × (Fn × (Term × Unit))) ⊕ ((Unit × Unit) ⊕ ((Bool × Unit) × Unit))) := (fun (r0 : (((List Bool) × (Unit × (Unit × (Int × Unit)))) × (Fn × (Term × Unit)))) => (bif (decide (r0.1.2.2.2.1 < ((r0.2.2.1.to.length : Nat) : Int))) then
   (grd (okB (((0 : Int) <= r0.1.2.2.2.1) /\ (r0.1.2.2.2.1 < ((r0.2.2.1.to.length : Nat) : Int))))
    (callB (grd (okB ((Fn.ok r0.2.1) /\ ((Edge.ok (r0.2.2.1.to.getD r0.1.2.2.2.1.toNat Edge.z)) /\ (r0.1.1.length = r0.2.1.widths.length))))
      (some ((Sp.edgeOk r0.2.1 (r0.2.2.1.to.getD r0.1.2.2.2.1.toNat Edge.z) r0.1.1), ())))
     (fun (r1 : (Bool × Unit)) => (bif (!r1.1) then
       (some (Sum.inr (Sum.inr ((false, ()), ()))))
       else
       (grd (okB (((-(9223372036854775808 : Int)) <= (r0.1.2.2.2.1 + (1 : Int))) /\ ((r0.1.2.2.2.1 + (1 : Int)) <= (9223372036854775807 : Int))))
        (some (Sum.inl ((r0.1.1, ((), ((), ((r0.1.2.2.2.1 + (1 : Int)), ())))), (r0.2.1, (r0.2.2.1, ()))))))))))
   else
   (some (Sum.inr (Sum.inl ((), ()))))))
def go51_j3 : (((List Bool) × (Unit × (Unit × Unit))) × (Fn × (Term × Unit))) -> Option (Bool × Unit) := (fun (z2 : (((List Bool) × (Unit × (Unit × Unit))) × (Fn × (Term × Unit)))) => (callB (whileO (go51_l1) ((z2.1.1, ((), ((), ((0 : Int), ())))), (z2.2.1, (z2.2.2.1, ()))))
   (fun (z3 : ((Unit × Unit) ⊕ ((Bool × Unit) × Unit))) => (sumO (fun (z4 : (Unit × Unit)) => (some (true, ())))
     (fun (z4 : ((Bool × Unit) × Unit)) => (some (z4.1.1, ()))) z3))))
def go51_j2 : (((List Bool) × (Unit × (Unit × Unit))) × (Fn × (Term × Unit))) -> Option (Bool × Unit) := (fun (z1 : (((List Bool) × (Unit × (Unit × Unit))) × (Fn × (Term × Unit)))) => (jpO (go51_j3)
   (fun (j0 : ((((List Bool) × (Unit × (Unit × Unit))) × (Fn × (Term × Unit))) -> (Option (Bool × Unit)))) => (bif (decide (z1.2.2.1.kind = (2 : Int))) then
     (callB (grd (okB ((1 <= LEN) /\ (z1.1.1.length = z1.2.1.widths.length)))
       (some ((Sp.used z1.2.1 (z1.2.2.1.cond :: ([] : List Int)) z1.1.1), ())))
      (fun (r0 : (Bool × Unit)) => (bif (!r0.1) then
        (some (false, ()))
        else
        (grd (okB (((0 : Int) <= z1.2.2.1.cond) /\ (z1.2.2.1.cond < ((z1.2.1.widths.length : Nat) : Int))))
         (bif (!(decide ((z1.2.1.widths.getD z1.2.2.1.cond.toNat (0 : Int)) = (1 : Int)))) then
          (some (false, ()))
          else
          (j0 ((z1.1.1, ((), ((), ()))), (z1.2.1, (z1.2.2.1, ())))))))))
     else
     (bif (!(decide (z1.2.2.1.cond = (-(1 : Int))))) then
      (some (false, ()))
      else
      (j0 ((z1.1.1, ((), ((), ()))), (z1.2.1, (z1.2.2.1, ())))))))))
def go51_j1 : (((List Bool) × (Unit × (Unit × (Int × Unit)))) × (Fn × (Term × Unit))) -> Option (Bool × Unit) := (fun (z0 : (((List Bool) × (Unit × (Unit × (Int × Unit)))) × (Fn × (Term × Unit)))) => (jpO (go51_j2)
   (fun (j0 : ((((List Bool) × (Unit × (Unit × Unit))) × (Fn × (Term × Unit))) -> (Option (Bool × Unit)))) => (bif (!(decide (((z0.2.2.1.to.length : Nat) : Int) = z0.1.2.2.2.1))) then
     (some (false, ()))
     else
     (bif (!(decide (z0.2.2.1.kind = (3 : Int)))) then
      (bif (decide ((0 : Int) < ((z0.2.2.1.rets.length : Nat) : Int))) then
       (some (false, ()))
       else
       (j0 ((z0.1.1, ((), ((), ()))), (z0.2.1, (z0.2.2.1, ())))))
      else
      (j0 ((z0.1.1, ((), ((), ()))), (z0.2.1, (z0.2.2.1, ())))))))))
def go51 (x0 : Fn) (x1 : Term) (x2 : (List Bool)) : (Option (Bool × Unit)) :=
 (jpO (go51_j1)
  (fun (j0 : ((((List Bool) × (Unit × (Unit × (Int × Unit)))) × (Fn × (Term × Unit))) -> (Option (Bool × Unit)))) => (bif (decide (x1.kind = (1 : Int))) then
    (j0 ((x2, ((), ((), ((1 : Int), ())))), (x0, (x1, ()))))
    else
    (bif (decide (x1.kind = (2 : Int))) then
     (j0 ((x2, ((), ((), ((2 : Int), ())))), (x0, (x1, ()))))
     else
     (bif (decide (x1.kind = (3 : Int))) then
      (bif (!(decide (((x1.rets.length : Nat) : Int) = ((x0.rets.length : Nat) : Int)))) then
       (some (false, ()))
       else
       (callB (grd (okB ((x1.rets.length <= LEN) /\ (x2.length = x0.widths.length)))
         (some ((Sp.used x0 x1.rets x2), ())))
        (fun (r0 : (Bool × Unit)) => (bif (!r0.1) then
          (some (false, ()))
          else
          (callB (whileO (go51_l2) ((x2, ((), ((), ((0 : Int), ((0 : Int), ()))))), (x0, (x1, ()))))
           (fun (z0 : ((((List Bool) × (Unit × (Unit × (Int × Unit)))) × (Fn × (Term × Unit))) ⊕ ((Bool × Unit) × Unit))) => (sumO (fun (z1 : (((List Bool) × (Unit × (Unit × (Int × Unit)))) × (Fn × (Term × Unit)))) => (j0 ((z1.1.1, ((), ((), (z1.1.2.2.2.1, ())))), (z1.2.1, (z1.2.2.1, ())))))
             (fun (z1 : ((Bool × Unit) × Unit)) => (some (z1.1.1, ()))) z0)))))))
      else
      (some (false, ())))))))
theorem run51 (x0 : Fn) (x1 : Term) (x2 : (List Bool)) : runF (P := Try.prog) [c48, c95] Try.f51 ann51 [(0, (.st 6)), (1, (.st 2)), (2, (.fz .bool))] [] .b [] (x0, (x1, (x2, ()))) () = go51 x0 x1 x2 := by kernel_rfl
def Sp.retP (f : Fn) (rets : List Int) (i : Nat) : Bool := decide (f.widths.getD (rets.getD i 0).toNat 0 = f.rets.getD i 0)
def Sp.kindOk (f : Fn) (t : Term) (known : List Bool) : Bool :=
 if t.kind = 1 \/ t.kind = 2 then true else if t.kind = 3 then decide ((t.rets.length : Int) = f.rets.length) && Sp.used f t.rets known && (List.range t.rets.length).all (Sp.retP f t.rets) else false
def Sp.sizeOfKind (k : Int) : Int := if k = 1 then 1 else if k = 2 then 2 else 0
def Sp.condOk (f : Fn) (t : Term) (known : List Bool) : Bool :=
 if t.kind = 2 then Sp.used f [t.cond] known && decide (f.widths.getD t.cond.toNat 0 = 1) else decide (t.cond = -1)
def Sp.termOk (f : Fn) (t : Term) (known : List Bool) : Bool :=
 Sp.kindOk f t known && (decide ((t.to.length : Int) = Sp.sizeOfKind t.kind) && (decide (t.kind = 3) || decide ((t.rets.length : Int) <= 0))) && Sp.condOk f t known && t.to.all (fun e => Sp.edgeOk f e known)
section
variable {f : Fn} {t : Term} {known : List Bool}
theorem j3_51 (hf : f.ok) (ht : t.ok) (hk : known.length = f.widths.length) : go51_j3 ((known, (), (), ()), f, t, ()) = some (t.to.all (fun e => Sp.edgeOk f e known), ()) := by
 have htt : t.to.length <= LEN := ht.2.2.1.len
 rw [lenVal] at htt
 unfold go51_j3 go51_l1
 refine callB_of (whileO_all (l := t.to) (st := fun i => ((known, (), (), (i : Int), ()), f, t, ())) rfl Edge.z (fun e => Sp.edgeOk f e known) (A := .inl ((), ())) (B := .inr ((false, ()), ())) (fun i hi hp => ?_) (fun i hi hp => ?_) (fun _ => ?_)) ?_
 ·have he : (t.to.getD i Edge.z).ok := getD_ok ht.2.2.1 _ hi
  simp (maxSteps := 1000000) (disch := ((try dsimp only); omega)) only [↓gsA, gsB]
  rw [grd_ok ⟨hf, he, hk⟩, hp]
  simp (maxSteps := 1000000) (disch := ((try dsimp only); omega)) only [↓gsA, gsB]
 ·have he : (t.to.getD i Edge.z).ok := getD_ok ht.2.2.1 _ hi
  simp (maxSteps := 1000000) (disch := ((try dsimp only); omega)) only [↓gsA, gsB]
  rw [grd_ok ⟨hf, he, hk⟩, hp]
  rfl
 ·simp (maxSteps := 1000000) (disch := ((try dsimp only); omega)) only [↓gsA, gsB]
 ·cases t.to.all (fun e => Sp.edgeOk f e known) <;> rfl
theorem j2_51 (hf : f.ok) (ht : t.ok) (hk : known.length = f.widths.length) : go51_j2 ((known, (), (), ()), f, t, ()) = some (Sp.condOk f t known && t.to.all (fun e => Sp.edgeOk f e known), ()) := by
 unfold go51_j2 Sp.condOk
 simp (maxSteps := 1000000) (disch := ((try dsimp only); omega)) only [↓gsA, gsB]
 rw [j3_51 hf ht hk]
 by_cases h : t.kind = 2
 ·rw [if_pos h, if_pos h, grd_ok ⟨by simp [LEN], hk⟩]
  cases hu : Sp.used f [t.cond] known with
  | false => rfl
  | true =>
   have h2 := used_get hu (i := 0) (by simp)
   simp only [List.getD_cons_zero] at h2
   obtain ⟨h2, h3, -⟩ := h2
   simp (maxSteps := 1000000) (disch := ((try dsimp only); omega)) only [↓gsA, gsB]
   by_cases h4 : f.widths.getD t.cond.toNat 0 = 1
   ·rw [if_pos h4, decide_eq_true h4]; rfl
   ·rw [if_neg h4, decide_eq_false h4]; rfl
 ·rw [if_neg h, if_neg h]
  by_cases h4 : t.cond = -1
  ·rw [if_pos h4, decide_eq_true h4]; rfl
  ·rw [if_neg h4, decide_eq_false h4]; rfl
theorem j1_51 (hf : f.ok) (ht : t.ok) (hk : known.length = f.widths.length) (z : Int) : go51_j1 ((known, (), (), z, ()), f, t, ()) =
  some ((decide ((t.to.length : Int) = z) && (decide (t.kind = 3) || decide ((t.rets.length : Int) <= 0))) && Sp.condOk f t known && t.to.all (fun e => Sp.edgeOk f e known), ()) := by
 unfold go51_j1
 simp (maxSteps := 1000000) (disch := ((try dsimp only); omega)) only [↓gsA, gsB]
 rw [j2_51 hf ht hk]
 have e3 : decide ((t.rets.length : Int) <= 0) = !decide (0 < (t.rets.length : Int)) := by rw [<- decide_not]; exact decide_eq_decide.2 (by omega)
 rw [e3]
 by_cases h1 : (t.to.length : Int) = z <;> by_cases h2 : t.kind = 3 <;> by_cases h3 : 0 < (t.rets.length : Int) <;> simp only [h1, h2, h3, if_true, if_false, decide_true, decide_false] <;> rfl
theorem ok51 (f : Fn) (t : Term) (known : List Bool) (h : f.ok /\ t.ok /\ known.length = f.widths.length) : go51 f t known = some (Sp.termOk f t known, ()) := by
 obtain ⟨hf, ht, hk⟩ := h
 have htr : t.rets.length <= LEN := ht.2.2.2.len
 have hfr : f.rets.length <= LEN := hf.2.2.2.2.1.len
 have htr' := htr
 rw [lenVal] at htr' hfr
 unfold go51
 rw [grd_ok ⟨htr, hk⟩]
 simp (maxSteps := 1000000) (disch := ((try dsimp only); omega)) only [↓gsA, gsB]
 simp only [j1_51 hf ht hk]
 by_cases h1 : t.kind = 1
 ·simp [h1, Sp.termOk, Sp.kindOk, Sp.sizeOfKind]
 by_cases h2 : t.kind = 2
 ·simp [h2, Sp.termOk, Sp.kindOk, Sp.sizeOfKind]
 by_cases h3 : t.kind = 3
 rotate_left
 ·simp [h1, h2, h3, Sp.termOk, Sp.kindOk]
 rw [if_neg h1, if_neg h2, if_pos h3]
 by_cases h4 : (t.rets.length : Int) = f.rets.length
 rotate_left
 ·rw [if_neg h4]
  simp [Sp.termOk, Sp.kindOk, h1, h2, h3, h4]
 rw [if_pos h4]
 cases hu : Sp.used f t.rets known with
 | false => simp [Sp.termOk, Sp.kindOk, h1, h2, h3, hu]
 | true =>
  simp (maxSteps := 1000000) (disch := ((try dsimp only); omega)) only [↓gsA, gsB]
  unfold go51_l2
  refine callB_of (whileO_all (l := List.range t.rets.length) (st := fun i => ((known, (), (), 0, (i : Int), ()), f, t, ())) rfl 0 (Sp.retP f t.rets) (A := .inl ((known, (), (), 0, ()), f, t, ())) (B := .inr ((false, ()), ())) (fun i hi hp => ?_) (fun i hi hp => ?_) (fun _ => ?_)) ?_
  ·rw [List.length_range] at hi
   rw [range_getD hi] at hp
   have hp := of_decide_eq_true hp
   obtain ⟨u1, u2, -⟩ := used_get hu (i := i) hi
   simp (maxSteps := 1000000) (disch := ((try dsimp only); omega)) only [↓gsA, gsB]
  ·rw [List.length_range] at hi
   rw [range_getD hi] at hp
   have hp := of_decide_eq_false hp
   obtain ⟨u1, u2, -⟩ := used_get hu (i := i) hi
   simp (maxSteps := 1000000) (disch := ((try dsimp only); omega)) only [↓gsA, gsB]
  ·rw [List.length_range]; simp (maxSteps := 1000000) (disch := ((try dsimp only); omega)) only [↓gsA, gsB]
  ·have hK : Sp.kindOk f t known = (List.range t.rets.length).all (Sp.retP f t.rets) := by simp [Sp.kindOk, h3, h4, hu]
   simp only [Sp.termOk, hK]
   cases (List.range t.rets.length).all (Sp.retP f t.rets) with
   | false => rfl
   | true =>
    rw [if_pos rfl]
    simp (maxSteps := 1000000) (disch := ((try dsimp only); omega)) only [↓gsA, gsB]
    have e : Sp.sizeOfKind t.kind = 0 := by simp [Sp.sizeOfKind, h1, h2]
    rw [j1_51 hf ht hk, e]
    rfl
end
def c51 : Ctr Try.prog := mkCtr 51 Try.f51 Try.func51 [c48, c95] ann51 [(0, (.st 6)), (1, (.st 2)), (2, (.fz .bool))] [] .b [] (fun x _ => grd (okB (x.1.ok /\ x.2.1.ok /\ x.2.2.1.length = x.1.widths.length)) (some (Sp.termOk x.1 x.2.1 x.2.2.1, ()))) (fun x _ r h => FO (run51 x.1 x.2.1 x.2.2.1) (ok51 x.1 x.2.1 x.2.2.1) h)
end
end Go.Abs
namespace Go.Abs
open Go Go.Proofs
noncomputable section
def ann50 : Ann := (.seq .o (.join ⟨[(2, (.ptr 0 0)), (3, (.ptr 1 0))], [(.box 30 (.st 6)), (.box 46 (.st 0))]⟩ (.seq .o (.cond (.seq .o .o) .o)) (.join ⟨[(2, (.ptr 0 0)), (3, (.ptr 1 0)), (5, .b)], [(.box 30 (.st 6)), (.box 46 (.st 0))]⟩ .o (.join ⟨[(2, (.ptr 0 0)), (3, (.ptr 1 0)), (5, .b)], [(.box 30 (.st 6)), (.box 46 (.st 0))]⟩ (.seq .o (.cond (.seq .o .o) .o)) (.seq .o (.join ⟨[(2, (.ptr 0 0)), (3, (.ptr 1 0)), (5, .b), (6, (.i .i64))], [(.box 30 (.st 6)), (.box 46 (.st 0))]⟩ (.seq .o (.cond .o .o)) (.seq .o (.join ⟨[(2, (.ptr 0 0)), (3, (.ptr 1 0)), (5, .b), (6, (.i .i64)), (7, (.full 2))], [(.box 30 (.st 6)), (.box 46 (.st 0)), (.lst 3 (.int .i64))]⟩ (.seq .o (.block (.loop ⟨[(2, (.ptr 0 0)), (3, (.ptr 1 0)), (5, .b), (6, (.i .i64)), (7, (.full 2)), (8, (.i .i64))], [(.box 30 (.st 6)), (.box 46 (.st 0)), (.lst 3 (.int .i64))]⟩ [((.exit 0), ⟨[(2, (.ptr 0 0)), (3, (.ptr 1 0)), (5, .b), (6, (.i .i64)), (7, (.full 2))], [(.box 30 (.st 6)), (.box 46 (.st 0)), (.lst 3 (.int .i64))]⟩)] (.join ⟨[(2, (.ptr 0 0)), (3, (.ptr 1 0)), (5, .b), (6, (.i .i64)), (7, (.full 2)), (8, (.i .i64))], [(.box 30 (.st 6)), (.box 46 (.st 0)), (.lst 3 (.int .i64))]⟩ (.seq .o (.cond .o .o)) (.join ⟨[(2, (.ptr 0 0)), (3, (.ptr 1 0)), (5, .b), (6, (.i .i64)), (7, (.full 2)), (8, (.i .i64))], [(.box 30 (.st 6)), (.box 46 (.st 0)), (.lst 3 (.int .i64))]⟩ (.block .o) .o))))) (.seq .o (.join ⟨[(3, (.ptr 0 0)), (6, (.i .i64)), (7, (.full 1)), (9, (.i .i64))], [(.box 46 (.st 0)), (.lst 3 (.int .i64))]⟩ (.join ⟨[(2, (.ptr 0 0)), (3, (.ptr 1 0)), (5, .b), (6, (.i .i64)), (7, (.full 2)), (9, (.i .i64)), (69, .b)], [(.box 30 (.st 6)), (.box 46 (.st 0)), (.lst 3 (.int .i64))]⟩ .o (.cond (.join ⟨[(2, (.ptr 0 0)), (3, (.ptr 1 0)), (6, (.i .i64)), (7, (.full 2))], [(.box 30 (.st 6)), (.box 46 (.st 0)), (.lst 3 (.int .i64))]⟩ (.seq .o (.cond (.seq .o .o) .o)) .o) (.seq .o (.cond (.join ⟨[(2, (.ptr 0 0)), (3, (.ptr 1 0)), (6, (.i .i64)), (7, (.full 2))], [(.box 30 (.st 6)), (.box 46 (.st 0)), (.lst 3 (.int .i64))]⟩ (.seq .o (.cond (.seq .o .o) .o)) .o) .o)))) (.join ⟨[(3, (.ptr 0 0)), (6, (.i .i64)), (7, (.full 1))], [(.box 46 (.st 0)), (.lst 3 (.int .i64))]⟩ (.seq .o (.block (.seq .o (.cond (.seq .o .o) (.seq .o (.cond (.seq .o .o) (.join ⟨[(3, (.ptr 0 0)), (6, (.i .i64)), (7, (.full 1)), (9, (.i .i64)), (121, (.i .i64)), (151, .b)], [(.box 46 (.st 0)), (.lst 3 (.int .i64))]⟩ (.seq .o (.cond .o .o)) (.cond (.seq .o .o) (.seq .o (.cond (.seq .o .o) (.seq .o (.cond (.seq .o .o) (.seq .o (.cond (.seq .o .o) (.seq .o (.cond (.seq .o .o) (.seq .o (.cond (.seq .o .o) .o)))))))))))))))))) (.join ⟨[(6, (.i .i64)), (7, (.full 0))], [(.lst 3 (.int .i64))]⟩ (.seq .o (.cond (.seq .o .o) .o)) (.seq .o .o)))))))))))))
def go50_j7 (j0 : (((Unit × (Int × (Unit × (Int × Unit)))) × (Inst × ((List Int) × Unit))) -> (Option (Bool × Unit)))) : ((Unit × (Unit × (Bool × (Int × (Unit × (Int × (Bool × Unit))))))) × (Fn × (Inst × ((List Int) × Unit)))) -> Option (Bool × Unit) := (fun (z5 : ((Unit × (Unit × (Bool × (Int × (Unit × (Int × (Bool × Unit))))))) × (Fn × (Inst × ((List Int) × Unit))))) => (bif z5.1.2.2.2.2.2.2.1 then
   (bif (decide (z5.2.2.1.mem < (0 : Int))) then
    (some (false, ()))
    else
    (bif (decide (((z5.2.1.arrays.length : Nat) : Int) <= z5.2.2.1.mem)) then
     (some (false, ()))
     else
     (grd (okB (((0 : Int) <= z5.2.2.1.mem) /\ (z5.2.2.1.mem < ((z5.2.1.arrays.length : Nat) : Int))))
      (j0 (((), (z5.1.2.2.2.1, ((), ((z5.2.1.arrays.getD z5.2.2.1.mem.toNat Arr.z).width, ())))), (z5.2.2.1, (z5.2.2.2.1, ())))))))
   else
   (bif z5.1.2.2.1 then
    (bif (decide (z5.2.2.1.mem < (0 : Int))) then
     (some (false, ()))
     else
     (bif (decide (((z5.2.1.streams.length : Nat) : Int) <= z5.2.2.1.mem)) then
      (some (false, ()))
      else
      (grd (okB (((0 : Int) <= z5.2.2.1.mem) /\ (z5.2.2.1.mem < ((z5.2.1.streams.length : Nat) : Int))))
       (bif (!((z5.2.1.streams.getD z5.2.2.1.mem.toNat Strm.z).out == (decide (z5.2.2.1.op = (28 : Int))))) then
        (some (false, ()))
        else
        (grd (okB (((0 : Int) <= z5.2.2.1.mem) /\ (z5.2.2.1.mem < ((z5.2.1.streams.length : Nat) : Int))))
         (j0 (((), (z5.1.2.2.2.1, ((), ((z5.2.1.streams.getD z5.2.2.1.mem.toNat Strm.z).width, ())))), (z5.2.2.1, (z5.2.2.2.1, ())))))))))
    else
    (j0 (((), (z5.1.2.2.2.1, ((), (z5.1.2.2.2.2.2.1, ())))), (z5.2.2.1, (z5.2.2.2.1, ())))))))
def go50_j6 : ((Unit × (Int × (Unit × (Int × (Int × (Bool × Unit)))))) × (Inst × ((List Int) × Unit))) -> Option (Bool × Unit) := (fun (z6 : ((Unit × (Int × (Unit × (Int × (Int × (Bool × Unit)))))) × (Inst × ((List Int) × Unit)))) => (bif z6.1.2.2.2.2.2.1 then
   (grd (okB (((0 : Int) <= (0 : Int)) /\ ((0 : Int) < ((z6.2.2.1.length : Nat) : Int))))
    (grd (Nat.blt (0 : Int).toNat z6.2.2.1.length)
     (some ((decide ((z6.2.2.1.getD (0 : Int).toNat (0 : Int)) < z6.1.2.1)), ()))))
   else
   (bif (decide (z6.1.2.2.2.2.1 = (24 : Int))) then
    (grd (okB (((0 : Int) <= (0 : Int)) /\ ((0 : Int) < ((z6.2.2.1.length : Nat) : Int))))
     (grd (Nat.blt (0 : Int).toNat z6.2.2.1.length)
      (some ((decide (z6.1.2.1 < (z6.2.2.1.getD (0 : Int).toNat (0 : Int)))), ()))))
    else
    (bif (decide (z6.1.2.2.2.2.1 = (25 : Int))) then
     (bif (decide (z6.1.2.2.2.1 = z6.1.2.1)) then
      (grd (okB (((0 : Int) <= (1 : Int)) /\ ((1 : Int) < ((z6.2.2.1.length : Nat) : Int))))
       (grd (Nat.blt (1 : Int).toNat z6.2.2.1.length)
        (some ((decide ((z6.2.2.1.getD (1 : Int).toNat (0 : Int)) = (1 : Int))), ()))))
      else
      (some (false, ())))
     else
     (bif (decide (z6.1.2.2.2.2.1 = (26 : Int))) then
      (grd (okB (((0 : Int) <= (1 : Int)) /\ ((1 : Int) < ((z6.2.2.1.length : Nat) : Int))))
       (grd (Nat.blt (1 : Int).toNat z6.2.2.1.length)
        (bif (decide (z6.1.2.2.2.1 = (z6.2.2.1.getD (1 : Int).toNat (0 : Int)))) then
         (grd (okB (((0 : Int) <= (2 : Int)) /\ ((2 : Int) < ((z6.2.2.1.length : Nat) : Int))))
          (grd (Nat.blt (2 : Int).toNat z6.2.2.1.length)
           (some ((decide ((z6.2.2.1.getD (2 : Int).toNat (0 : Int)) = (1 : Int))), ()))))
         else
         (some (false, ())))))
      else
      (bif (decide (z6.1.2.2.2.2.1 = (27 : Int))) then
       (bif (decide (z6.1.2.2.2.1 = z6.1.2.1)) then
        (grd (okB (((0 : Int) <= (0 : Int)) /\ ((0 : Int) < ((z6.2.2.1.length : Nat) : Int))))
         (grd (Nat.blt (0 : Int).toNat z6.2.2.1.length)
          (some ((decide ((z6.2.2.1.getD (0 : Int).toNat (0 : Int)) = (1 : Int))), ()))))
        else
        (some (false, ())))
       else
       (bif (decide (z6.1.2.2.2.2.1 = (28 : Int))) then
        (grd (okB (((0 : Int) <= (0 : Int)) /\ ((0 : Int) < ((z6.2.2.1.length : Nat) : Int))))
         (grd (Nat.blt (0 : Int).toNat z6.2.2.1.length)
          (bif (decide (z6.1.2.2.2.1 = (z6.2.2.1.getD (0 : Int).toNat (0 : Int)))) then
           (grd (okB (((0 : Int) <= (1 : Int)) /\ ((1 : Int) < ((z6.2.2.1.length : Nat) : Int))))
            (grd (Nat.blt (1 : Int).toNat z6.2.2.1.length)
             (some ((decide ((z6.2.2.1.getD (1 : Int).toNat (0 : Int)) = (1 : Int))), ()))))
           else
           (some (false, ())))))
        else
        (bif (Sp.isCompare z6.2.1.op) then
         (bif (decide (z6.1.2.1 = (1 : Int))) then
          (grd (okB (((0 : Int) <= (0 : Int)) /\ ((0 : Int) < ((z6.2.2.1.length : Nat) : Int))))
           (grd (Nat.blt (0 : Int).toNat z6.2.2.1.length)
            (grd (okB (((0 : Int) <= (1 : Int)) /\ ((1 : Int) < ((z6.2.2.1.length : Nat) : Int))))
             (grd (Nat.blt (1 : Int).toNat z6.2.2.1.length)
              (some ((decide ((z6.2.2.1.getD (0 : Int).toNat (0 : Int)) = (z6.2.2.1.getD (1 : Int).toNat (0 : Int)))), ()))))))
          else
          (some (false, ())))
         else
         (grd (okB (((0 : Int) <= (0 : Int)) /\ ((0 : Int) < ((z6.2.2.1.length : Nat) : Int))))
          (grd (Nat.blt (0 : Int).toNat z6.2.2.1.length)
           (bif (decide ((z6.2.2.1.getD (0 : Int).toNat (0 : Int)) = z6.1.2.1)) then
            (grd (okB (((0 : Int) <= (1 : Int)) /\ ((1 : Int) < ((z6.2.2.1.length : Nat) : Int))))
             (grd (Nat.blt (1 : Int).toNat z6.2.2.1.length)
              (some ((decide ((z6.2.2.1.getD (1 : Int).toNat (0 : Int)) = z6.1.2.1)), ()))))
            else
            (some (false, ())))))))))))))
def go50_j5 : ((Unit × (Int × (Unit × (Int × Unit)))) × (Inst × ((List Int) × Unit))) -> Option (Bool × Unit) := (fun (z5 : ((Unit × (Int × (Unit × (Int × Unit)))) × (Inst × ((List Int) × Unit)))) => (bif (decide (z5.2.1.op = (1 : Int))) then
   (some ((decide ((Sp.fit z5.1.2.1 z5.2.1.num) = z5.2.1.num)), ()))
   else
   (bif (decide (z5.2.1.op = (21 : Int))) then
    (grd (okB (((0 : Int) <= (0 : Int)) /\ ((0 : Int) < ((z5.2.2.1.length : Nat) : Int))))
     (grd (Nat.blt (0 : Int).toNat z5.2.2.1.length)
      (bif (decide ((z5.2.2.1.getD (0 : Int).toNat (0 : Int)) = (1 : Int))) then
       (grd (okB (((0 : Int) <= (1 : Int)) /\ ((1 : Int) < ((z5.2.2.1.length : Nat) : Int))))
        (grd (Nat.blt (1 : Int).toNat z5.2.2.1.length)
         (bif (decide ((z5.2.2.1.getD (1 : Int).toNat (0 : Int)) = z5.1.2.1)) then
          (grd (okB (((0 : Int) <= (2 : Int)) /\ ((2 : Int) < ((z5.2.2.1.length : Nat) : Int))))
           (grd (Nat.blt (2 : Int).toNat z5.2.2.1.length)
            (some ((decide ((z5.2.2.1.getD (2 : Int).toNat (0 : Int)) = z5.1.2.1)), ()))))
          else
          (some (false, ())))))
       else
       (some (false, ())))))
    else
    (jpO (go50_j6)
     (fun (j0 : (((Unit × (Int × (Unit × (Int × (Int × (Bool × Unit)))))) × (Inst × ((List Int) × Unit))) -> (Option (Bool × Unit)))) => (bif (decide (z5.2.1.op = (22 : Int))) then
       (j0 (((), (z5.1.2.1, ((), (z5.1.2.2.2.1, (z5.2.1.op, (true, ())))))), (z5.2.1, (z5.2.2.1, ()))))
       else
       (j0 (((), (z5.1.2.1, ((), (z5.1.2.2.2.1, (z5.2.1.op, ((decide (z5.2.1.op = (23 : Int))), ())))))), (z5.2.1, (z5.2.2.1, ()))))))))))
def go50_l1 : ((Unit × (Unit × (Bool × (Int × (Unit × (Int × Unit)))))) × (Fn × (Inst × ((List Int) × Unit)))) -> Option (((Unit × (Unit × (Bool × (Int × (Unit × (Int × Unit)))))) × (Fn × (Inst × ((List Int) × Unit)))) ⊕ ((Unit × (Unit × (Bool × (Int × (Unit × Unit))))) × (Fn × (Inst × ((List Int) × Unit))))) := (fun (r0 : ((Unit × (Unit × (Bool × (Int × (Unit × (Int × Unit)))))) × (Fn × (Inst × ((List Int) × Unit))))) => (bif (decide (r0.1.2.2.2.2.2.1 < ((r0.2.2.1.args.length : Nat) : Int))) then
   (grd (okB (((0 : Int) <= r0.1.2.2.2.2.2.1) /\ (r0.1.2.2.2.2.2.1 < ((r0.2.2.1.args.length : Nat) : Int))))
    (grd (okB (((0 : Int) <= (r0.2.2.1.args.getD r0.1.2.2.2.2.2.1.toNat (0 : Int))) /\ ((r0.2.2.1.args.getD r0.1.2.2.2.2.2.1.toNat (0 : Int)) < ((r0.2.1.widths.length : Nat) : Int))))
     (grd (okB (((0 : Int) <= r0.1.2.2.2.2.2.1) /\ (r0.1.2.2.2.2.2.1 < ((r0.2.2.2.1.length : Nat) : Int))))
      (grd (Nat.blt r0.1.2.2.2.2.2.1.toNat r0.2.2.2.1.length)
       (grd (okB (((-(9223372036854775808 : Int)) <= (r0.1.2.2.2.2.2.1 + (1 : Int))) /\ ((r0.1.2.2.2.2.2.1 + (1 : Int)) <= (9223372036854775807 : Int))))
        (some (Sum.inl (((), ((), (r0.1.2.2.1, (r0.1.2.2.2.1, ((), ((r0.1.2.2.2.2.2.1 + (1 : Int)), ())))))), (r0.2.1, (r0.2.2.1, ((r0.2.2.2.1.set r0.1.2.2.2.2.2.1.toNat (r0.2.1.widths.getD (r0.2.2.1.args.getD r0.1.2.2.2.2.2.1.toNat (0 : Int)).toNat (0 : Int))), ())))))))))))
   else
   (some (Sum.inr (((), ((), (r0.1.2.2.1, (r0.1.2.2.2.1, ((), ()))))), (r0.2.1, (r0.2.2.1, (r0.2.2.2.1, ()))))))))
def go50_j4 : ((Unit × (Unit × (Bool × (Int × Unit)))) × (Fn × (Inst × Unit))) -> Option (Bool × Unit) := (fun (z3 : ((Unit × (Unit × (Bool × (Int × Unit)))) × (Fn × (Inst × Unit)))) => (callB (whileO (go50_l1) (((), ((), (z3.1.2.2.1, (z3.1.2.2.2.1, ((), ((0 : Int), ())))))), (z3.2.1, (z3.2.2.1, (((0 : Int) :: ((0 : Int) :: ((0 : Int) :: ([] : List Int)))), ())))))
   (fun (z4 : ((Unit × (Unit × (Bool × (Int × (Unit × Unit))))) × (Fn × (Inst × ((List Int) × Unit))))) => (jpO (go50_j5)
     (fun (j0 : (((Unit × (Int × (Unit × (Int × Unit)))) × (Inst × ((List Int) × Unit))) -> (Option (Bool × Unit)))) => (jpO (go50_j7 j0)
       (fun (j1 : (((Unit × (Unit × (Bool × (Int × (Unit × (Int × (Bool × Unit))))))) × (Fn × (Inst × ((List Int) × Unit)))) -> (Option (Bool × Unit)))) => (bif (decide (z4.2.2.1.op = (25 : Int))) then
         (j1 (((), ((), (z4.1.2.2.1, (z4.1.2.2.2.1, ((), ((0 : Int), (true, ()))))))), (z4.2.1, (z4.2.2.1, (z4.2.2.2.1, ())))))
         else
         (j1 (((), ((), (z4.1.2.2.1, (z4.1.2.2.2.1, ((), ((0 : Int), ((decide (z4.2.2.1.op = (26 : Int))), ()))))))), (z4.2.1, (z4.2.2.1, (z4.2.2.2.1, ())))))))))))))
def go50_j3 : ((Unit × (Unit × (Bool × Unit))) × (Fn × (Inst × Unit))) -> Option (Bool × Unit) := (fun (z2 : ((Unit × (Unit × (Bool × Unit))) × (Fn × (Inst × Unit)))) => (jpO (go50_j4)
   (fun (j0 : (((Unit × (Unit × (Bool × (Int × Unit)))) × (Fn × (Inst × Unit))) -> (Option (Bool × Unit)))) => (bif (Sp.result z2.2.2.1.op) then
     (grd (okB (((0 : Int) <= z2.2.2.1.dest) /\ (z2.2.2.1.dest < ((z2.2.1.widths.length : Nat) : Int))))
      (j0 (((), ((), (z2.1.2.2.1, ((z2.2.1.widths.getD z2.2.2.1.dest.toNat (0 : Int)), ())))), (z2.2.1, (z2.2.2.1, ())))))
     else
     (j0 (((), ((), (z2.1.2.2.1, ((0 : Int), ())))), (z2.2.1, (z2.2.2.1, ()))))))))
def go50_j2 : ((Unit × (Unit × (Bool × Unit))) × (Fn × (Inst × Unit))) -> Option (Bool × Unit) := (fun (z1 : ((Unit × (Unit × (Bool × Unit))) × (Fn × (Inst × Unit)))) => (jpO (go50_j3)
   (fun (j0 : (((Unit × (Unit × (Bool × Unit))) × (Fn × (Inst × Unit))) -> (Option (Bool × Unit)))) => (bif (!(decide (z1.2.2.1.mem = (0 : Int)))) then
     (bif (!z1.1.2.2.1) then
      (some (false, ()))
      else
      (j0 (((), ((), (z1.1.2.2.1, ()))), (z1.2.1, (z1.2.2.1, ())))))
     else
     (j0 (((), ((), (z1.1.2.2.1, ()))), (z1.2.1, (z1.2.2.1, ()))))))))
def go50_j1 : ((Unit × (Unit × Unit)) × (Fn × (Inst × Unit))) -> Option (Bool × Unit) := (fun (z0 : ((Unit × (Unit × Unit)) × (Fn × (Inst × Unit)))) => (jpO (go50_j2)
   (fun (j0 : (((Unit × (Unit × (Bool × Unit))) × (Fn × (Inst × Unit))) -> (Option (Bool × Unit)))) => (bif (decide ((25 : Int) <= z0.2.2.1.op)) then
     (j0 (((), ((), ((decide (z0.2.2.1.op <= (28 : Int))), ()))), (z0.2.1, (z0.2.2.1, ()))))
     else
     (j0 (((), ((), (false, ()))), (z0.2.1, (z0.2.2.1, ()))))))))
def go50 (x0 : Fn) (x1 : Inst) : (Option (Bool × Unit)) :=
 (jpO (go50_j1)
  (fun (j0 : (((Unit × (Unit × Unit)) × (Fn × (Inst × Unit))) -> (Option (Bool × Unit)))) => (bif (!(decide (x1.num = (0 : Int)))) then
    (bif (!(decide (x1.op = (1 : Int)))) then
     (some (false, ()))
     else
     (j0 (((), ((), ())), (x0, (x1, ())))))
    else
    (j0 (((), ((), ())), (x0, (x1, ())))))))
theorem run50 (x0 : Fn) (x1 : Inst) : runF (P := Try.prog) [c49, c93, c94] Try.f50 ann50 [(0, (.st 6)), (1, (.st 0))] [] .b [] (x0, (x1, ())) () = go50 x0 x1 := by kernel_rfl
def Sp.memop (op : Int) : Bool := decide (25 <= op) && decide (op <= 28)
def Sp.wOf (f : Fn) (x : Inst) : Int := if Sp.result x.op then f.widths.getD x.dest.toNat 0 else 0
def Sp.aL (f : Fn) (x : Inst) (i : Nat) : List Int :=
 [if 0 < i then f.widths.getD (x.args.getD 0 0).toNat 0 else 0, if 1 < i then f.widths.getD (x.args.getD 1 0).toNat 0 else 0, if 2 < i then f.widths.getD (x.args.getD 2 0).toNat 0 else 0]
def Sp.mOf (f : Fn) (x : Inst) : Int :=
 if x.op = 25 \/ x.op = 26 then (f.arrays.getD x.mem.toNat Arr.z).width else if Sp.memop x.op then (f.streams.getD x.mem.toNat Strm.z).width else 0
def Sp.plainOk (x : Inst) : Bool := !(!decide (x.num = 0) && !decide (x.op = 1)) && !(!decide (x.mem = 0) && !Sp.memop x.op)
def Sp.memIx (f : Fn) (x : Inst) : Bool :=
 if x.op = 25 \/ x.op = 26 then !decide (x.mem < 0) && !decide ((f.arrays.length : Int) <= x.mem)
 else if Sp.memop x.op then !decide (x.mem < 0) && !decide ((f.streams.length : Int) <= x.mem) && ((f.streams.getD x.mem.toNat Strm.z).out == decide (x.op = 28)) else true
def Sp.fitOk (x : Inst) (w m a0 a1 a2 : Int) : Bool :=
 if x.op = 1 then decide (Sp.fit w x.num = x.num)
 else if x.op = 21 then decide (a0 = 1) && decide (a1 = w) && decide (a2 = w)
 else if x.op = 22 \/ x.op = 23 then decide (a0 < w)
 else if x.op = 24 then decide (w < a0)
 else if x.op = 25 then decide (m = w) && decide (a1 = 1)
 else if x.op = 26 then decide (m = a1) && decide (a2 = 1)
 else if x.op = 27 then decide (m = w) && decide (a0 = 1)
 else if x.op = 28 then decide (m = a0) && decide (a1 = 1)
 else if Sp.isCompare x.op then decide (w = 1) && decide (a0 = a1)
 else decide (a0 = w) && decide (a1 = w)
def Sp.instrOk (f : Fn) (x : Inst) : Bool :=
 Sp.plainOk x && Sp.memIx f x && Sp.fitOk x (Sp.wOf f x) (Sp.mOf f x) ((Sp.aL f x x.args.length).getD 0 0) ((Sp.aL f x x.args.length).getD 1 0) ((Sp.aL f x x.args.length).getD 2 0)
theorem aL_set (f : Fn) (x : Inst) {i : Nat} (h : i < 3) : (Sp.aL f x i).set i (f.widths.getD (x.args.getD i 0).toNat 0) = Sp.aL f x (i + 1) := by
 match i, h with
 | 0, _ => simp [Sp.aL]
 | 1, _ => simp [Sp.aL]
 | 2, _ => simp [Sp.aL]
section
variable {f : Fn} {x : Inst} {l : List Int} {w m : Int}
theorem j6_50 (hl : l.length = 3) (op : Int) (b : Bool) : go50_j6 (((), w, (), m, op, b, ()), x, l, ()) = some (if b = true then decide (l.getD 0 0 < w) else if op = 24 then decide (w < l.getD 0 0)
 else if op = 25 then decide (m = w) && decide (l.getD 1 0 = 1)
 else if op = 26 then decide (m = l.getD 1 0) && decide (l.getD 2 0 = 1)
 else if op = 27 then decide (m = w) && decide (l.getD 0 0 = 1)
 else if op = 28 then decide (m = l.getD 0 0) && decide (l.getD 1 0 = 1)
 else if Sp.isCompare x.op then decide (w = 1) && decide (l.getD 0 0 = l.getD 1 0)
 else decide (l.getD 0 0 = w) && decide (l.getD 1 0 = w), ()) := by
 unfold go50_j6
 have g : ∀ k : Nat, k < 3 -> ∀ {ρ : Type} (y : Option ρ), grd (okB ((0 : Int) <= (k : Int) /\ (k : Int) < ((l.length : Nat) : Int))) y = y := fun k hk ρ y => grd_dec (by omega)
 have g0 : ∀ {ρ : Type} (y : Option ρ), grd (okB ((0 : Int) <= (0 : Int) /\ (0 : Int) < ((l.length : Nat) : Int))) y = y := g 0 (by omega)
 have g1 : ∀ {ρ : Type} (y : Option ρ), grd (okB ((0 : Int) <= (1 : Int) /\ (1 : Int) < ((l.length : Nat) : Int))) y = y := g 1 (by omega)
 have g2 : ∀ {ρ : Type} (y : Option ρ), grd (okB ((0 : Int) <= (2 : Int) /\ (2 : Int) < ((l.length : Nat) : Int))) y = y := g 2 (by omega)
 have b0 : ∀ {ρ : Type} (y : Option ρ), grd (Nat.blt 0 l.length) y = y := fun y => grd_blt (by omega)
 have b1 : ∀ {ρ : Type} (y : Option ρ), grd (Nat.blt 1 l.length) y = y := fun y => grd_blt (by omega)
 have b2 : ∀ {ρ : Type} (y : Option ρ), grd (Nat.blt 2 l.length) y = y := fun y => grd_blt (by omega)
 simp only [g0, g1, g2, b0, b1, b2, bif_decide, show Int.toNat 0 = 0 from rfl, show Int.toNat 1 = 1 from rfl, show Int.toNat 2 = 2 from rfl]
 generalize l.getD 0 0 = a0
 generalize l.getD 1 0 = a1
 generalize l.getD 2 0 = a2
 have ab : ∀ (p : Prop) [Decidable p] (c : Bool), (if p then (some (c, ()) : Option (Bool × Unit)) else some (false, ())) = some (decide p && c, ()) := fun p _ c => by by_cases h : p <;> simp [h]
 simp only [ab]
 cases b
 ·cases Sp.isCompare x.op <;> simp only [cond_true, cond_false, Bool.false_eq_true, if_true, if_false] <;> repeat' split
  all_goals rfl
 ·rfl
theorem j5_50 (hl : l.length = 3) : go50_j5 (((), w, (), m, ()), x, l, ()) = some (Sp.fitOk x w m (l.getD 0 0) (l.getD 1 0) (l.getD 2 0), ()) := by
 unfold go50_j5 Sp.fitOk
 have g0 : ∀ {ρ : Type} (y : Option ρ), grd (okB ((0 : Int) <= (0 : Int) /\ (0 : Int) < ((l.length : Nat) : Int))) y = y := fun y => grd_dec (by omega)
 have g1 : ∀ {ρ : Type} (y : Option ρ), grd (okB ((0 : Int) <= (1 : Int) /\ (1 : Int) < ((l.length : Nat) : Int))) y = y := fun y => grd_dec (by omega)
 have g2 : ∀ {ρ : Type} (y : Option ρ), grd (okB ((0 : Int) <= (2 : Int) /\ (2 : Int) < ((l.length : Nat) : Int))) y = y := fun y => grd_dec (by omega)
 have b0 : ∀ {ρ : Type} (y : Option ρ), grd (Nat.blt 0 l.length) y = y := fun y => grd_blt (by omega)
 have b1 : ∀ {ρ : Type} (y : Option ρ), grd (Nat.blt 1 l.length) y = y := fun y => grd_blt (by omega)
 have b2 : ∀ {ρ : Type} (y : Option ρ), grd (Nat.blt 2 l.length) y = y := fun y => grd_blt (by omega)
 have ab : ∀ (p : Prop) [Decidable p] (c : Bool), (if p then (some (c, ()) : Option (Bool × Unit)) else some (false, ())) = some (decide p && c, ()) := fun p _ c => by by_cases h : p <;> simp [h]
 simp only [g0, g1, g2, b0, b1, b2, bif_decide, jpO_eq, j6_50 hl, show Int.toNat 0 = 0 from rfl, show Int.toNat 1 = 1 from rfl, show Int.toNat 2 = 2 from rfl, ab]
 by_cases h1 : x.op = 1
 ·simp [h1]
 by_cases h2 : x.op = 21
 ·simp [h2, Bool.and_assoc]
 by_cases h3 : x.op = 22
 ·simp [h3]
 by_cases h4 : x.op = 23
 ·simp [h4]
 simp [h1, h2, h3, h4]
theorem j7_50 (j0 : (((Unit × (Int × (Unit × (Int × Unit)))) × (Inst × ((List Int) × Unit))) -> (Option (Bool × Unit)))) : go50_j7 j0 (((), (), Sp.memop x.op, w, (), 0, (decide (x.op = 25 \/ x.op = 26)), ()), f, x, l, ()) =
  if Sp.memIx f x = true then j0 (((), w, (), Sp.mOf f x, ()), x, l, ()) else some (false, ()) := by
 unfold go50_j7 Sp.memIx Sp.mOf
 simp (maxSteps := 1000000) (disch := ((try dsimp only); omega)) only [↓gsA, gsB]
 by_cases h1 : x.op = 25 \/ x.op = 26
 ·simp only [if_pos h1]
  by_cases h2 : x.mem < 0 <;> by_cases h3 : (f.arrays.length : Int) <= x.mem <;> simp [h2, h3]
 ·simp only [if_neg h1]
  cases Sp.memop x.op
  ·simp
  ·by_cases h2 : x.mem < 0 <;> by_cases h3 : (f.streams.length : Int) <= x.mem <;> cases (f.streams.getD x.mem.toNat Strm.z).out == decide (x.op = 28) <;> simp [h2, h3]
theorem j4_50 (ha : x.args.length <= 3) (hu : ∀ i, i < x.args.length -> 0 <= x.args.getD i 0 /\ x.args.getD i 0 < f.widths.length) : go50_j4 (((), (), Sp.memop x.op, w, ()), f, x, ()) =
  some (Sp.memIx f x && Sp.fitOk x w (Sp.mOf f x) ((Sp.aL f x x.args.length).getD 0 0) ((Sp.aL f x x.args.length).getD 1 0) ((Sp.aL f x x.args.length).getD 2 0), ()) := by
 unfold go50_j4 go50_l1
 refine callB_of (whileO_to (st := fun i => (((), (), Sp.memop x.op, w, (), (i : Int), ()), f, x, Sp.aL f x i, ())) rfl x.args.length (X0 := (((), (), Sp.memop x.op, w, (), ()), f, x, Sp.aL f x x.args.length, ())) (fun i hi => ?_) ?_) ?_
 ·have hl : (Sp.aL f x i).length = 3 := rfl
  obtain ⟨u1, u2⟩ := hu i hi
  have e := aL_set f x (i := i) (by omega)
  simp (maxSteps := 1000000) (disch := ((try dsimp only); omega)) only [↓gsA, gsB]
  rw [<- e]
 ·simp (maxSteps := 1000000) (disch := ((try dsimp only); omega)) only [↓gsA, gsB]
 ·have hl : (Sp.aL f x x.args.length).length = 3 := rfl
  have e : ∀ b : Bool, b = decide (x.op = 25 \/ x.op = 26) -> go50_j7 go50_j5 (((), (), Sp.memop x.op, w, (), 0, b, ()), f, x, Sp.aL f x x.args.length, ()) =
    some (Sp.memIx f x && Sp.fitOk x w (Sp.mOf f x) ((Sp.aL f x x.args.length).getD 0 0) ((Sp.aL f x x.args.length).getD 1 0) ((Sp.aL f x x.args.length).getD 2 0), ()) := fun b hb => by
   subst hb
   rw [j7_50, j5_50 hl]
   cases Sp.memIx f x <;> rfl
  simp only [jpO_eq, bif_decide]
  split
  ·rename_i h; exact e true (by simp [h])
  ·rename_i h; exact e (decide (x.op = 26)) (by simp [h])
theorem j3_50 (ha : x.args.length <= 3) (hu : ∀ i, i < x.args.length -> 0 <= x.args.getD i 0 /\ x.args.getD i 0 < f.widths.length) (hd : Sp.result x.op = true -> 0 <= x.dest /\ x.dest < f.widths.length) : go50_j3 (((), (), Sp.memop x.op, ()), f, x, ()) =
  some (Sp.memIx f x && Sp.fitOk x (Sp.wOf f x) (Sp.mOf f x) ((Sp.aL f x x.args.length).getD 0 0) ((Sp.aL f x x.args.length).getD 1 0) ((Sp.aL f x x.args.length).getD 2 0), ()) := by
 unfold go50_j3 Sp.wOf
 simp only [jpO_eq, j4_50 ha hu]
 cases h : Sp.result x.op with
 | false => rfl
 | true =>
  obtain ⟨h1, h2⟩ := hd h
  simp (maxSteps := 1000000) (disch := ((try dsimp only); omega)) only [↓gsA, gsB]
def Sp.instPre (f : Fn) (x : Inst) : Prop := x.args.length <= 3 /\ (∀ i, i < x.args.length -> 0 <= x.args.getD i 0 /\ x.args.getD i 0 < f.widths.length) /\ (Sp.result x.op = true -> 0 <= x.dest /\ x.dest < f.widths.length)
theorem ok50 (f : Fn) (x : Inst) (h : Sp.instPre f x) : go50 f x = some (Sp.instrOk f x, ()) := by
 obtain ⟨ha, hu, hd⟩ := h
 have e1 : go50_j1 (((), (), ()), f, x, ()) = some (!(!decide (x.mem = 0) && !Sp.memop x.op) && (Sp.memIx f x && Sp.fitOk x (Sp.wOf f x) (Sp.mOf f x) ((Sp.aL f x x.args.length).getD 0 0) ((Sp.aL f x x.args.length).getD 1 0) ((Sp.aL f x x.args.length).getD 2 0)), ()) := by
  have e : ∀ b : Bool, b = Sp.memop x.op -> go50_j2 (((), (), b, ()), f, x, ()) = some (!(!decide (x.mem = 0) && !Sp.memop x.op) && (Sp.memIx f x && Sp.fitOk x (Sp.wOf f x) (Sp.mOf f x) ((Sp.aL f x x.args.length).getD 0 0) ((Sp.aL f x x.args.length).getD 1 0) ((Sp.aL f x x.args.length).getD 2 0)), ()) := fun b hb => by
   subst hb
   unfold go50_j2
   simp only [jpO_eq, j3_50 ha hu hd, bif_not, bif_decide]
   by_cases hm : x.mem = 0
   ·rw [if_pos hm, decide_eq_true hm]; rfl
   ·rw [if_neg hm, decide_eq_false hm]
    cases Sp.memop x.op <;> rfl
  unfold go50_j1
  simp only [jpO_eq, bif_decide]
  split
  ·rename_i h; exact e _ (by simp [Sp.memop, h])
  ·rename_i h; exact e _ (by simp [Sp.memop, h])
 unfold go50 Sp.instrOk Sp.plainOk
 simp only [jpO_eq, e1, bif_not, bif_decide]
 by_cases h1 : x.num = 0
 ·rw [if_pos h1, decide_eq_true h1]; simp [Bool.and_assoc]
 ·rw [if_neg h1, decide_eq_false h1]
  by_cases h2 : x.op = 1
  ·rw [if_pos h2, decide_eq_true h2]; simp [Bool.and_assoc]
  ·rw [if_neg h2, decide_eq_false h2]; rfl
end
def c50 : Ctr Try.prog := mkCtr 50 Try.f50 Try.func50 [c49, c93, c94] ann50 [(0, (.st 6)), (1, (.st 0))] [] .b [] (fun x _ => grd (okB (Sp.instPre x.1 x.2.1)) (some (Sp.instrOk x.1 x.2.1, ())))
 (fun x _ r h => FO (run50 x.1 x.2.1) (ok50 x.1 x.2.1) h)
end
end Go.Abs
namespace Go.Abs
open Go Go.Proofs
noncomputable section
def ann18 : Ann := (.seq .o (.join ⟨[(1, (.ptr 0 0))], [(.box 30 (.st 6))]⟩ (.seq .o (.cond (.seq .o .o) .o)) (.seq .o (.join ⟨[(1, (.ptr 0 0)), (3, (.full 1))], [(.box 30 (.st 6)), (.lst 4 .bool)]⟩ (.seq .o (.block (.loop ⟨[(1, (.ptr 0 0)), (3, (.full 1)), (46, (.i .i64)), (47, (.i .i64))], [(.box 30 (.st 6)), (.lst 4 .bool)]⟩ [((.exit 0), ⟨[(1, (.ptr 0 0)), (3, (.full 1))], [(.box 30 (.st 6)), (.lst 4 .bool)]⟩)] (.seq .o (.join ⟨[(1, (.ptr 0 0)), (3, (.full 1)), (46, (.i .i64)), (47, (.i .i64))], [(.box 30 (.st 6)), (.lst 4 .bool)]⟩ (.cond .o .o) (.join ⟨[(1, (.ptr 0 0)), (3, (.full 1)), (46, (.i .i64)), (47, (.i .i64))], [(.box 30 (.st 6)), (.lst 4 .bool)]⟩ (.block .o) .o)))))) (.join ⟨[], []⟩ (.seq .o (.block (.loop ⟨[(1, (.ptr 0 0)), (3, (.full 1)), (4, (.i .i64))], [(.box 30 (.st 6)), (.lst 4 .bool)]⟩ [((.exit 2), ⟨[], []⟩), (.ret, ⟨[(2, .b)], []⟩)] (.join ⟨[(1, (.ptr 0 0)), (3, (.full 1)), (4, (.i .i64))], [(.box 30 (.st 6)), (.lst 4 .bool)]⟩ (.seq .o (.cond .o .o)) (.join ⟨[(1, (.ptr 0 0)), (3, (.full 1)), (4, (.i .i64))], [(.box 30 (.st 6)), (.lst 4 .bool)]⟩ (.block (.seq .o (.join ⟨[(1, (.ptr 0 0)), (3, (.full 1)), (4, (.i .i64)), (5, (.ptr 2 0))], [(.box 30 (.st 6)), (.lst 4 .bool), (.box 41 (.st 3))]⟩ (.seq .o (.cond (.seq .o .o) .o)) (.seq .o (.join ⟨[(1, (.ptr 0 0)), (3, (.full 1)), (4, (.i .i64)), (5, (.ptr 2 0)), (6, (.full 3))], [(.box 30 (.st 6)), (.lst 4 .bool), (.box 41 (.st 3)), (.lst 4 .bool)]⟩ (.seq .o (.block (.loop ⟨[(1, (.ptr 0 0)), (3, (.full 1)), (4, (.i .i64)), (5, (.ptr 2 0)), (6, (.full 3)), (101, (.i .i64)), (102, (.i .i64))], [(.box 30 (.st 6)), (.lst 4 .bool), (.box 41 (.st 3)), (.lst 4 .bool)]⟩ [((.exit 4), ⟨[(1, (.ptr 0 0)), (3, (.full 1)), (4, (.i .i64)), (5, (.ptr 2 0)), (6, (.full 3))], [(.box 30 (.st 6)), (.lst 4 .bool), (.box 41 (.st 3)), (.lst 4 .bool)]⟩)] (.seq .o (.join ⟨[(1, (.ptr 0 0)), (3, (.full 1)), (4, (.i .i64)), (5, (.ptr 2 0)), (6, (.full 3)), (101, (.i .i64)), (102, (.i .i64))], [(.box 30 (.st 6)), (.lst 4 .bool), (.box 41 (.st 3)), (.lst 4 .bool)]⟩ (.cond .o .o) (.join ⟨[(1, (.ptr 0 0)), (3, (.full 1)), (4, (.i .i64)), (5, (.ptr 2 0)), (6, (.full 3)), (101, (.i .i64)), (102, (.i .i64))], [(.box 30 (.st 6)), (.lst 4 .bool), (.box 41 (.st 3)), (.lst 4 .bool)]⟩ (.block .o) .o)))))) (.join ⟨[(1, (.ptr 0 0)), (3, (.full 1)), (4, (.i .i64)), (5, (.ptr 2 0)), (6, (.full 3))], [(.box 30 (.st 6)), (.lst 4 .bool), (.box 41 (.st 3)), (.lst 4 .bool)]⟩ (.seq .o (.block (.loop ⟨[(1, (.ptr 0 0)), (3, (.full 1)), (4, (.i .i64)), (5, (.ptr 2 0)), (6, (.full 3)), (7, (.i .i64))], [(.box 30 (.st 6)), (.lst 4 .bool), (.box 41 (.st 3)), (.lst 4 .bool)]⟩ [((.exit 6), ⟨[(1, (.ptr 0 0)), (3, (.full 1)), (4, (.i .i64)), (5, (.ptr 2 0)), (6, (.full 3))], [(.box 30 (.st 6)), (.lst 4 .bool), (.box 41 (.st 3)), (.lst 4 .bool)]⟩), (.ret, ⟨[(2, .b)], []⟩)] (.join ⟨[(1, (.ptr 0 0)), (3, (.full 1)), (4, (.i .i64)), (5, (.ptr 2 0)), (6, (.full 3)), (7, (.i .i64))], [(.box 30 (.st 6)), (.lst 4 .bool), (.box 41 (.st 3)), (.lst 4 .bool)]⟩ (.seq .o (.cond .o .o)) (.join ⟨[(1, (.ptr 0 0)), (3, (.full 1)), (4, (.i .i64)), (5, (.ptr 2 0)), (6, (.full 3)), (7, (.i .i64))], [(.box 30 (.st 6)), (.lst 4 .bool), (.box 41 (.st 3)), (.lst 4 .bool)]⟩ (.block (.seq .o (.join ⟨[(1, (.ptr 0 0)), (3, (.full 1)), (4, (.i .i64)), (5, (.ptr 2 0)), (6, (.full 3)), (7, (.i .i64)), (8, (.i .i64))], [(.box 30 (.st 6)), (.lst 4 .bool), (.box 41 (.st 3)), (.lst 4 .bool)]⟩ (.seq .o (.cond (.seq .o .o) .o)) (.seq .o .o)))) .o))))) (.join ⟨[(1, (.ptr 0 0)), (3, (.full 1)), (4, (.i .i64)), (5, (.ptr 2 0)), (6, (.full 3))], [(.box 30 (.st 6)), (.lst 4 .bool), (.box 41 (.st 3)), (.lst 4 .bool)]⟩ (.seq .o (.block (.loop ⟨[(1, (.ptr 0 0)), (3, (.full 1)), (4, (.i .i64)), (5, (.ptr 2 0)), (6, (.full 3)), (9, (.i .i64))], [(.box 30 (.st 6)), (.lst 4 .bool), (.box 41 (.st 3)), (.lst 4 .bool)]⟩ [((.exit 8), ⟨[(1, (.ptr 0 0)), (3, (.full 1)), (4, (.i .i64)), (5, (.ptr 2 0)), (6, (.full 3))], [(.box 30 (.st 6)), (.lst 4 .bool), (.box 41 (.st 3)), (.lst 4 .bool)]⟩), (.ret, ⟨[(2, .b)], []⟩)] (.join ⟨[(1, (.ptr 0 0)), (3, (.full 1)), (4, (.i .i64)), (5, (.ptr 2 0)), (6, (.full 3)), (9, (.i .i64))], [(.box 30 (.st 6)), (.lst 4 .bool), (.box 41 (.st 3)), (.lst 4 .bool)]⟩ (.seq .o (.cond .o .o)) (.join ⟨[(1, (.ptr 0 0)), (3, (.full 1)), (4, (.i .i64)), (5, (.ptr 2 0)), (6, (.full 3)), (9, (.i .i64))], [(.box 30 (.st 6)), (.lst 4 .bool), (.box 41 (.st 3)), (.lst 4 .bool)]⟩ (.block (.seq .o (.join ⟨[(1, (.ptr 0 0)), (3, (.full 1)), (4, (.i .i64)), (5, (.ptr 2 0)), (6, (.full 3)), (9, (.i .i64)), (10, (.ptr 4 0))], [(.box 30 (.st 6)), (.lst 4 .bool), (.box 41 (.st 3)), (.lst 4 .bool), (.box 46 (.st 0))]⟩ (.seq .o (.cond (.seq .o .o) .o)) (.join ⟨[(1, (.ptr 0 0)), (3, (.full 1)), (4, (.i .i64)), (5, (.ptr 2 0)), (6, (.full 3)), (9, (.i .i64)), (10, (.ptr 4 0))], [(.box 30 (.st 6)), (.lst 4 .bool), (.box 41 (.st 3)), (.lst 4 .bool), (.box 46 (.st 0))]⟩ (.seq .o (.cond (.seq .o (.cond (.seq .o .o) .o)) (.seq .o (.cond (.seq .o .o) .o)))) (.join ⟨[(1, (.ptr 0 0)), (3, (.full 1)), (4, (.i .i64)), (5, (.ptr 2 0)), (6, (.full 3)), (9, (.i .i64)), (10, (.ptr 4 0))], [(.box 30 (.st 6)), (.lst 4 .bool), (.box 41 (.st 3)), (.lst 4 .bool), (.box 46 (.st 0))]⟩ (.seq .o (.cond (.seq .o .o) .o)) (.seq .o (.cond (.seq .o .o) .o))))))) .o))))) (.seq .o (.cond (.seq .o .o) .o))))))))) .o))))) (.seq .o .o))))))
def go18_j2 (j0 : (((Unit × (Unit × (Int × (Unit × (Unit × (Int × Unit)))))) × (Fn × ((List Bool) × (Block × ((List Bool) × Unit))))) -> (Option (((Unit × (Unit × (Int × (Unit × (Unit × (Int × Unit)))))) × (Fn × ((List Bool) × (Block × ((List Bool) × Unit))))) ⊕ (((Unit × (Unit × (Int × (Unit × (Unit × Unit))))) × (Fn × ((List Bool) × (Block × ((List Bool) × Unit))))) ⊕ ((Bool × Unit) × Unit)))))) : ((Unit × (Unit × (Int × (Unit × (Unit × (Int × (Unit × Unit))))))) × (Fn × ((List Bool) × (Block × ((List Bool) × (Inst × Unit)))))) -> Option (((Unit × (Unit × (Int × (Unit × (Unit × (Int × Unit)))))) × (Fn × ((List Bool) × (Block × ((List Bool) × Unit))))) ⊕ (((Unit × (Unit × (Int × (Unit × (Unit × Unit))))) × (Fn × ((List Bool) × (Block × ((List Bool) × Unit))))) ⊕ ((Bool × Unit) × Unit))) := (fun (z4 : ((Unit × (Unit × (Int × (Unit × (Unit × (Int × (Unit × Unit))))))) × (Fn × ((List Bool) × (Block × ((List Bool) × (Inst × Unit))))))) => (callB (grd (okB (Sp.instPre z4.2.1 z4.2.2.2.2.2.1))
    (some ((Sp.instrOk z4.2.1 z4.2.2.2.2.2.1), ())))
   (fun (r7 : (Bool × Unit)) => (bif (!r7.1) then
     (some (Sum.inr (Sum.inr ((false, ()), ()))))
     else
     (bif (Sp.result z4.2.2.2.2.2.1.op) then
      (grd (okB (((0 : Int) <= z4.2.2.2.2.2.1.dest) /\ (z4.2.2.2.2.2.1.dest < ((z4.2.2.1.length : Nat) : Int))))
       (grd (Nat.blt z4.2.2.2.2.2.1.dest.toNat z4.2.2.1.length)
        (grd (okB (((0 : Int) <= z4.2.2.2.2.2.1.dest) /\ (z4.2.2.2.2.2.1.dest < ((z4.2.2.2.2.1.length : Nat) : Int))))
         (grd (Nat.blt z4.2.2.2.2.2.1.dest.toNat z4.2.2.2.2.1.length)
          (j0 (((), ((), (z4.1.2.2.1, ((), ((), (z4.1.2.2.2.2.2.1, ())))))), (z4.2.1, ((z4.2.2.1.set z4.2.2.2.2.2.1.dest.toNat true), (z4.2.2.2.1, ((z4.2.2.2.2.1.set z4.2.2.2.2.2.1.dest.toNat true), ()))))))))))
      else
      (j0 (((), ((), (z4.1.2.2.1, ((), ((), (z4.1.2.2.2.2.2.1, ())))))), (z4.2.1, (z4.2.2.1, (z4.2.2.2.1, (z4.2.2.2.2.1, ())))))))))))
def go18_j1 : ((Unit × (Unit × (Int × (Unit × (Unit × (Int × Unit)))))) × (Fn × ((List Bool) × (Block × ((List Bool) × Unit))))) -> Option (((Unit × (Unit × (Int × (Unit × (Unit × (Int × Unit)))))) × (Fn × ((List Bool) × (Block × ((List Bool) × Unit))))) ⊕ (((Unit × (Unit × (Int × (Unit × (Unit × Unit))))) × (Fn × ((List Bool) × (Block × ((List Bool) × Unit))))) ⊕ ((Bool × Unit) × Unit))) := (fun (z4 : ((Unit × (Unit × (Int × (Unit × (Unit × (Int × Unit)))))) × (Fn × ((List Bool) × (Block × ((List Bool) × Unit)))))) => (grd (okB (((-(9223372036854775808 : Int)) <= (z4.1.2.2.2.2.2.1 + (1 : Int))) /\ ((z4.1.2.2.2.2.2.1 + (1 : Int)) <= (9223372036854775807 : Int))))
   (some (Sum.inl (((), ((), (z4.1.2.2.1, ((), ((), ((z4.1.2.2.2.2.2.1 + (1 : Int)), ())))))), (z4.2.1, (z4.2.2.1, (z4.2.2.2.1, (z4.2.2.2.2.1, ())))))))))
def go18_l5 : ((Unit × (Unit × (Int × (Unit × (Unit × (Int × Unit)))))) × (Fn × ((List Bool) × (Block × ((List Bool) × Unit))))) -> Option (((Unit × (Unit × (Int × (Unit × (Unit × (Int × Unit)))))) × (Fn × ((List Bool) × (Block × ((List Bool) × Unit))))) ⊕ (((Unit × (Unit × (Int × (Unit × (Unit × Unit))))) × (Fn × ((List Bool) × (Block × ((List Bool) × Unit))))) ⊕ ((Bool × Unit) × Unit))) := (fun (r5 : ((Unit × (Unit × (Int × (Unit × (Unit × (Int × Unit)))))) × (Fn × ((List Bool) × (Block × ((List Bool) × Unit)))))) => (bif (decide (r5.1.2.2.2.2.2.1 < ((r5.2.2.2.1.insts.length : Nat) : Int))) then
   (jpO (go18_j1)
    (fun (j0 : (((Unit × (Unit × (Int × (Unit × (Unit × (Int × Unit)))))) × (Fn × ((List Bool) × (Block × ((List Bool) × Unit))))) -> (Option (((Unit × (Unit × (Int × (Unit × (Unit × (Int × Unit)))))) × (Fn × ((List Bool) × (Block × ((List Bool) × Unit))))) ⊕ (((Unit × (Unit × (Int × (Unit × (Unit × Unit))))) × (Fn × ((List Bool) × (Block × ((List Bool) × Unit))))) ⊕ ((Bool × Unit) × Unit)))))) => (grd (okB (((0 : Int) <= r5.1.2.2.2.2.2.1) /\ (r5.1.2.2.2.2.2.1 < ((r5.2.2.2.1.insts.length : Nat) : Int))))
      (bif (!(decide ((Sp.arity (r5.2.2.2.1.insts.getD r5.1.2.2.2.2.2.1.toNat Inst.z).op) = (((r5.2.2.2.1.insts.getD r5.1.2.2.2.2.2.1.toNat Inst.z).args.length : Nat) : Int)))) then
       (some (Sum.inr (Sum.inr ((false, ()), ()))))
       else
       (callB (grd (okB (((r5.2.2.2.1.insts.getD r5.1.2.2.2.2.2.1.toNat Inst.z).args.length <= LEN) /\ (r5.2.2.2.2.1.length = r5.2.1.widths.length)))
         (some ((Sp.used r5.2.1 (r5.2.2.2.1.insts.getD r5.1.2.2.2.2.2.1.toNat Inst.z).args r5.2.2.2.2.1), ())))
        (fun (r6 : (Bool × Unit)) => (bif (!r6.1) then
          (some (Sum.inr (Sum.inr ((false, ()), ()))))
          else
          (jpO (go18_j2 j0)
           (fun (j1 : (((Unit × (Unit × (Int × (Unit × (Unit × (Int × (Unit × Unit))))))) × (Fn × ((List Bool) × (Block × ((List Bool) × (Inst × Unit)))))) -> (Option (((Unit × (Unit × (Int × (Unit × (Unit × (Int × Unit)))))) × (Fn × ((List Bool) × (Block × ((List Bool) × Unit))))) ⊕ (((Unit × (Unit × (Int × (Unit × (Unit × Unit))))) × (Fn × ((List Bool) × (Block × ((List Bool) × Unit))))) ⊕ ((Bool × Unit) × Unit)))))) => (bif (Sp.result (r5.2.2.2.1.insts.getD r5.1.2.2.2.2.2.1.toNat Inst.z).op) then
             (bif (!(Sp.within r5.2.1 (r5.2.2.2.1.insts.getD r5.1.2.2.2.2.2.1.toNat Inst.z).dest)) then
              (some (Sum.inr (Sum.inr ((false, ()), ()))))
              else
              (grd (okB (((0 : Int) <= (r5.2.2.2.1.insts.getD r5.1.2.2.2.2.2.1.toNat Inst.z).dest) /\ ((r5.2.2.2.1.insts.getD r5.1.2.2.2.2.2.1.toNat Inst.z).dest < ((r5.2.2.1.length : Nat) : Int))))
               (grd (Nat.blt (r5.2.2.2.1.insts.getD r5.1.2.2.2.2.2.1.toNat Inst.z).dest.toNat r5.2.2.1.length)
                (bif (r5.2.2.1.getD (r5.2.2.2.1.insts.getD r5.1.2.2.2.2.2.1.toNat Inst.z).dest.toNat false) then
                 (some (Sum.inr (Sum.inr ((false, ()), ()))))
                 else
                 (j1 (((), ((), (r5.1.2.2.1, ((), ((), (r5.1.2.2.2.2.2.1, ((), ()))))))), (r5.2.1, (r5.2.2.1, (r5.2.2.2.1, (r5.2.2.2.2.1, ((r5.2.2.2.1.insts.getD r5.1.2.2.2.2.2.1.toNat Inst.z), ())))))))))))
             else
             (bif (!(decide ((r5.2.2.2.1.insts.getD r5.1.2.2.2.2.2.1.toNat Inst.z).dest = (-(1 : Int))))) then
              (some (Sum.inr (Sum.inr ((false, ()), ()))))
              else
              (j1 (((), ((), (r5.1.2.2.1, ((), ((), (r5.1.2.2.2.2.2.1, ((), ()))))))), (r5.2.1, (r5.2.2.1, (r5.2.2.2.1, (r5.2.2.2.2.1, ((r5.2.2.2.1.insts.getD r5.1.2.2.2.2.2.1.toNat Inst.z), ()))))))))))))))))))
   else
   (some (Sum.inr (Sum.inl (((), ((), (r5.1.2.2.1, ((), ((), ()))))), (r5.2.1, (r5.2.2.1, (r5.2.2.2.1, (r5.2.2.2.2.1, ()))))))))))
def go18_l4 : ((Unit × (Unit × (Int × (Unit × (Unit × (Int × Unit)))))) × (Fn × ((List Bool) × (Block × ((List Bool) × Unit))))) -> Option (((Unit × (Unit × (Int × (Unit × (Unit × (Int × Unit)))))) × (Fn × ((List Bool) × (Block × ((List Bool) × Unit))))) ⊕ (((Unit × (Unit × (Int × (Unit × (Unit × Unit))))) × (Fn × ((List Bool) × (Block × ((List Bool) × Unit))))) ⊕ ((Bool × Unit) × Unit))) := (fun (r5 : ((Unit × (Unit × (Int × (Unit × (Unit × (Int × Unit)))))) × (Fn × ((List Bool) × (Block × ((List Bool) × Unit)))))) => (bif (decide (r5.1.2.2.2.2.2.1 < ((r5.2.2.2.1.params.length : Nat) : Int))) then
   (grd (okB (((0 : Int) <= r5.1.2.2.2.2.2.1) /\ (r5.1.2.2.2.2.2.1 < ((r5.2.2.2.1.params.length : Nat) : Int))))
    (bif (!(Sp.within r5.2.1 (r5.2.2.2.1.params.getD r5.1.2.2.2.2.2.1.toNat (0 : Int)))) then
     (some (Sum.inr (Sum.inr ((false, ()), ()))))
     else
     (grd (okB (((0 : Int) <= (r5.2.2.2.1.params.getD r5.1.2.2.2.2.2.1.toNat (0 : Int))) /\ ((r5.2.2.2.1.params.getD r5.1.2.2.2.2.2.1.toNat (0 : Int)) < ((r5.2.2.1.length : Nat) : Int))))
      (grd (Nat.blt (r5.2.2.2.1.params.getD r5.1.2.2.2.2.2.1.toNat (0 : Int)).toNat r5.2.2.1.length)
       (bif (r5.2.2.1.getD (r5.2.2.2.1.params.getD r5.1.2.2.2.2.2.1.toNat (0 : Int)).toNat false) then
        (some (Sum.inr (Sum.inr ((false, ()), ()))))
        else
        (grd (okB (((0 : Int) <= (r5.2.2.2.1.params.getD r5.1.2.2.2.2.2.1.toNat (0 : Int))) /\ ((r5.2.2.2.1.params.getD r5.1.2.2.2.2.2.1.toNat (0 : Int)) < ((r5.2.2.1.length : Nat) : Int))))
         (grd (Nat.blt (r5.2.2.2.1.params.getD r5.1.2.2.2.2.2.1.toNat (0 : Int)).toNat r5.2.2.1.length)
          (grd (okB (((0 : Int) <= (r5.2.2.2.1.params.getD r5.1.2.2.2.2.2.1.toNat (0 : Int))) /\ ((r5.2.2.2.1.params.getD r5.1.2.2.2.2.2.1.toNat (0 : Int)) < ((r5.2.2.2.2.1.length : Nat) : Int))))
           (grd (Nat.blt (r5.2.2.2.1.params.getD r5.1.2.2.2.2.2.1.toNat (0 : Int)).toNat r5.2.2.2.2.1.length)
            (grd (okB (((-(9223372036854775808 : Int)) <= (r5.1.2.2.2.2.2.1 + (1 : Int))) /\ ((r5.1.2.2.2.2.2.1 + (1 : Int)) <= (9223372036854775807 : Int))))
             (some (Sum.inl (((), ((), (r5.1.2.2.1, ((), ((), ((r5.1.2.2.2.2.2.1 + (1 : Int)), ())))))), (r5.2.1, ((r5.2.2.1.set (r5.2.2.2.1.params.getD r5.1.2.2.2.2.2.1.toNat (0 : Int)).toNat true), (r5.2.2.2.1, ((r5.2.2.2.2.1.set (r5.2.2.2.1.params.getD r5.1.2.2.2.2.2.1.toNat (0 : Int)).toNat true), ())))))))))))))))))
   else
   (some (Sum.inr (Sum.inl (((), ((), (r5.1.2.2.1, ((), ((), ()))))), (r5.2.1, (r5.2.2.1, (r5.2.2.2.1, (r5.2.2.2.2.1, ()))))))))))
def go18_l3 : ((Unit × (Unit × (Int × (Unit × (Unit × (Int × (Int × Unit))))))) × (Fn × ((List Bool) × (Block × ((List Bool) × Unit))))) -> Option (((Unit × (Unit × (Int × (Unit × (Unit × (Int × (Int × Unit))))))) × (Fn × ((List Bool) × (Block × ((List Bool) × Unit))))) ⊕ ((Unit × (Unit × (Int × (Unit × (Unit × Unit))))) × (Fn × ((List Bool) × (Block × ((List Bool) × Unit)))))) := (fun (r5 : ((Unit × (Unit × (Int × (Unit × (Unit × (Int × (Int × Unit))))))) × (Fn × ((List Bool) × (Block × ((List Bool) × Unit)))))) => (bif (decide (r5.1.2.2.2.2.2.2.1 < r5.1.2.2.2.2.2.1)) then
   (grd (okB ((((r5.2.2.2.2.1.length + 1) * (1 : Nat)) <= (140737488355328 : Nat)) /\ ((r5.2.2.2.2.1.length + 1) <= (281474976710656 : Nat))))
    (grd (okB (((-(9223372036854775808 : Int)) <= (r5.1.2.2.2.2.2.2.1 + (1 : Int))) /\ ((r5.1.2.2.2.2.2.2.1 + (1 : Int)) <= (9223372036854775807 : Int))))
     (some (Sum.inl (((), ((), (r5.1.2.2.1, ((), ((), (r5.1.2.2.2.2.2.1, ((r5.1.2.2.2.2.2.2.1 + (1 : Int)), ()))))))), (r5.2.1, (r5.2.2.1, (r5.2.2.2.1, ((r5.2.2.2.2.1 ++ (false :: ([] : List Bool))), ())))))))))
   else
   (some (Sum.inr (((), ((), (r5.1.2.2.1, ((), ((), ()))))), (r5.2.1, (r5.2.2.1, (r5.2.2.2.1, (r5.2.2.2.2.1, ())))))))))
def go18_l2 : ((Unit × (Unit × (Int × Unit))) × (Fn × ((List Bool) × Unit))) -> Option (((Unit × (Unit × (Int × Unit))) × (Fn × ((List Bool) × Unit))) ⊕ ((Unit × Unit) ⊕ ((Bool × Unit) × Unit))) := (fun (r4 : ((Unit × (Unit × (Int × Unit))) × (Fn × ((List Bool) × Unit)))) => (bif (decide (r4.1.2.2.1 < ((r4.2.1.blocks.length : Nat) : Int))) then
   (grd (okB (((0 : Int) <= r4.1.2.2.1) /\ (r4.1.2.2.1 < ((r4.2.1.blocks.length : Nat) : Int))))
    (bif (decide ((4096 : Int) < (((r4.2.1.blocks.getD r4.1.2.2.1.toNat Block.z).insts.length : Nat) : Int))) then
     (some (Sum.inr (Sum.inr ((false, ()), ()))))
     else
     (bif (decide ((r4.2.1.blocks.getD r4.1.2.2.1.toNat Block.z).pipeline < (0 : Int))) then
      (some (Sum.inr (Sum.inr ((false, ()), ()))))
      else
      (bif (decide ((256 : Int) < (r4.2.1.blocks.getD r4.1.2.2.1.toNat Block.z).pipeline)) then
       (some (Sum.inr (Sum.inr ((false, ()), ()))))
       else
       (bif (decide ((r4.2.1.blocks.getD r4.1.2.2.1.toNat Block.z).unroll < (0 : Int))) then
        (some (Sum.inr (Sum.inr ((false, ()), ()))))
        else
        (bif (decide ((64 : Int) < (r4.2.1.blocks.getD r4.1.2.2.1.toNat Block.z).unroll)) then
         (some (Sum.inr (Sum.inr ((false, ()), ()))))
         else
         (bif (decide ((r4.2.1.blocks.getD r4.1.2.2.1.toNat Block.z).line < (0 : Int))) then
          (some (Sum.inr (Sum.inr ((false, ()), ()))))
          else
          (bif (decide ((2147483647 : Int) < (r4.2.1.blocks.getD r4.1.2.2.1.toNat Block.z).line)) then
           (some (Sum.inr (Sum.inr ((false, ()), ()))))
           else
           (callB (whileO (go18_l3) (((), ((), (r4.1.2.2.1, ((), ((), (((r4.2.1.widths.length : Nat) : Int), ((0 : Int), ()))))))), (r4.2.1, (r4.2.2.1, ((r4.2.1.blocks.getD r4.1.2.2.1.toNat Block.z), (([] : List Bool), ()))))))
            (fun (z1 : ((Unit × (Unit × (Int × (Unit × (Unit × Unit))))) × (Fn × ((List Bool) × (Block × ((List Bool) × Unit)))))) => (callB (whileO (go18_l4) (((), ((), (z1.1.2.2.1, ((), ((), ((0 : Int), ())))))), (z1.2.1, (z1.2.2.1, (z1.2.2.2.1, (z1.2.2.2.2.1, ()))))))
              (fun (z2 : (((Unit × (Unit × (Int × (Unit × (Unit × Unit))))) × (Fn × ((List Bool) × (Block × ((List Bool) × Unit))))) ⊕ ((Bool × Unit) × Unit))) => (sumO (fun (z3 : ((Unit × (Unit × (Int × (Unit × (Unit × Unit))))) × (Fn × ((List Bool) × (Block × ((List Bool) × Unit)))))) => (callB (whileO (go18_l5) (((), ((), (z3.1.2.2.1, ((), ((), ((0 : Int), ())))))), (z3.2.1, (z3.2.2.1, (z3.2.2.2.1, (z3.2.2.2.2.1, ()))))))
                  (fun (z4 : (((Unit × (Unit × (Int × (Unit × (Unit × Unit))))) × (Fn × ((List Bool) × (Block × ((List Bool) × Unit))))) ⊕ ((Bool × Unit) × Unit))) => (sumO (fun (z5 : ((Unit × (Unit × (Int × (Unit × (Unit × Unit))))) × (Fn × ((List Bool) × (Block × ((List Bool) × Unit)))))) => (callB (grd (okB ((Fn.ok z5.2.1) /\ ((Term.ok (Term.mk z5.2.2.2.1.term.kind z5.2.2.2.1.term.cond z5.2.2.2.1.term.to z5.2.2.2.1.term.rets)) /\ (z5.2.2.2.2.1.length = z5.2.1.widths.length))))
                       (some ((Sp.termOk z5.2.1 (Term.mk z5.2.2.2.1.term.kind z5.2.2.2.1.term.cond z5.2.2.2.1.term.to z5.2.2.2.1.term.rets) z5.2.2.2.2.1), ())))
                      (fun (r5 : (Bool × Unit)) => (bif (!r5.1) then
                        (some (Sum.inr (Sum.inr ((false, ()), ()))))
                        else
                        (grd (okB (((-(9223372036854775808 : Int)) <= (z5.1.2.2.1 + (1 : Int))) /\ ((z5.1.2.2.1 + (1 : Int)) <= (9223372036854775807 : Int))))
                         (some (Sum.inl (((), ((), ((z5.1.2.2.1 + (1 : Int)), ()))), (z5.2.1, (z5.2.2.1, ()))))))))))
                    (fun (z5 : ((Bool × Unit) × Unit)) => (some (Sum.inr (Sum.inr ((z5.1.1, ()), ()))))) z4))))
                (fun (z3 : ((Bool × Unit) × Unit)) => (some (Sum.inr (Sum.inr ((z3.1.1, ()), ()))))) z2)))))))))))))
   else
   (some (Sum.inr (Sum.inl ((), ()))))))
def go18_l1 : ((Unit × (Unit × (Int × (Int × Unit)))) × (Fn × ((List Bool) × Unit))) -> Option (((Unit × (Unit × (Int × (Int × Unit)))) × (Fn × ((List Bool) × Unit))) ⊕ ((Unit × (Unit × Unit)) × (Fn × ((List Bool) × Unit)))) := (fun (r4 : ((Unit × (Unit × (Int × (Int × Unit)))) × (Fn × ((List Bool) × Unit)))) => (bif (decide (r4.1.2.2.2.1 < r4.1.2.2.1)) then
   (grd (okB ((((r4.2.2.1.length + 1) * (1 : Nat)) <= (140737488355328 : Nat)) /\ ((r4.2.2.1.length + 1) <= (281474976710656 : Nat))))
    (grd (okB (((-(9223372036854775808 : Int)) <= (r4.1.2.2.2.1 + (1 : Int))) /\ ((r4.1.2.2.2.1 + (1 : Int)) <= (9223372036854775807 : Int))))
     (some (Sum.inl (((), ((), (r4.1.2.2.1, ((r4.1.2.2.2.1 + (1 : Int)), ())))), (r4.2.1, ((r4.2.2.1 ++ (false :: ([] : List Bool))), ())))))))
   else
   (some (Sum.inr (((), ((), ())), (r4.2.1, (r4.2.2.1, ())))))))
def go18 (x0 : Fn) : (Option (Bool × Unit)) :=
 (callB (grd (okB ((ByteArray.size x0.name) <= (9223372036854775807 : Nat)))
   (some ((Sp.ident x0.name), ())))
  (fun (r0 : (Bool × Unit)) => (bif (!r0.1) then
    (some (false, ()))
    else
    (callB (grd (okB (Fn.ok x0))
      (some ((Sp.memOk x0), ())))
     (fun (r1 : (Bool × Unit)) => (bif (!r1.1) then
       (some (false, ()))
       else
       (callB (grd (okB (x0.widths.length <= LEN))
         (some ((Sp.widths x0.widths (65536 : Int)), ())))
        (fun (r2 : (Bool × Unit)) => (bif (!r2.1) then
          (some (false, ()))
          else
          (callB (grd (okB (x0.rets.length <= LEN))
            (some ((Sp.widths x0.rets (64 : Int)), ())))
           (fun (r3 : (Bool × Unit)) => (bif (!r3.1) then
             (some (false, ()))
             else
             (bif (decide (((x0.blocks.length : Nat) : Int) < (1 : Int))) then
              (some (false, ()))
              else
              (bif (decide ((1024 : Int) < ((x0.blocks.length : Nat) : Int))) then
               (some (false, ()))
               else
               (callB (whileO (go18_l1) (((), ((), (((x0.widths.length : Nat) : Int), ((0 : Int), ())))), (x0, (([] : List Bool), ()))))
                (fun (z0 : ((Unit × (Unit × Unit)) × (Fn × ((List Bool) × Unit)))) => (callB (whileO (go18_l2) (((), ((), ((0 : Int), ()))), (z0.2.1, (z0.2.2.1, ()))))
                  (fun (z1 : ((Unit × Unit) ⊕ ((Bool × Unit) × Unit))) => (sumO (fun (z2 : (Unit × Unit)) => (some (true, ())))
                    (fun (z2 : ((Bool × Unit) × Unit)) => (some (z2.1.1, ()))) z1)))))))))))))))))))
theorem run18 (x0 : Fn) : runF (P := Try.prog) [c14, c44, c45, c46, c47, c48, c49, c50, c51] Try.f18 ann18 [(0, (.st 6))] [] .b [] (x0, ()) () = go18 x0 := by kernel_rfl
def elimO {σ X : Type} (x : Option σ) (A : σ -> X) (B : X) : X := match x with
 | some s => A s
 | none => B
def foldO {σ α : Type} (g : σ -> α -> Option σ) : List α -> σ -> Option σ
 | [], s => some s
 | a :: l, s => match g s a with
  | some s' => foldO g l s'
  | none => none
theorem whileO_fold {σ β D X : Type} {f : D -> Option (D ⊕ X)} {l : List β} {y0 : D} (z : β) (g : σ -> β -> Option σ) (I : σ -> Prop) {st : Nat -> σ -> D} {s0 : σ} (hy : y0 = st 0 s0) (h0 : I s0) (hI : ∀ s a s', I s -> g s a = some s' -> I s') (A : σ -> X) (B : X)
  (h1 : ∀ i s, i < l.length -> I s -> f (st i s) = some (elimO (g s (l.getD i z)) (fun s' => .inl (st (i + 1) s')) (.inr B))) (h2 : ∀ s, I s -> f (st l.length s) = some (.inr (A s))) :
  whileO f y0 = some (elimO (foldO g l s0) A B) := by
 subst hy
 have key : ∀ (r : List β) (i : Nat) (s : σ), l.drop i = r -> i + r.length = l.length -> I s -> whileO f (st i s) = some (elimO (foldO g r s) A B) := by
  intro r
  induction r with
  | nil =>
   intro i s hd hi hs
   rw [whileO_eq, show i = l.length by simpa using hi, h2 s hs]
   rfl
  | cons a r ih =>
   intro i s hd hi hs
   have hlt : i < l.length := by simp at hi; omega
   have ha : l.getD i z = a := by
    have := congrArg (·[0]?) hd
    simp only [List.getElem?_drop, Nat.add_zero, List.getElem?_cons_zero] at this
    rw [List.getD_eq_getElem?_getD, this]; rfl
   have hdrop : l.drop (i + 1) = r := by
    have := congrArg (·.drop 1) hd
    simpa [List.drop_drop, Nat.add_comm] using this
   rw [whileO_eq, h1 i s hlt hs, ha]
   simp only [foldO]
   cases hg : g s a with
   | none => rfl
   | some s' => exact ih (i + 1) s' hdrop (by simp at hi; omega) (hI s a s' hs hg)
 exact key l 0 s0 rfl (by simp) h0
abbrev DK := List Bool × List Bool
def Sp.parStep (f : Fn) (s : DK) (v : Int) : Option DK := if Sp.within f v = true /\ s.1.getD v.toNat false = false then some (s.1.set v.toNat true, s.2.set v.toNat true) else none
def Sp.destOk (f : Fn) (d : List Bool) (x : Inst) : Bool := if Sp.result x.op = true then Sp.within f x.dest && !(d.getD x.dest.toNat false) else decide (x.dest = -1)
def Sp.mark (s : DK) (x : Inst) : DK := if Sp.result x.op = true then (s.1.set x.dest.toNat true, s.2.set x.dest.toNat true) else s
def Sp.insStep (f : Fn) (s : DK) (x : Inst) : Option DK :=
 if Sp.arity x.op = x.args.length /\ Sp.used f x.args s.2 = true /\ Sp.destOk f s.1 x = true /\ Sp.instrOk f x = true then some (Sp.mark s x) else none
def Sp.limOk (b : Block) : Bool :=
 !decide (4096 < (b.insts.length : Int)) && !decide (b.pipeline < 0) && !decide (256 < b.pipeline) && !decide (b.unroll < 0) && !decide (64 < b.unroll) && !decide (b.line < 0) && !decide (2147483647 < b.line)
def Sp.blkStep (f : Fn) (d : List Bool) (b : Block) : Option (List Bool) :=
 if Sp.limOk b = true then (match foldO (Sp.parStep f) b.params (d, List.replicate f.widths.length false) with
  | some s => match foldO (Sp.insStep f) b.insts s with
   | some s' => if Sp.termOk f b.term s'.2 = true then some s'.1 else none
   | none => none
  | none => none) else none
def Sp.headOk (f : Fn) : Bool := Sp.ident f.name && Sp.memOk f && Sp.widths f.widths 65536 && Sp.widths f.rets 64 && !decide ((f.blocks.length : Int) < 1) && !decide (1024 < (f.blocks.length : Int))
def Sp.valid (f : Fn) : Bool := Sp.headOk f && (foldO (Sp.blkStep f) f.blocks (List.replicate f.widths.length false)).isSome
theorem parStep_len (f : Fn) : ∀ s a s', (s.1.length = f.widths.length /\ s.2.length = f.widths.length) -> Sp.parStep f s a = some s' -> (s'.1.length = f.widths.length /\ s'.2.length = f.widths.length) := by
 intro s a s' hs h
 simp only [Sp.parStep] at h
 split at h
 ·injection h with h; subst h; simpa using hs
 ·cases h
theorem insStep_len (f : Fn) : ∀ s a s', (s.1.length = f.widths.length /\ s.2.length = f.widths.length) -> Sp.insStep f s a = some s' -> (s'.1.length = f.widths.length /\ s'.2.length = f.widths.length) := by
 intro s a s' hs h
 simp only [Sp.insStep] at h
 split at h
 ·injection h with h; subst h; unfold Sp.mark; split <;> simpa using hs
 ·cases h
theorem foldO_inv {σ α : Type} {g : σ -> α -> Option σ} {I : σ -> Prop} (h : ∀ s a s', I s -> g s a = some s' -> I s') : ∀ (l : List α) (s s' : σ), I s -> foldO g l s = some s' -> I s'
 | [], s, s', hi, e => by injection e with e; exact e ▸ hi
 | a :: l, s, s', hi, e => by
  simp only [foldO] at e
  cases hg : g s a with
  | none => rw [hg] at e; cases e
  | some s1 => rw [hg] at e; exact foldO_inv h l s1 s' (h s a s1 hi hg) e
theorem arity_le (op : Int) : Sp.arity op <= 3 := by
 unfold Sp.arity
 repeat' split
 all_goals decide
section
variable {f : Fn} {b : Block} {d k : List Bool} {i : Int}
theorem fill_d (f : Fn) (hw : f.widths.length <= 65536) : whileO go18_l1 (((), (), (f.widths.length : Int), 0, ()), f, [], ()) = some (((), (), ()), f, List.replicate f.widths.length false, ()) := by
 unfold go18_l1
 refine whileO_to (st := fun i => (((), (), (f.widths.length : Int), (i : Int), ()), f, List.replicate i false, ())) rfl f.widths.length (fun i hi => ?_) ?_
 ·have hl : (List.replicate i false).length = i := List.length_replicate
  simp (maxSteps := 1000000) (disch := ((try dsimp only); omega)) only [↓gsA, gsB]
  rw [List.replicate_succ']
 ·simp (maxSteps := 1000000) (disch := ((try dsimp only); omega)) only [↓gsA, gsB]
theorem fill_k (hw : f.widths.length <= 65536) : whileO go18_l3 (((), (), i, (), (), (f.widths.length : Int), 0, ()), f, d, b, [], ()) = some (((), (), i, (), (), ()), f, d, b, List.replicate f.widths.length false, ()) := by
 unfold go18_l3
 refine whileO_to (st := fun j => (((), (), i, (), (), (f.widths.length : Int), (j : Int), ()), f, d, b, List.replicate j false, ())) rfl f.widths.length (fun j hj => ?_) ?_
 ·have hl : (List.replicate j false).length = j := List.length_replicate
  simp (maxSteps := 1000000) (disch := ((try dsimp only); omega)) only [↓gsA, gsB]
  rw [List.replicate_succ']
 ·simp (maxSteps := 1000000) (disch := ((try dsimp only); omega)) only [↓gsA, gsB]
theorem pars_loop (hb : b.ok) (hd : d.length = f.widths.length) (hk : k.length = f.widths.length) : whileO go18_l4 (((), (), i, (), (), 0, ()), f, d, b, k, ()) =
  some (elimO (foldO (Sp.parStep f) b.params (d, k)) (fun s => .inl (((), (), i, (), (), ()), f, s.1, b, s.2, ())) (.inr ((false, ()), ()))) := by
 have hp : b.params.length <= LEN := hb.1.len
 rw [lenVal] at hp
 unfold go18_l4
 refine whileO_fold (l := b.params) 0 (Sp.parStep f) (fun s => s.1.length = f.widths.length /\ s.2.length = f.widths.length) (st := fun j s => (((), (), i, (), (), (j : Int), ()), f, s.1, b, s.2, ())) (s0 := (d, k)) rfl ⟨hd, hk⟩ (parStep_len f) _ _ (fun j s hj hs => ?_) (fun s hs => ?_)
 ·obtain ⟨h1, h2⟩ := hs
  unfold Sp.parStep
  simp (maxSteps := 1000000) (disch := ((try dsimp only); omega)) only [↓gsA, gsB]
  cases hw : Sp.within f (b.params.getD j 0) with
  | false => simp [elimO]
  | true =>
   obtain ⟨q1, q2⟩ := within_iff.1 hw
   simp (maxSteps := 1000000) (disch := ((try dsimp only); omega)) only [↓gsA, gsB]
   cases hx : s.1.getD (b.params.getD j 0).toNat false with
   | true => simp [elimO]
   | false =>
    simp (maxSteps := 1000000) (disch := ((try dsimp only); omega)) only [↓gsA, gsB]
    simp [elimO]
 ·simp (maxSteps := 1000000) (disch := ((try dsimp only); omega)) only [↓gsA, gsB]
theorem j2_18 {x : Inst} {j : Nat} (hj : j <= 4096) (hd : d.length = f.widths.length) (hk : k.length = f.widths.length) (hp : Sp.instPre f x) : go18_j2 go18_j1 (((), (), i, (), (), (j : Int), (), ()), f, d, b, k, x, ()) =
  some (if Sp.instrOk f x = true then .inl (((), (), i, (), (), ((j + 1 : Nat) : Int), ()), f, (Sp.mark (d, k) x).1, b, (Sp.mark (d, k) x).2, ()) else .inr (.inr ((false, ()), ()))) := by
 unfold go18_j2 go18_j1
 rw [grd_ok hp]
 unfold Sp.mark
 simp (maxSteps := 1000000) (disch := ((try dsimp only); omega)) only [↓gsA, gsB]
 cases h1 : Sp.instrOk f x with
 | false => rfl
 | true =>
  cases h2 : Sp.result x.op with
  | false =>
   simp (maxSteps := 1000000) (disch := ((try dsimp only); omega)) only [↓gsA, gsB]
  | true =>
   obtain ⟨h3, h4⟩ := hp.2.2 h2
   simp (maxSteps := 1000000) (disch := ((try dsimp only); omega)) only [↓gsA, gsB]
theorem inss_loop (hf : f.ok) (hb : b.ok) (hlim : b.insts.length <= 4096) (hd : d.length = f.widths.length) (hk : k.length = f.widths.length) : whileO go18_l5 (((), (), i, (), (), 0, ()), f, d, b, k, ()) =
  some (elimO (foldO (Sp.insStep f) b.insts (d, k)) (fun s => .inl (((), (), i, (), (), ()), f, s.1, b, s.2, ())) (.inr ((false, ()), ()))) := by
 unfold go18_l5
 refine whileO_fold (l := b.insts) Inst.z (Sp.insStep f) (fun s => s.1.length = f.widths.length /\ s.2.length = f.widths.length) (st := fun j s => (((), (), i, (), (), (j : Int), ()), f, s.1, b, s.2, ())) (s0 := (d, k)) rfl ⟨hd, hk⟩ (insStep_len f) _ _ (fun j s hj hs => ?_) (fun s hs => ?_)
 ·obtain ⟨h1, h2⟩ := hs
  have hx : (b.insts.getD j Inst.z).ok := getD_ok hb.2.1 _ hj
  have hal : (b.insts.getD j Inst.z).args.length <= LEN := hx.2.2.1.len
  simp (maxSteps := 1000000) (disch := ((try dsimp only); omega)) only [↓gsA, gsB]
  generalize b.insts.getD j Inst.z = x at *
  unfold Sp.insStep
  by_cases h3 : Sp.arity x.op = x.args.length
  rotate_left
  ·simp [h3, elimO]
  cases h4 : Sp.used f x.args s.2 with
  | false => simp [h3, elimO]
  | true =>
   simp (maxSteps := 1000000) (disch := ((try dsimp only); omega)) only [↓gsA, gsB]
   have pre : (Sp.result x.op = true -> 0 <= x.dest /\ x.dest < f.widths.length) -> Sp.instPre f x := fun hr => ⟨by have := arity_le x.op; omega, fun n hn => ⟨(used_get h4 hn).1, (used_get h4 hn).2.1⟩, hr⟩
   cases h5 : Sp.result x.op with
   | false =>
    simp (maxSteps := 1000000) (disch := ((try dsimp only); omega)) only [↓gsA, gsB]
    rw [j2_18 (by omega) h1 h2 (pre (fun h => by rw [h5] at h; cases h))]
    by_cases h6 : x.dest = -1
    ·cases h7 : Sp.instrOk f x <;> simp [Sp.destOk, h5, h6, h3, elimO, h7]
    ·simp [Sp.destOk, h5, h6, elimO]
   | true =>
    cases h6 : Sp.within f x.dest with
    | false => simp [Sp.destOk, h5, h6, elimO]
    | true =>
     obtain ⟨q1, q2⟩ := within_iff.1 h6
     simp (maxSteps := 1000000) (disch := ((try dsimp only); omega)) only [↓gsA, gsB]
     rw [j2_18 (by omega) h1 h2 (pre (fun _ => ⟨q1, q2⟩))]
     cases h8 : s.1.getD x.dest.toNat false with
     | true =>
      rw [List.getD_eq_getElem?_getD] at h8
      simp [Sp.destOk, h5, h6, elimO, h8]
     | false =>
      rw [List.getD_eq_getElem?_getD] at h8
      cases h7 : Sp.instrOk f x <;> simp [Sp.destOk, h5, h6, h3, elimO, h7, h8]
 ·simp (maxSteps := 1000000) (disch := ((try dsimp only); omega)) only [↓gsA, gsB]
theorem blkStep_len (f : Fn) : ∀ d b d', d.length = f.widths.length -> Sp.blkStep f d b = some d' -> d'.length = f.widths.length := by
 intro d b d' hd h
 simp only [Sp.blkStep] at h
 split at h
 ·split at h
  ·rename_i s1 h1
   have i1 := foldO_inv (parStep_len f) _ _ _ ⟨hd, List.length_replicate⟩ h1
   split at h
   ·rename_i s2 h2
    have i2 := foldO_inv (insStep_len f) _ _ _ i1 h2
    split at h
    ·injection h with h; subst h; exact i2.1
    ·cases h
   ·cases h
  ·cases h
 ·cases h
theorem blks_loop (hf : f.ok) (hw : f.widths.length <= 65536) (hbl : f.blocks.length <= 1024) : whileO go18_l2 (((), (), 0, ()), f, List.replicate f.widths.length false, ()) =
  some (elimO (foldO (Sp.blkStep f) f.blocks (List.replicate f.widths.length false)) (fun _ => .inl ((), ())) (.inr ((false, ()), ()))) := by
 unfold go18_l2
 refine whileO_fold (l := f.blocks) Block.z (Sp.blkStep f) (fun d => d.length = f.widths.length) (st := fun j d => (((), (), (j : Int), ()), f, d, ())) rfl List.length_replicate (blkStep_len f) _ _ (fun j d hj hd => ?_) (fun s hs => ?_)
 ·have hbk : (f.blocks.getD j Block.z).ok := Fn.ok_blk hf hj
  simp (maxSteps := 1000000) (disch := ((try dsimp only); omega)) only [↓gsA, gsB]
  generalize f.blocks.getD j Block.z = b at *
  unfold Sp.blkStep Sp.limOk
  by_cases a1 : 4096 < (b.insts.length : Int)
  ·simp [a1, elimO]
  by_cases a2 : b.pipeline < 0
  ·simp [a2, elimO, a1]
  by_cases a3 : 256 < b.pipeline
  ·simp [a3, elimO, a1, a2]
  by_cases a4 : b.unroll < 0
  ·simp [a4, elimO, a1, a2, a3]
  by_cases a5 : 64 < b.unroll
  ·simp [a5, elimO, a1, a2, a3, a4]
  by_cases a6 : b.line < 0
  ·simp [a6, elimO, a1, a2, a3, a4, a5]
  by_cases a7 : 2147483647 < b.line
  ·simp [a7, elimO, a1, a2, a3, a4, a5, a6]
  rw [if_neg a1, if_neg a2, if_neg a3, if_neg a4, if_neg a5, if_neg a6, if_neg a7]
  have hlim : (!decide (4096 < (b.insts.length : Int)) && !decide (b.pipeline < 0) && !decide (256 < b.pipeline) && !decide (b.unroll < 0) && !decide (64 < b.unroll) && !decide (b.line < 0) && !decide (2147483647 < b.line)) = true := by
   simp [a1, a2, a3, a4, a5, a6, a7]
  rw [if_pos hlim]
  refine callB_of (fill_k hw) ?_
  refine callB_of (pars_loop hbk hd List.length_replicate) ?_
  cases h1 : foldO (Sp.parStep f) b.params (d, List.replicate f.widths.length false) with
  | none => rfl
  | some s1 =>
   have i1 := foldO_inv (parStep_len f) _ _ _ ⟨hd, List.length_replicate⟩ h1
   show sumO _ _ (Sum.inl _) = _
   rw [sumO_inl]
   refine callB_of (inss_loop hf hbk (show b.insts.length <= 4096 by omega) i1.1 i1.2) ?_
   cases h2 : foldO (Sp.insStep f) b.insts s1 with
   | none => simp only [h2, elimO, sumO_inr]
   | some s2 =>
    have i2 := foldO_inv (insStep_len f) _ _ _ i1 h2
    simp only [h2, elimO, sumO_inl]
    rw [grd_ok ⟨hf, hbk.2.2.1, i2.2⟩]
    show (bif Sp.termOk f b.term s2.2 then _ else _) = _
    cases h3 : Sp.termOk f b.term s2.2 with
    | false => rfl
    | true =>
     simp (maxSteps := 1000000) (disch := ((try dsimp only); omega)) only [↓gsA, gsB]
 ·simp (maxSteps := 1000000) (disch := ((try dsimp only); omega)) only [↓gsA, gsB]
theorem ok18 (f : Fn) (hf : f.ok) : go18 f = some (Sp.valid f, ()) := by
 have hwl : f.widths.length <= LEN := hf.2.1.len
 have hrl : f.rets.length <= LEN := hf.2.2.2.2.1.len
 have hns : f.name.size <= 9223372036854775807 := hf.1
 unfold go18
 rw [grd_ok hns, grd_ok hf, grd_ok hwl, grd_ok hrl]
 unfold Sp.valid Sp.headOk
 simp (maxSteps := 1000000) (disch := ((try dsimp only); omega)) only [↓gsA, gsB]
 cases h1 : Sp.ident f.name with
 | false => rfl
 | true =>
  cases h2 : Sp.memOk f with
  | false => rfl
  | true =>
   cases h3 : Sp.widths f.widths 65536 with
   | false => rfl
   | true =>
    cases h4 : Sp.widths f.rets 64 with
    | false => rfl
    | true =>
     have hw : f.widths.length <= 65536 := by
      simp only [Sp.widths, Bool.and_eq_true, decide_eq_true_eq] at h3
      omega
     by_cases h5 : (f.blocks.length : Int) < 1
     ·simp (maxSteps := 1000000) (disch := ((try dsimp only); omega)) only [↓gsA, gsB]
      rw [decide_eq_true h5]; rfl
     by_cases h6 : 1024 < (f.blocks.length : Int)
     ·simp (maxSteps := 1000000) (disch := ((try dsimp only); omega)) only [↓gsA, gsB]
      rw [decide_eq_true h6, decide_eq_false h5]; rfl
     simp (maxSteps := 1000000) (disch := ((try dsimp only); omega)) only [↓gsA, gsB]
     refine callB_of (fill_d f hw) ?_
     refine callB_of (blks_loop hf hw (show f.blocks.length <= 1024 by omega)) ?_
     rw [decide_eq_false h5, decide_eq_false h6]
     cases foldO (Sp.blkStep f) f.blocks (List.replicate f.widths.length false) <;> rfl
end
def c18 : Ctr Try.prog := mkCtr 18 Try.f18 Try.func18 [c14, c44, c45, c46, c47, c48, c49, c50, c51] ann18 [(0, (.st 6))] [] .b [] (fun x _ => grd (okB x.1.ok) (some (Sp.valid x.1, ()))) (fun x _ r h => FO (run18 x.1) (ok18 x.1) h)
end
end Go.Abs
namespace Go.Abs
open Go Go.Proofs
noncomputable section
def ann53 : Ann := (.seq .o (.seq .o .o))
def go53 (x0 : Int) : (Option (Bool × Unit)) :=
 (bif (!(decide (x0 = (26 : Int)))) then
  (some ((!(decide (x0 = (28 : Int)))), ()))
  else
  (some (false, ())))
theorem run53 (x0 : Int) : runF (P := Try.prog) [] Try.f53 ann53 [(0, (.i .i64))] [] .b [] (x0, ()) () = go53 x0 := by kernel_rfl
def findI (p : Nat -> Bool) : Nat -> Nat -> Option Nat
 | 0, _ => none
 | n + 1, i => if p i = true then some i else findI p n (i + 1)
theorem findI_some {p : Nat -> Bool} : ∀ {n i k : Nat}, findI p n i = some k -> i <= k /\ k < i + n /\ p k = true /\ ∀ j, i <= j -> j < k -> p j = false
 | 0, i, k, h => by cases h
 | n + 1, i, k, h => by
  simp only [findI] at h
  split at h
  ·rename_i hp
   injection h with h
   subst h
   exact ⟨Nat.le_refl _, by omega, hp, fun j h1 h2 => by omega⟩
  ·rename_i hp
   obtain ⟨h1, h2, h3, h4⟩ := findI_some h
   refine ⟨by omega, by omega, h3, fun j h5 h6 => ?_⟩
   by_cases e : j = i
   ·subst e; simpa using hp
   ·exact h4 j (by omega) h6
theorem findI_none {p : Nat -> Bool} : ∀ {n i : Nat}, findI p n i = none -> ∀ j, i <= j -> j < i + n -> p j = false
 | 0, i, h, j, h1, h2 => by omega
 | n + 1, i, h, j, h1, h2 => by
  simp only [findI] at h
  split at h
  ·cases h
  ·rename_i hp
   by_cases e : j = i
   ·subst e; simpa using hp
   ·exact findI_none h j (by omega) (by omega)
theorem whileO_find {D X : Type} {f : D -> Option (D ⊕ X)} {st : Nat -> D} {y0 : D} (hy : y0 = st 0) (n : Nat) (p : Nat -> Bool) (A : X) (B : Nat -> X) (h1 : ∀ i, i < n -> p i = true -> f (st i) = some (.inr (B i))) (h2 : ∀ i, i < n -> p i = false -> f (st i) = some (.inl (st (i + 1))))
  (h3 : f (st n) = some (.inr A)) : whileO f y0 = some (elimO (findI p n 0) B A) := by
 subst hy
 have key : ∀ k i, i + k = n -> whileO f (st i) = some (elimO (findI p k i) B A) := by
  intro k
  induction k with
  | zero => intro i hi; rw [whileO_eq, show i = n by omega, h3]; rfl
  | succ k ih =>
   intro i hi
   rw [whileO_eq]
   simp only [findI]
   cases hp : p i with
   | true => rw [h1 i (by omega) hp]; rfl
   | false => rw [h2 i (by omega) hp]; exact ih (i + 1) (by omega)
 exact key n 0 (by omega)
def Sp.named (op : Int) : Bool := !decide (op = 26) && !decide (op = 28)
theorem ok53 (op : Int) : go53 op = some (Sp.named op, ()) := by
 unfold go53 Sp.named
 by_cases h : op = 26 <;> simp [h]
def c53 : Ctr Try.prog := mkCtr 53 Try.f53 Try.func53 [] ann53 [(0, (.i .i64))] [] .b [] (fun x _ => some (Sp.named x.1, ())) (fun x _ r h => FE (run53 x.1) (ok53 x.1) h)
def Fn.short (f : Fn) : Prop := f.blocks.length <= 1024 /\ ∀ i, i < f.blocks.length -> (f.blk i).insts.length <= 4096
end
end Go.Abs
namespace Go.Abs
open Go Go.Proofs
noncomputable section
def ann149 : Ann := (.seq .o (.seq .o .o))
def go149 (x0 : Int) : (Option (Int × Unit)) :=
 (some ((if ((64 : Int) < (if ((0 : Int) > x0) then (0 : Int) else x0)) then (64 : Int) else (if ((0 : Int) > x0) then (0 : Int) else x0)), ()))
theorem run149 (x0 : Int) : runF (P := Try.prog) [] Try.f149 ann149 [(0, (.i .i64))] [] (.i .i64) [] (x0, ()) () = go149 x0 := by kernel_rfl
def ann134 : Ann := (.seq .o (.seq .o .o))
def go134 (x0 : Int) : (Option (Bool × Unit)) :=
 (bif (decide ((15 : Int) <= x0)) then
  (some ((decide (x0 <= (20 : Int))), ()))
  else
  (some (false, ())))
theorem run134 (x0 : Int) : runF (P := Try.prog) [] Try.f134 ann134 [(0, (.i .i64))] [] .b [] (x0, ()) () = go134 x0 := by kernel_rfl
def Sp.wn (w : Int) : Nat := (Sp.width w).toNat
theorem wn_le (w : Int) : Sp.wn w <= 64 := by have := width_le w; unfold Sp.wn; omega
theorem wn_eq (w : Int) : (Sp.wn w : Int) = Sp.width w := by have := width_le w; unfold Sp.wn; omega
def Sp.pw (n : Nat) : Int := ((2 ^ n : Nat) : Int)
theorem pw_pos (n : Nat) : 0 < Sp.pw n := by unfold Sp.pw; exact Int.natCast_pos.2 (Nat.two_pow_pos n)
theorem pw_le {n : Nat} (h : n <= 64) : Sp.pw n <= 18446744073709551616 := by
 unfold Sp.pw
 have : 2 ^ n <= 2 ^ 64 := Nat.pow_le_pow_right (by decide) h
 omega
theorem pw_add (n m : Nat) : Sp.pw (n + m) = Sp.pw n * Sp.pw m := by unfold Sp.pw; rw [Nat.pow_add]; exact Int.natCast_mul _ _
theorem pw_eq (n : Nat) : (2 : Int) ^ n = Sp.pw n := by unfold Sp.pw; exact (Int.natCast_pow 2 n).symm
def Sp.low (w x : Int) : Int := x % Sp.pw (Sp.wn w)
theorem wrap64 (n : Int) : IntKind.u64.wrap n = n % 18446744073709551616 := IntKind.wrap_u64 n
theorem and_u64 {a b : Int} (ha : U64 a) (hb : U64 b) : bitOp .and .u64 a b = ((a.toNat &&& b.toNat : Nat) : Int) := by
 obtain ⟨m, rfl⟩ := Int.eq_ofNat_of_zero_le ha.1
 obtain ⟨n, rfl⟩ := Int.eq_ofNat_of_zero_le hb.1
 have h1 : m < 18446744073709551616 := by have := ha.2; omega
 have h2 : n < 18446744073709551616 := by have := hb.2; omega
 have h3 : m &&& n <= m := Nat.and_le_left
 show IntKind.u64.wrap (((BitVec.ofInt 64 (m : Int) &&& BitVec.ofInt 64 (n : Int) : BitVec 64).toNat : Nat) : Int) = _
 rw [BitVec.toNat_and, ofInt_u64 m h1, ofInt_u64 n h2, wrap64, Int.toNat_natCast, Int.toNat_natCast]
 omega
theorem and_mask {a : Int} (ha : U64 a) {n : Nat} (hn : n <= 64) : bitOp .and .u64 a (Sp.pw n - 1) = a % Sp.pw n := by
 have h1 := pw_pos n
 have h2 := pw_le hn
 rw [and_u64 ha ⟨by omega, by omega⟩]
 obtain ⟨m, rfl⟩ := Int.eq_ofNat_of_zero_le ha.1
 have e : (Sp.pw n - 1).toNat = 2 ^ n - 1 := by unfold Sp.pw; omega
 rw [e, Int.toNat_natCast, Nat.and_two_pow_sub_one_eq_mod]
 unfold Sp.pw
 exact Int.natCast_emod _ _
theorem ok149 (w : Int) : go149 w = some (Sp.width w, ()) := by unfold go149 Sp.width; rfl
def c149 : Ctr Try.prog := mkCtr 149 Try.f149 Try.func149 [] ann149 [(0, (.i .i64))] [] (.i .i64) [] (fun x _ => some (Sp.width x.1, ())) (fun x _ r h => FE (run149 x.1) (ok149 x.1) h)
theorem ok134 (op : Int) : go134 op = some (Sp.isCompare op, ()) := by
 unfold go134 Sp.isCompare
 by_cases h : 15 <= op <;> simp [h]
def c134 : Ctr Try.prog := mkCtr 134 Try.f134 Try.func134 [] ann134 [(0, (.i .i64))] [] .b [] (fun x _ => some (Sp.isCompare x.1, ())) (fun x _ r h => FE (run134 x.1) (ok134 x.1) h)
end
end Go.Abs
namespace Go.Abs
open Go Go.Proofs
noncomputable section
def ann127 : Ann := (.seq .o (.join ⟨[(0, (.i .i64))], []⟩ (.seq .o (.seq .o (.cond (.seq .o .o) .o))) (.seq .o .o)))
def go127 (x0 : Int) : (Option (Int × Unit)) :=
 (bif (decide ((Sp.width x0) = (0 : Int))) then
  (some ((0 : Int), ()))
  else
  (grd (okB (((-(9223372036854775808 : Int)) <= ((64 : Int) - (Sp.width x0))) /\ (((64 : Int) - (Sp.width x0)) <= (9223372036854775807 : Int))))
   (grd (okB ((0 : Int) <= ((64 : Int) - (Sp.width x0))))
    (some ((Int.fdiv (18446744073709551615 : Int) (@HPow.hPow Int Nat Int _ (2 : Int) (@Min.min Nat _ ((64 : Int) - (Sp.width x0)).toNat (Go.IntKind.bits Go.IntKind.u64)))), ())))))
theorem run127 (x0 : Int) : runF (P := Try.prog) [c149] Try.f127 ann127 [(0, (.i .i64))] [] (.i .u64) [] (x0, ()) () = go127 x0 := by kernel_rfl
theorem fdiv_pos {a b : Int} (h : 0 < b) : Int.fdiv a b = a / b := Int.fdiv_eq_ediv_of_nonneg a (by omega)
theorem shift_min {z : Int} (h1 : 0 <= z) (h2 : z <= 64) : min z.toNat (IntKind.bits .u64) = z.toNat := by
 show min z.toNat 64 = z.toNat
 omega
def Sp.mask (w : Int) : Int := Sp.pw (Sp.wn w) - 1
theorem ok127 (w : Int) : go127 w = some (Sp.mask w, ()) := by
 have hw := width_le w
 have hn := wn_eq w
 unfold go127 Sp.mask
 by_cases h : Sp.width w = 0
 ·have : Sp.wn w = 0 := by omega
  rw [decide_eq_true h, this]; rfl
 ·simp (maxSteps := 1000000) (disch := ((try dsimp only); omega)) only [↓gsA, gsB]
  have e := pw_add (Sp.wn w) (64 - Sp.wn w)
  rw [Nat.add_sub_cancel' (wn_le w)] at e
  have e2 : (64 - Sp.width w).toNat = 64 - Sp.wn w := by omega
  rw [shift_min (by omega) (by omega), e2, pw_eq, fdiv_pos (pw_pos _)]
  have hB := pw_pos (64 - Sp.wn w)
  have e3 : (18446744073709551615 : Int) = (Sp.pw (64 - Sp.wn w) - 1) + (Sp.pw (Sp.wn w) - 1) * Sp.pw (64 - Sp.wn w) := by
   rw [Int.sub_mul, <- e]
   have : Sp.pw 64 = 18446744073709551616 := by unfold Sp.pw; rfl
   omega
  rw [e3, Int.add_mul_ediv_right _ _ (by omega), Int.ediv_eq_zero_of_lt (by omega) (by omega)]
  simp
def c127 : Ctr Try.prog := mkCtr 127 Try.f127 Try.func127 [c149] ann127 [(0, (.i .i64))] [] (.i .u64) [] (fun x _ => some (Sp.mask x.1, ())) (fun x _ r h => FE (run127 x.1) (ok127 x.1) h)
def Sp.neg (w x : Int) : Bool := decide (Sp.pw (Sp.wn w) <= 2 * Sp.low w x /\ Sp.wn w ≠ 0)
end
end Go.Abs
namespace Go.Abs
open Go Go.Proofs
noncomputable section
def ann103 : Ann := (.seq .o (.seq .o .o))
def go103 (x0 : Int) (x1 : Int) : (Option (Int × Unit)) :=
 (some ((bitOp Go.BinOp.and Go.IntKind.u64 x1 (Sp.mask x0)), ()))
theorem run103 (x0 : Int) (x1 : Int) : runF (P := Try.prog) [c127] Try.f103 ann103 [(0, (.i .i64)), (1, (.i .u64))] [] (.i .u64) [] (x0, (x1, ())) () = go103 x0 x1 := by kernel_rfl
theorem ok103 (w x : Int) (hx : U64 x) : go103 w x = some (Sp.low w x, ()) := by
 unfold go103
 rw [show Sp.mask w = Sp.pw (Sp.wn w) - 1 from rfl, and_mask hx (wn_le w)]
 rfl
def c103 : Ctr Try.prog := mkCtr 103 Try.f103 Try.func103 [c127] ann103 [(0, (.i .i64)), (1, (.i .u64))] [] (.i .u64) [] (fun x _ => grd (okB (U64 x.2.1)) (some (Sp.low x.1 x.2.1, ()))) (fun x _ r h => FO (run103 x.1 x.2.1) (ok103 x.1 x.2.1) h)
end
end Go.Abs
namespace Go.Abs
open Go Go.Proofs
noncomputable section
theorem bytes_loop (b : ByteArray) : ∀ (k i : Nat) (r : List UInt8), i + k = b.size -> ByteArray.toList.loop b i r = r.reverse ++ b.data.toList.drop i
 | 0, i, r, h => by
  unfold ByteArray.toList.loop
  rw [if_neg (by omega)]
  have : b.data.toList.length = b.size := Array.length_toList
  rw [List.drop_eq_nil_of_le (by omega), List.append_nil]
 | k + 1, i, r, h => by
  unfold ByteArray.toList.loop
  rw [if_pos (by omega), bytes_loop b k (i + 1) _ (by omega)]
  have hi : i < b.data.size := by have : b.data.size = b.size := rfl; omega
  have hl : i < b.data.toList.length := by rw [Array.length_toList]; exact hi
  rw [List.drop_eq_getElem_cons hl]
  have : b.get! i = b.data.toList[i] := by
   have hi' : i < b.size := hi
   simp [ByteArray.get!, hi']
  rw [this]
  simp
theorem bytes_list (b : ByteArray) : b.toList = b.data.toList := by
 unfold ByteArray.toList
 rw [bytes_loop b b.size 0 [] (by omega)]
 simp
theorem bytes_beq (a b : ByteArray) : (a.toList == b.toList) = decide (a = b) := by
 rw [bytes_list, bytes_list]
 by_cases h : a = b
 ·subst h; simp
 ·rw [decide_eq_false h]
  have : a.data.toList ≠ b.data.toList := fun e => h (ByteArray.ext_iff.2 (Array.toList_inj.1 e))
  simpa using this
end
end Go.Abs
namespace Go.Abs
open Go Go.Proofs
noncomputable section
def ann80 : Ann := (.seq .o (.join ⟨[(0, .s)], []⟩ (.seq .o (.cond (.seq .o .o) .o)) (.join ⟨[], []⟩ (.seq .o (.block (.loop ⟨[(14, (.fz (.int .u8))), (15, (.i .i64)), (16, (.i .i64))], []⟩ [((.exit 0), ⟨[], []⟩), (.ret, ⟨[(2, .b)], []⟩)] (.seq .o (.join ⟨[(14, (.fz (.int .u8))), (15, (.i .i64)), (16, (.i .i64))], []⟩ (.cond .o .o) (.join ⟨[(14, (.fz (.int .u8))), (15, (.i .i64)), (16, (.i .i64))], []⟩ (.block (.seq .o (.seq .o (.seq .o (.cond .o .o))))) .o)))))) (.seq .o .o))))
def go80_j1 : (((List Int) × (Int × (Int × Unit))) × Unit) -> Option ((((List Int) × (Int × (Int × Unit))) × Unit) ⊕ ((Unit × Unit) ⊕ ((Bool × Unit) × Unit))) := (fun (z0 : (((List Int) × (Int × (Int × Unit))) × Unit)) => (grd (okB (((-(9223372036854775808 : Int)) <= (z0.1.2.2.1 + (1 : Int))) /\ ((z0.1.2.2.1 + (1 : Int)) <= (9223372036854775807 : Int))))
   (some (Sum.inl ((z0.1.1, (z0.1.2.1, ((z0.1.2.2.1 + (1 : Int)), ()))), ())))))
def go80_l1 : (((List Int) × (Int × (Int × Unit))) × Unit) -> Option ((((List Int) × (Int × (Int × Unit))) × Unit) ⊕ ((Unit × Unit) ⊕ ((Bool × Unit) × Unit))) := (fun (r0 : (((List Int) × (Int × (Int × Unit))) × Unit)) => (bif (decide (r0.1.2.2.1 < r0.1.2.1)) then
   (jpO (go80_j1)
    (fun (j0 : ((((List Int) × (Int × (Int × Unit))) × Unit) -> (Option ((((List Int) × (Int × (Int × Unit))) × Unit) ⊕ ((Unit × Unit) ⊕ ((Bool × Unit) × Unit)))))) => (grd (okB (((0 : Int) <= r0.1.2.2.1) /\ (r0.1.2.2.1 < ((r0.1.1.length : Nat) : Int))))
      (bif (decide ((r0.1.1.getD r0.1.2.2.1.toNat (0 : Int)) = (95 : Int))) then
       (j0 ((r0.1.1, (r0.1.2.1, (r0.1.2.2.1, ()))), ()))
       else
       (bif (decide ((97 : Int) <= (r0.1.1.getD r0.1.2.2.1.toNat (0 : Int)))) then
        (bif (decide ((r0.1.1.getD r0.1.2.2.1.toNat (0 : Int)) <= (122 : Int))) then
         (j0 ((r0.1.1, (r0.1.2.1, (r0.1.2.2.1, ()))), ()))
         else
         (bif (decide ((65 : Int) <= (r0.1.1.getD r0.1.2.2.1.toNat (0 : Int)))) then
          (bif (!(decide ((r0.1.1.getD r0.1.2.2.1.toNat (0 : Int)) <= (90 : Int)))) then
           (bif (decide (r0.1.2.2.1 = (0 : Int))) then
            (some (Sum.inr (Sum.inr ((false, ()), ()))))
            else
            (bif (decide ((r0.1.1.getD r0.1.2.2.1.toNat (0 : Int)) < (48 : Int))) then
             (some (Sum.inr (Sum.inr ((false, ()), ()))))
             else
             (bif (decide ((57 : Int) < (r0.1.1.getD r0.1.2.2.1.toNat (0 : Int)))) then
              (some (Sum.inr (Sum.inr ((false, ()), ()))))
              else
              (j0 ((r0.1.1, (r0.1.2.1, (r0.1.2.2.1, ()))), ())))))
           else
           (j0 ((r0.1.1, (r0.1.2.1, (r0.1.2.2.1, ()))), ())))
          else
          (bif (decide (r0.1.2.2.1 = (0 : Int))) then
           (some (Sum.inr (Sum.inr ((false, ()), ()))))
           else
           (bif (decide ((r0.1.1.getD r0.1.2.2.1.toNat (0 : Int)) < (48 : Int))) then
            (some (Sum.inr (Sum.inr ((false, ()), ()))))
            else
            (bif (decide ((57 : Int) < (r0.1.1.getD r0.1.2.2.1.toNat (0 : Int)))) then
             (some (Sum.inr (Sum.inr ((false, ()), ()))))
             else
             (j0 ((r0.1.1, (r0.1.2.1, (r0.1.2.2.1, ()))), ())))))))
        else
        (bif (decide ((65 : Int) <= (r0.1.1.getD r0.1.2.2.1.toNat (0 : Int)))) then
         (bif (!(decide ((r0.1.1.getD r0.1.2.2.1.toNat (0 : Int)) <= (90 : Int)))) then
          (bif (decide (r0.1.2.2.1 = (0 : Int))) then
           (some (Sum.inr (Sum.inr ((false, ()), ()))))
           else
           (bif (decide ((r0.1.1.getD r0.1.2.2.1.toNat (0 : Int)) < (48 : Int))) then
            (some (Sum.inr (Sum.inr ((false, ()), ()))))
            else
            (bif (decide ((57 : Int) < (r0.1.1.getD r0.1.2.2.1.toNat (0 : Int)))) then
             (some (Sum.inr (Sum.inr ((false, ()), ()))))
             else
             (j0 ((r0.1.1, (r0.1.2.1, (r0.1.2.2.1, ()))), ())))))
          else
          (j0 ((r0.1.1, (r0.1.2.1, (r0.1.2.2.1, ()))), ())))
         else
         (bif (decide (r0.1.2.2.1 = (0 : Int))) then
          (some (Sum.inr (Sum.inr ((false, ()), ()))))
          else
          (bif (decide ((r0.1.1.getD r0.1.2.2.1.toNat (0 : Int)) < (48 : Int))) then
           (some (Sum.inr (Sum.inr ((false, ()), ()))))
           else
           (bif (decide ((57 : Int) < (r0.1.1.getD r0.1.2.2.1.toNat (0 : Int)))) then
            (some (Sum.inr (Sum.inr ((false, ()), ()))))
            else
            (j0 ((r0.1.1, (r0.1.2.1, (r0.1.2.2.1, ()))), ())))))))))))
   else
   (some (Sum.inr (Sum.inl ((), ()))))))
def go80 (x0 : ByteArray) : (Option (Bool × Unit)) :=
 (bif ((ByteArray.toList x0) == (ByteArray.toList (ByteArray.mk (@List.toArray UInt8 ([] : List UInt8))))) then
  (some (false, ()))
  else
  (bif (decide ((64 : Int) < (((ByteArray.size x0) : Nat) : Int))) then
   (some (false, ()))
   else
   (grd (okB ((ByteArray.size x0) <= (281474976710656 : Nat)))
    (callB (whileO (go80_l1) (((bytesI x0), ((((bytesI x0).length : Nat) : Int), ((0 : Int), ()))), ()))
     (fun (z0 : ((Unit × Unit) ⊕ ((Bool × Unit) × Unit))) => (sumO (fun (z1 : (Unit × Unit)) => (some (true, ())))
       (fun (z1 : ((Bool × Unit) × Unit)) => (some (z1.1.1, ()))) z0))))))
theorem run80 (x0 : ByteArray) : runF (P := Try.prog) [] Try.f80 ann80 [(0, .s)] [] .b [] (x0, ()) () = go80 x0 := by kernel_rfl
def ann83 : Ann := (.seq .o (.seq .o .o))
def go83 (x0 : Int) : (Option (Bool × Unit)) :=
 (bif (decide ((1 : Int) <= x0)) then
  (some ((decide (x0 <= (64 : Int))), ()))
  else
  (some (false, ())))
theorem run83 (x0 : Int) : runF (P := Try.prog) [] Try.f83 ann83 [(0, (.i .i64))] [] .b [] (x0, ()) () = go83 x0 := by kernel_rfl
def ann119 : Ann := (.seq .o (.join ⟨[], []⟩ (.seq .o (.block (.seq .o (.cond (.seq .o .o) (.join ⟨[(1, (.ptr 0 0)), (4, (.i .i64)), (10, .b)], [(.box 53 (.st 4))]⟩ (.seq .o (.cond .o .o)) (.cond (.seq .o .o) (.seq .o (.cond (.seq .o .o) .o)))))))) (.seq .o .o)))
def go119_j1 : ((Unit × (Int × (Bool × Unit))) × (Arr × Unit)) -> Option (Bool × Unit) := (fun (z0 : ((Unit × (Int × (Bool × Unit))) × (Arr × Unit))) => (bif z0.1.2.2.1 then
   (bif (decide ((1 : Int) <= z0.2.1.factor)) then
    (some ((decide (z0.2.1.factor <= (if ((64 : Int) < z0.2.1.len) then (64 : Int) else z0.2.1.len))), ()))
    else
    (some (false, ())))
   else
   (bif (decide (z0.1.2.1 = (3 : Int))) then
    (bif (decide (z0.2.1.factor = (0 : Int))) then
     (some ((decide (z0.2.1.len <= (64 : Int))), ()))
     else
     (some (false, ())))
    else
    (some (false, ())))))
def go119 (x0 : Arr) : (Option (Bool × Unit)) :=
 (bif (decide (x0.kind = (0 : Int))) then
  (some ((decide (x0.factor = (0 : Int))), ()))
  else
  (jpO (go119_j1)
   (fun (j0 : (((Unit × (Int × (Bool × Unit))) × (Arr × Unit)) -> (Option (Bool × Unit)))) => (bif (decide (x0.kind = (1 : Int))) then
     (j0 (((), (x0.kind, (true, ()))), (x0, ())))
     else
     (j0 (((), (x0.kind, ((decide (x0.kind = (2 : Int))), ()))), (x0, ())))))))
theorem run119 (x0 : Arr) : runF (P := Try.prog) [] Try.f119 ann119 [(0, (.st 4))] [] .b [] (x0, ()) () = go119 x0 := by kernel_rfl
theorem ok83 (w : Int) : go83 w = some (Sp.right w, ()) := by
 unfold go83 Sp.right
 by_cases h : 1 <= w <;> simp [h]
def c83 : Ctr Try.prog := mkCtr 83 Try.f83 Try.func83 [] ann83 [(0, (.i .i64))] [] .b [] (fun x _ => some (Sp.right x.1, ())) (fun x _ r h => FE (run83 x.1) (ok83 x.1) h)
def Sp.divOk (a : Arr) : Bool := if a.kind = 0 then decide (a.factor = 0) else if a.kind = 1 \/ a.kind = 2 then decide (1 <= a.factor) && decide (a.factor <= if 64 < a.len then 64 else a.len) else if a.kind = 3 then decide (a.factor = 0) && decide (a.len <= 64) else false
theorem ok119 (a : Arr) : go119 a = some (Sp.divOk a, ()) := by
 unfold go119 go119_j1 Sp.divOk
 simp only [jpO_eq, bif_decide]
 by_cases h0 : a.kind = 0
 ·simp [h0]
 by_cases h1 : a.kind = 1
 ·simp only [h1]; by_cases h : 1 <= a.factor <;> simp [h]
 by_cases h2 : a.kind = 2
 ·simp only [h2]; by_cases h : 1 <= a.factor <;> simp [h]
 by_cases h3 : a.kind = 3
 ·simp only [h3]; by_cases h : a.factor = 0 <;> simp [h]
 ·simp [h0, h1, h2, h3]
def c119 : Ctr Try.prog := mkCtr 119 Try.f119 Try.func119 [] ann119 [(0, (.st 4))] [] .b [] (fun x _ => some (Sp.divOk x.1, ())) (fun x _ r h => FE (run119 x.1) (ok119 x.1) h)
theorem bytesI_at (b : ByteArray) {i : Nat} (h : i < b.size) : (bytesI b).getD i 0 = strAt b i := by
 have h' : i < b.data.toList.length := h
 simp [bytesI, strAt, List.getD_eq_getElem?_getD, List.getElem?_map, List.getElem?_eq_getElem h']
def Sp.identB (c : Int) (i : Nat) : Bool := Sp.letter c || (!decide (i = 0) && (decide (48 <= c) && decide (c <= 57)))
theorem identB_eq (s : ByteArray) (i : Nat) : Sp.identB (strAt s i) i = Sp.identAt s i := by
 unfold Sp.identB Sp.identAt
 have e : (decide (48 <= strAt s i) && decide (strAt s i <= 57)) = !decide (Sp.digit (strAt s i) 10 < 0) := by
  generalize strAt s i = c
  unfold Sp.digit Sp.digit2 Sp.digit1 Sp.digit0
  rw [<- decide_not, <- Bool.decide_and]
  refine decide_eq_decide.2 ?_
  repeat' split
  all_goals omega
 rw [e]
theorem loop80 (s : ByteArray) (hs : s.size <= 64) : whileO go80_l1 ((bytesI s, (((bytesI s).length : Nat) : Int), (0 : Int), ()), ()) = some (if (List.range s.size).all (fun i => Sp.identB (strAt s i) i) then Sum.inl ((), ()) else Sum.inr ((false, ()), ())) := by
 unfold go80_l1 go80_j1
 have hl := bytesI_len s
 refine whileO_all (l := List.range s.size) (st := fun i => ((bytesI s, (((bytesI s).length : Nat) : Int), (i : Int), ()), ())) rfl 0 (fun i => Sp.identB (strAt s i) i) (A := Sum.inl ((), ())) (B := Sum.inr ((false, ()), ())) (fun i hi hp => ?_) (fun i hi hp => ?_) (fun _ => ?_)
 ·rw [List.length_range] at hi
  have e : (List.range s.size).getD i 0 = i := by simp [List.getD_eq_getElem?_getD, hi]
  rw [e] at hp
  have hb := bytesI_at s hi
  simp only [Int.toNat_natCast, hb, hl, jpO_eq]
  simp (maxSteps := 1000000) (disch := ((try dsimp only); omega)) only [↓gsA, gsB]
  unfold Sp.identB Sp.letter at hp
  generalize strAt s i = c at hp ⊢
  simp only [Bool.or_eq_true, Bool.and_eq_true, Bool.not_eq_true', decide_eq_true_eq, decide_eq_false_iff_not] at hp
  repeat' split
  all_goals first
   | rfl
   | (simp [hl]; done)
   | (exfalso; omega)
 ·rw [List.length_range] at hi
  have e : (List.range s.size).getD i 0 = i := by simp [List.getD_eq_getElem?_getD, hi]
  rw [e] at hp
  have hb := bytesI_at s hi
  simp only [Int.toNat_natCast, hb, hl, jpO_eq]
  simp (maxSteps := 1000000) (disch := ((try dsimp only); omega)) only [↓gsA, gsB]
  unfold Sp.identB Sp.letter at hp
  generalize strAt s i = c at hp ⊢
  simp only [Bool.or_eq_false_iff, Bool.and_eq_false_iff, Bool.not_eq_false', decide_eq_true_eq, decide_eq_false_iff_not] at hp
  repeat' split
  all_goals first
   | rfl
   | (exfalso; omega)
 ·rw [List.length_range]
  simp (maxSteps := 1000000) (disch := ((try dsimp only); omega)) only [↓gsA, gsB]
theorem ok80 (s : ByteArray) : go80 s = some (Sp.ident s, ()) := by
 unfold go80
 have e0 : ((ByteArray.toList s) == (ByteArray.toList (ByteArray.mk (@List.toArray UInt8 ([] : List UInt8))))) = decide (s.size = 0) := by
  rw [bytes_beq]
  refine decide_eq_decide.2 ⟨fun h => by rw [h]; rfl, fun h => ?_⟩
  obtain ⟨d⟩ := s
  have : d = #[] := Array.size_eq_zero_iff.1 h
  rw [this]
 have e1 : (List.range s.size).all (Sp.identAt s) = (List.range s.size).all (fun i => Sp.identB (strAt s i) i) := by
  congr 1; funext i; exact (identB_eq s i).symm
 unfold Sp.ident
 rw [e0, e1]
 by_cases h0 : s.size = 0
 ·simp [h0]
 by_cases h1 : 64 < s.size
 ·rw [decide_eq_false h0, decide_eq_true (by omega : (64 : Int) < ((s.size : Nat) : Int)), decide_eq_false (by omega : ¬ ((s.size : Nat) : Int) <= 64)]
  simp
 have h2 : s.size <= 64 := by omega
 have h3 : ((s.size : Nat) : Int) <= 64 := by omega
 have h4 : (1 : Int) <= ((s.size : Nat) : Int) := by omega
 rw [decide_eq_false h0, decide_eq_false (by omega : ¬ (64 : Int) < ((s.size : Nat) : Int)), grd_ok (by omega), decide_eq_true h3, decide_eq_true h4]
 simp only [cond_false]
 refine callB_of (loop80 s h2) ?_
 cases (List.range s.size).all (fun i => Sp.identB (strAt s i) i) <;> rfl
def c80 : Ctr Try.prog := mkCtr 80 Try.f80 Try.func80 [] ann80 [(0, .s)] [] .b [] (fun x _ => some (Sp.ident x.1, ())) (fun x _ r h => FE (run80 x.1) (ok80 x.1) h)
end
end Go.Abs
namespace Go.Abs
open Go Go.Proofs
noncomputable section
def ann82 : Ann := (.seq .o (.seq .o .o))
def go82 (x0 : Int) : (Option (Bool × Unit)) :=
 (some ((!(Sp.right x0)), ()))
theorem run82 (x0 : Int) : runF (P := Try.prog) [c83] Try.f82 ann82 [(0, (.i .i64))] [] .b [] (x0, ()) () = go82 x0 := by kernel_rfl
def ann118 : Ann := (.seq .o (.seq .o (.seq .o (.seq .o .o))))
def go118 (x0 : ByteArray) (y0 : (Unit × Unit)) (y1 : (MKey -> (Option Bool))) : (Option (Bool × ((Unit × Unit) × ((MKey -> (Option Bool)) × Unit)))) :=
 (bif (!(@Option.getD Bool (y1 (MKey.s x0)) false)) then
  (some ((Sp.ident x0), (((), ()), ((@mput Bool y1 (MKey.s x0) true), ()))))
  else
  (some (false, (((), ()), ((@mput Bool y1 (MKey.s x0) true), ())))))
theorem run118 (x0 : ByteArray) (y0 : (Unit × Unit)) (y1 : (MKey -> (Option Bool))) : runF (P := Try.prog) [c80] Try.f118 ann118 [(0, .s), (1, (.ptr 0 0))] [(.cells 134 [(.mref 1)]), (.mp true .bool)] .b [(.cells 134 [(.mref 1)]), (.mp true .bool)] (x0, ((), ())) (y0, (y1, ())) = go118 x0 y0 y1 := by kernel_rfl
def c82 : Ctr Try.prog := mkCtr 82 Try.f82 Try.func82 [c83] ann82 [(0, (.i .i64))] [] .b [] (fun x _ => some (!Sp.right x.1, ())) (fun x _ r h => FE (run82 x.1) rfl h)
def Sp.fresh (g : MKey -> Option Bool) (s : ByteArray) : Bool := !((g (.s s)).getD false) && Sp.ident s
theorem ok118 (s : ByteArray) (g : MKey -> Option Bool) : go118 s ((), ()) g = some (Sp.fresh g s, ((), ()), mput g (.s s) true, ()) := by
 unfold go118 Sp.fresh
 cases (g (.s s)).getD false <;> rfl
def c118 : Ctr Try.prog := mkCtr 118 Try.f118 Try.func118 [c80] ann118 [(0, .s), (1, (.ptr 0 0))] [(.cells 134 [(.mref 1)]), (.mp true .bool)] .b [(.cells 134 [(.mref 1)]), (.mp true .bool)] (fun x y => some (Sp.fresh y.2.1 x.1, ((), ()), mput y.2.1 (.s x.1) true, ())) (fun x y r h => FE (run118 x.1 y.1 y.2.1) (ok118 x.1 y.2.1) h)
end
end Go.Abs
