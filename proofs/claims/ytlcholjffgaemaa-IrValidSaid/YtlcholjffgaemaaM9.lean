/-
Texts of the proof, part 9: Uc Ud Ue Uk Uf Ug Y0.
No statement of the program is proved here.
-/
import Derived.Test.YtlcholjffgaemaaM8
set_option linter.unusedVariables false
set_option linter.unusedSectionVars false
set_option linter.unusedSimpArgs false
set_option maxHeartbeats 1000000
namespace Go.Abs
open Go Go.Proofs
noncomputable section
def ann120 : Ann := (.seq .o (.join ⟨[], []⟩ (.seq .o (.block (.loop ⟨[(0, (.fz (.int .i64))), (1, (.fn 82 [])), (7, (.i .i64)), (8, (.i .i64))], []⟩ [((.exit 0), ⟨[], []⟩), (.ret, ⟨[(4, (.i .i64))], []⟩)] (.seq .o (.join ⟨[(0, (.fz (.int .i64))), (1, (.fn 82 [])), (7, (.i .i64)), (8, (.i .i64))], []⟩ (.cond .o .o) (.join ⟨[(0, (.fz (.int .i64))), (1, (.fn 82 [])), (7, (.i .i64)), (8, (.i .i64))], []⟩ (.block (.seq .o (.seq .o (.cond (.seq .o .o) .o)))) .o)))))) (.seq .o .o)))
def go120_l1 : (((List Int) × (Unit × (Int × (Int × Unit)))) × Unit) -> Option ((((List Int) × (Unit × (Int × (Int × Unit)))) × Unit) ⊕ ((Unit × Unit) ⊕ ((Int × Unit) × Unit))) := (fun (r0 : (((List Int) × (Unit × (Int × (Int × Unit)))) × Unit)) => (bif (decide (r0.1.2.2.2.1 < r0.1.2.2.1)) then
   (grd (okB (((0 : Int) <= r0.1.2.2.2.1) /\ (r0.1.2.2.2.1 < ((r0.1.1.length : Nat) : Int))))
    (bif (!(Sp.right (r0.1.1.getD r0.1.2.2.2.1.toNat (0 : Int)))) then
     (some (Sum.inr (Sum.inr ((r0.1.2.2.2.1, ()), ()))))
     else
     (grd (okB (((-(9223372036854775808 : Int)) <= (r0.1.2.2.2.1 + (1 : Int))) /\ ((r0.1.2.2.2.1 + (1 : Int)) <= (9223372036854775807 : Int))))
      (some (Sum.inl ((r0.1.1, ((), (r0.1.2.2.1, ((r0.1.2.2.2.1 + (1 : Int)), ())))), ()))))))
   else
   (some (Sum.inr (Sum.inl ((), ()))))))
def go120 (x0 : (List Int)) (x1 : Unit) : (Option (Int × Unit)) :=
 (callB (whileO (go120_l1) ((x0, ((), (((x0.length : Nat) : Int), ((0 : Int), ())))), ()))
  (fun (z0 : ((Unit × Unit) ⊕ ((Int × Unit) × Unit))) => (sumO (fun (z1 : (Unit × Unit)) => (some ((-(1 : Int)), ())))
    (fun (z1 : ((Int × Unit) × Unit)) => (some (z1.1.1, ()))) z0)))
theorem run120 (x0 : (List Int)) (x1 : Unit) : runF (P := Try.prog) [c82] Try.f120 ann120 [(0, (.fz (.int .i64))), (1, (.fn 82 []))] [] (.i .i64) [] (x0, (x1, ())) () = go120 x0 x1 := by kernel_rfl
def ann81 : Ann := (.seq .o (.seq .o (.seq .o (.join ⟨[(1, (.ptr 0 0)), (4, (.fn 118 [(.ptr 1 0)]))], [(.box 30 (.st 6)), (.cells 134 [(.mref 2)]), (.mp true .bool)]⟩ (.seq .o (.block (.loop ⟨[(1, (.ptr 0 0)), (4, (.fn 118 [(.ptr 1 0)])), (12, (.fz (.st 4))), (13, (.i .i64)), (14, (.i .i64))], [(.box 30 (.st 6)), (.cells 134 [(.mref 2)]), (.mp true .bool)]⟩ [((.exit 0), ⟨[(1, (.ptr 0 0)), (4, (.fn 118 [(.ptr 1 0)]))], [(.box 30 (.st 6)), (.cells 134 [(.mref 2)]), (.mp true .bool)]⟩), (.ret, ⟨[(2, .b)], []⟩)] (.seq .o (.join ⟨[(1, (.ptr 0 0)), (4, (.fn 118 [(.ptr 1 0)])), (12, (.fz (.st 4))), (13, (.i .i64)), (14, (.i .i64))], [(.box 30 (.st 6)), (.cells 134 [(.mref 2)]), (.mp true .bool)]⟩ (.cond .o .o) (.join ⟨[(1, (.ptr 0 0)), (4, (.fn 118 [(.ptr 1 0)])), (12, (.fz (.st 4))), (13, (.i .i64)), (14, (.i .i64))], [(.box 30 (.st 6)), (.cells 134 [(.mref 2)]), (.mp true .bool)]⟩ (.block (.seq .o (.seq .o (.cond (.seq .o .o) .o)))) .o)))))) (.join ⟨[(1, (.ptr 0 0))], [(.box 30 (.st 6))]⟩ (.seq .o (.block (.loop ⟨[(1, (.ptr 0 0)), (4, (.fn 118 [(.ptr 1 0)])), (46, (.fz (.st 5))), (47, (.i .i64)), (48, (.i .i64))], [(.box 30 (.st 6)), (.cells 134 [(.mref 2)]), (.mp true .bool)]⟩ [((.exit 2), ⟨[(1, (.ptr 0 0))], [(.box 30 (.st 6))]⟩), (.ret, ⟨[(2, .b)], []⟩)] (.seq .o (.join ⟨[(1, (.ptr 0 0)), (4, (.fn 118 [(.ptr 1 0)])), (46, (.fz (.st 5))), (47, (.i .i64)), (48, (.i .i64))], [(.box 30 (.st 6)), (.cells 134 [(.mref 2)]), (.mp true .bool)]⟩ (.cond .o .o) (.join ⟨[(1, (.ptr 0 0)), (4, (.fn 118 [(.ptr 1 0)])), (46, (.fz (.st 5))), (47, (.i .i64)), (48, (.i .i64))], [(.box 30 (.st 6)), (.cells 134 [(.mref 2)]), (.mp true .bool)]⟩ (.block (.seq .o (.seq .o (.cond (.seq .o .o) .o)))) .o)))))) (.seq .o .o))))))
def go81_l2 : ((Unit × ((Unit × Unit) × ((List Strm) × (Int × (Int × Unit))))) × (Fn × ((Unit × Unit) × ((MKey -> (Option Bool)) × Unit)))) -> Option (((Unit × ((Unit × Unit) × ((List Strm) × (Int × (Int × Unit))))) × (Fn × ((Unit × Unit) × ((MKey -> (Option Bool)) × Unit)))) ⊕ (((Unit × Unit) × (Fn × Unit)) ⊕ ((Bool × Unit) × Unit))) := (fun (r0 : ((Unit × ((Unit × Unit) × ((List Strm) × (Int × (Int × Unit))))) × (Fn × ((Unit × Unit) × ((MKey -> (Option Bool)) × Unit))))) => (bif (decide (r0.1.2.2.2.2.1 < r0.1.2.2.2.1)) then
   (grd (okB (((0 : Int) <= r0.1.2.2.2.2.1) /\ (r0.1.2.2.2.2.1 < ((r0.1.2.2.1.length : Nat) : Int))))
    (bif (!(Sp.fresh r0.2.2.2.1 (r0.1.2.2.1.getD r0.1.2.2.2.2.1.toNat Strm.z).name)) then
     (some (Sum.inr (Sum.inr ((false, ()), ()))))
     else
     (bif (!(Sp.right (r0.1.2.2.1.getD r0.1.2.2.2.2.1.toNat Strm.z).width)) then
      (some (Sum.inr (Sum.inr ((false, ()), ()))))
      else
      (grd (okB (((-(9223372036854775808 : Int)) <= (r0.1.2.2.2.2.1 + (1 : Int))) /\ ((r0.1.2.2.2.2.1 + (1 : Int)) <= (9223372036854775807 : Int))))
       (some (Sum.inl (((), (((), ()), (r0.1.2.2.1, (r0.1.2.2.2.1, ((r0.1.2.2.2.2.1 + (1 : Int)), ()))))), (r0.2.1, (((), ()), ((@mput Bool r0.2.2.2.1 (MKey.s (r0.1.2.2.1.getD r0.1.2.2.2.2.1.toNat Strm.z).name) true), ()))))))))))
   else
   (some (Sum.inr (Sum.inl (((), ()), (r0.2.1, ())))))))
def go81_l1 : ((Unit × ((Unit × Unit) × ((List Arr) × (Int × (Int × Unit))))) × (Fn × ((Unit × Unit) × ((MKey -> (Option Bool)) × Unit)))) -> Option (((Unit × ((Unit × Unit) × ((List Arr) × (Int × (Int × Unit))))) × (Fn × ((Unit × Unit) × ((MKey -> (Option Bool)) × Unit)))) ⊕ (((Unit × ((Unit × Unit) × Unit)) × (Fn × ((Unit × Unit) × ((MKey -> (Option Bool)) × Unit)))) ⊕ ((Bool × Unit) × Unit))) := (fun (r0 : ((Unit × ((Unit × Unit) × ((List Arr) × (Int × (Int × Unit))))) × (Fn × ((Unit × Unit) × ((MKey -> (Option Bool)) × Unit))))) => (bif (decide (r0.1.2.2.2.2.1 < r0.1.2.2.2.1)) then
   (grd (okB (((0 : Int) <= r0.1.2.2.2.2.1) /\ (r0.1.2.2.2.2.1 < ((r0.1.2.2.1.length : Nat) : Int))))
    (bif (!(Sp.fresh r0.2.2.2.1 (r0.1.2.2.1.getD r0.1.2.2.2.2.1.toNat Arr.z).name)) then
     (some (Sum.inr (Sum.inr ((false, ()), ()))))
     else
     (bif (!(Sp.right (r0.1.2.2.1.getD r0.1.2.2.2.2.1.toNat Arr.z).width)) then
      (some (Sum.inr (Sum.inr ((false, ()), ()))))
      else
      (bif (decide ((r0.1.2.2.1.getD r0.1.2.2.2.2.1.toNat Arr.z).len < (1 : Int))) then
       (some (Sum.inr (Sum.inr ((false, ()), ()))))
       else
       (bif (decide ((4096 : Int) < (r0.1.2.2.1.getD r0.1.2.2.2.2.1.toNat Arr.z).len)) then
        (some (Sum.inr (Sum.inr ((false, ()), ()))))
        else
        (bif (!(Sp.divOk (r0.1.2.2.1.getD r0.1.2.2.2.2.1.toNat Arr.z))) then
         (some (Sum.inr (Sum.inr ((false, ()), ()))))
         else
         (grd (okB (((-(9223372036854775808 : Int)) <= (r0.1.2.2.2.2.1 + (1 : Int))) /\ ((r0.1.2.2.2.2.1 + (1 : Int)) <= (9223372036854775807 : Int))))
          (some (Sum.inl (((), (((), ()), (r0.1.2.2.1, (r0.1.2.2.2.1, ((r0.1.2.2.2.2.1 + (1 : Int)), ()))))), (r0.2.1, (((), ()), ((@mput Bool r0.2.2.2.1 (MKey.s (r0.1.2.2.1.getD r0.1.2.2.2.2.1.toNat Arr.z).name) true), ())))))))))))))
   else
   (some (Sum.inr (Sum.inl (((), (((), ()), ())), (r0.2.1, (((), ()), (r0.2.2.2.1, ())))))))))
def go81 (x0 : Fn) : (Option (Bool × Unit)) :=
 (callB (whileO (go81_l1) (((), (((), ()), (x0.arrays, (((x0.arrays.length : Nat) : Int), ((0 : Int), ()))))), (x0, (((), ()), ((fun (z0 : MKey) => none), ())))))
  (fun (z0 : (((Unit × ((Unit × Unit) × Unit)) × (Fn × ((Unit × Unit) × ((MKey -> (Option Bool)) × Unit)))) ⊕ ((Bool × Unit) × Unit))) => (sumO (fun (z1 : ((Unit × ((Unit × Unit) × Unit)) × (Fn × ((Unit × Unit) × ((MKey -> (Option Bool)) × Unit))))) => (callB (whileO (go81_l2) (((), (((), ()), (z1.2.1.streams, (((z1.2.1.streams.length : Nat) : Int), ((0 : Int), ()))))), (z1.2.1, (((), ()), (z1.2.2.2.1, ())))))
      (fun (z2 : (((Unit × Unit) × (Fn × Unit)) ⊕ ((Bool × Unit) × Unit))) => (sumO (fun (z3 : ((Unit × Unit) × (Fn × Unit))) => (bif (decide (((z3.2.1.arrays.length : Nat) : Int) <= (64 : Int))) then
          (some ((decide (((z3.2.1.streams.length : Nat) : Int) <= (64 : Int))), ()))
          else
          (some (false, ()))))
        (fun (z3 : ((Bool × Unit) × Unit)) => (some (z3.1.1, ()))) z2))))
    (fun (z1 : ((Bool × Unit) × Unit)) => (some (z1.1.1, ()))) z0)))
theorem run81 (x0 : Fn) : runF (P := Try.prog) [c118, c83, c119] Try.f81 ann81 [(0, (.st 6))] [] .b [] (x0, ()) () = go81 x0 := by kernel_rfl
def ann121 : Ann := (.seq .o (.join ⟨[(0, (.ptr 0 0)), (1, (.i .i64)), (2, (.i .i64))], [(.cells 107 [.s, (.fz (.int .i64)), (.fz (.st 4)), (.fz (.st 5)), (.fz (.int .i64)), (.fz (.st 3)), (.full 1), (.full 2)]), (.lst 4 .bool), (.lst 3 (.int .i64))]⟩ (.seq .o (.cond (.seq .o .o) .o)) (.seq (.x ⟨false, false, false, false, [], [], [0, 1, 3, 7, 0, 0, 32, 96, 224, 0, 0, 1024, 511, 4607, 16383, 32767], (.fl 0 (.fl 1 (.fl 2 (.fl 4 (.fl 5 (.fl 6 (.fl 7 (.fl 9 (.fl 10 (.fl 11 (.qu [3, 8, 12] (.on 13 (.qu [14] (.on 15 .nil))))))))))))))⟩) (.seq .o .o))))
def go121 (x1 : Int) (x2 : Int) (y0 : (ByteArray × ((List Int) × ((List Arr) × ((List Strm) × ((List Int) × ((List Block) × (Unit × (Unit × Unit))))))))) (y1 : (List Bool)) (y2 : (List Int)) : (Option (Bool × ((ByteArray × ((List Int) × ((List Arr) × ((List Strm) × ((List Int) × ((List Block) × (Unit × (Unit × Unit)))))))) × ((List Bool) × ((List Int) × Unit))))) :=
 (bif (decide (x1 < (0 : Int))) then
  (some (false, ((y0.1, (y0.2.1, (y0.2.2.1, (y0.2.2.2.1, (y0.2.2.2.2.1, (y0.2.2.2.2.2.1, ((), ((), ())))))))), (y1, (y2, ())))))
  else
  (bif (decide (((y1.length : Nat) : Int) <= x1)) then
   (some (false, ((y0.1, (y0.2.1, (y0.2.2.1, (y0.2.2.2.1, (y0.2.2.2.2.1, (y0.2.2.2.2.2.1, ((), ((), ())))))))), (y1, (y2, ())))))
   else
   (grd (okB (((0 : Int) <= x1) /\ (x1 < ((y1.length : Nat) : Int))))
    (grd (Nat.blt x1.toNat y1.length)
     (bif (y1.getD x1.toNat false) then
      (some (false, ((y0.1, (y0.2.1, (y0.2.2.1, (y0.2.2.2.1, (y0.2.2.2.2.1, (y0.2.2.2.2.2.1, ((), ((), ())))))))), (y1, (y2, ())))))
      else
      (grd (okB (((-(9223372036854775808 : Int)) <= (x2 + (1 : Int))) /\ ((x2 + (1 : Int)) <= (9223372036854775807 : Int))))
       (grd (okB (((0 : Int) <= x1) /\ (x1 < ((y1.length : Nat) : Int))))
        (grd (Nat.blt x1.toNat y1.length)
         (grd (okB (((0 : Int) <= x1) /\ (x1 < ((y2.length : Nat) : Int))))
          (grd (Nat.blt x1.toNat y2.length)
           (some (true, ((y0.1, (y0.2.1, (y0.2.2.1, (y0.2.2.2.1, (y0.2.2.2.2.1, (y0.2.2.2.2.2.1, ((), ((), ())))))))), ((y1.set x1.toNat true), ((y2.set x1.toNat (x2 + (1 : Int))), ())))))))))))))))
theorem run121 (x1 : Int) (x2 : Int) (y0 : (ByteArray × ((List Int) × ((List Arr) × ((List Strm) × ((List Int) × ((List Block) × (Unit × (Unit × Unit))))))))) (y1 : (List Bool)) (y2 : (List Int)) : runF (P := Try.prog) [] Try.f121 ann121 [(0, (.ptr 0 0)), (1, (.i .i64)), (2, (.i .i64))] [(.cells 107 [.s, (.fz (.int .i64)), (.fz (.st 4)), (.fz (.st 5)), (.fz (.int .i64)), (.fz (.st 3)), (.full 1), (.full 2)]), (.lst 4 .bool), (.lst 3 (.int .i64))] .b [(.cells 107 [.s, (.fz (.int .i64)), (.fz (.st 4)), (.fz (.st 5)), (.fz (.int .i64)), (.fz (.st 3)), (.full 1), (.full 2)]), (.lst 4 .bool), (.lst 3 (.int .i64))] ((), (x1, (x2, ()))) (y0, (y1, (y2, ()))) = go121 x1 x2 y0 y1 y2 := by kernel_rfl
def ann122 : Ann := (.seq .o (.join ⟨[], [(.cells 107 [.s, (.fz (.int .i64)), (.fz (.st 4)), (.fz (.st 5)), (.fz (.int .i64)), (.fz (.st 3)), (.full 1), (.full 2)]), (.lst 4 .bool), (.lst 3 (.int .i64))]⟩ (.seq .o (.block (.loop ⟨[(0, (.ptr 0 0)), (2, (.i .i64)), (9, (.fz (.int .i64))), (10, (.i .i64)), (11, (.i .i64))], [(.cells 107 [.s, (.fz (.int .i64)), (.fz (.st 4)), (.fz (.st 5)), (.fz (.int .i64)), (.fz (.st 3)), (.full 1), (.full 2)]), (.lst 4 .bool), (.lst 3 (.int .i64))]⟩ [((.exit 0), ⟨[], [(.cells 107 [.s, (.fz (.int .i64)), (.fz (.st 4)), (.fz (.st 5)), (.fz (.int .i64)), (.fz (.st 3)), (.full 1), (.full 2)]), (.lst 4 .bool), (.lst 3 (.int .i64))]⟩), (.ret, ⟨[(6, .b)], [(.cells 107 [.s, (.fz (.int .i64)), (.fz (.st 4)), (.fz (.st 5)), (.fz (.int .i64)), (.fz (.st 3)), (.full 1), (.full 2)]), (.lst 4 .bool), (.lst 3 (.int .i64))]⟩)] (.seq .o (.join ⟨[(0, (.ptr 0 0)), (2, (.i .i64)), (9, (.fz (.int .i64))), (10, (.i .i64)), (11, (.i .i64))], [(.cells 107 [.s, (.fz (.int .i64)), (.fz (.st 4)), (.fz (.st 5)), (.fz (.int .i64)), (.fz (.st 3)), (.full 1), (.full 2)]), (.lst 4 .bool), (.lst 3 (.int .i64))]⟩ (.cond .o .o) (.join ⟨[(0, (.ptr 0 0)), (2, (.i .i64)), (9, (.fz (.int .i64))), (10, (.i .i64)), (11, (.i .i64))], [(.cells 107 [.s, (.fz (.int .i64)), (.fz (.st 4)), (.fz (.st 5)), (.fz (.int .i64)), (.fz (.st 3)), (.full 1), (.full 2)]), (.lst 4 .bool), (.lst 3 (.int .i64))]⟩ (.block (.seq .o (.seq .o (.cond (.seq .o .o) .o)))) .o)))))) (.seq .o .o)))
def go122_l1 : ((Unit × (Int × ((List Int) × (Int × (Int × Unit))))) × ((ByteArray × ((List Int) × ((List Arr) × ((List Strm) × ((List Int) × ((List Block) × (Unit × (Unit × Unit)))))))) × ((List Bool) × ((List Int) × Unit)))) -> Option (((Unit × (Int × ((List Int) × (Int × (Int × Unit))))) × ((ByteArray × ((List Int) × ((List Arr) × ((List Strm) × ((List Int) × ((List Block) × (Unit × (Unit × Unit)))))))) × ((List Bool) × ((List Int) × Unit)))) ⊕ ((Unit × ((ByteArray × ((List Int) × ((List Arr) × ((List Strm) × ((List Int) × ((List Block) × (Unit × (Unit × Unit)))))))) × ((List Bool) × ((List Int) × Unit)))) ⊕ ((Bool × Unit) × ((ByteArray × ((List Int) × ((List Arr) × ((List Strm) × ((List Int) × ((List Block) × (Unit × (Unit × Unit)))))))) × ((List Bool) × ((List Int) × Unit)))))) := (fun (r0 : ((Unit × (Int × ((List Int) × (Int × (Int × Unit))))) × ((ByteArray × ((List Int) × ((List Arr) × ((List Strm) × ((List Int) × ((List Block) × (Unit × (Unit × Unit)))))))) × ((List Bool) × ((List Int) × Unit))))) => (bif (decide (r0.1.2.2.2.2.1 < r0.1.2.2.2.1)) then
   (grd (okB (((0 : Int) <= r0.1.2.2.2.2.1) /\ (r0.1.2.2.2.2.1 < ((r0.1.2.2.1.length : Nat) : Int))))
    (bif (decide ((r0.1.2.2.1.getD r0.1.2.2.2.2.1.toNat (0 : Int)) < (0 : Int))) then
     (some (Sum.inr (Sum.inr ((false, ()), ((r0.2.1.1, (r0.2.1.2.1, (r0.2.1.2.2.1, (r0.2.1.2.2.2.1, (r0.2.1.2.2.2.2.1, (r0.2.1.2.2.2.2.2.1, ((), ((), ())))))))), (r0.2.2.1, (r0.2.2.2.1, ())))))))
     else
     (bif (decide (((r0.2.2.2.1.length : Nat) : Int) <= (r0.1.2.2.1.getD r0.1.2.2.2.2.1.toNat (0 : Int)))) then
      (some (Sum.inr (Sum.inr ((false, ()), ((r0.2.1.1, (r0.2.1.2.1, (r0.2.1.2.2.1, (r0.2.1.2.2.2.1, (r0.2.1.2.2.2.2.1, (r0.2.1.2.2.2.2.2.1, ((), ((), ())))))))), (r0.2.2.1, (r0.2.2.2.1, ())))))))
      else
      (grd (okB (((0 : Int) <= (r0.1.2.2.1.getD r0.1.2.2.2.2.1.toNat (0 : Int))) /\ ((r0.1.2.2.1.getD r0.1.2.2.2.2.1.toNat (0 : Int)) < ((r0.2.2.2.1.length : Nat) : Int))))
       (grd (Nat.blt (r0.1.2.2.1.getD r0.1.2.2.2.2.1.toNat (0 : Int)).toNat r0.2.2.2.1.length)
        (grd (okB (((-(9223372036854775808 : Int)) <= (r0.1.2.1 + (1 : Int))) /\ ((r0.1.2.1 + (1 : Int)) <= (9223372036854775807 : Int))))
         (bif (!(decide ((r0.2.2.2.1.getD (r0.1.2.2.1.getD r0.1.2.2.2.2.1.toNat (0 : Int)).toNat (0 : Int)) = (r0.1.2.1 + (1 : Int))))) then
          (some (Sum.inr (Sum.inr ((false, ()), ((r0.2.1.1, (r0.2.1.2.1, (r0.2.1.2.2.1, (r0.2.1.2.2.2.1, (r0.2.1.2.2.2.2.1, (r0.2.1.2.2.2.2.2.1, ((), ((), ())))))))), (r0.2.2.1, (r0.2.2.2.1, ())))))))
          else
          (grd (okB (((-(9223372036854775808 : Int)) <= (r0.1.2.2.2.2.1 + (1 : Int))) /\ ((r0.1.2.2.2.2.1 + (1 : Int)) <= (9223372036854775807 : Int))))
           (some (Sum.inl (((), (r0.1.2.1, (r0.1.2.2.1, (r0.1.2.2.2.1, ((r0.1.2.2.2.2.1 + (1 : Int)), ()))))), ((r0.2.1.1, (r0.2.1.2.1, (r0.2.1.2.2.1, (r0.2.1.2.2.2.1, (r0.2.1.2.2.2.2.1, (r0.2.1.2.2.2.2.2.1, ((), ((), ())))))))), (r0.2.2.1, (r0.2.2.2.1, ()))))))))))))))
   else
   (some (Sum.inr (Sum.inl ((), ((r0.2.1.1, (r0.2.1.2.1, (r0.2.1.2.2.1, (r0.2.1.2.2.2.1, (r0.2.1.2.2.2.2.1, (r0.2.1.2.2.2.2.2.1, ((), ((), ())))))))), (r0.2.2.1, (r0.2.2.2.1, ())))))))))
def go122 (x1 : (List Int)) (x2 : Int) (y0 : (ByteArray × ((List Int) × ((List Arr) × ((List Strm) × ((List Int) × ((List Block) × (Unit × (Unit × Unit))))))))) (y1 : (List Bool)) (y2 : (List Int)) : (Option (Bool × ((ByteArray × ((List Int) × ((List Arr) × ((List Strm) × ((List Int) × ((List Block) × (Unit × (Unit × Unit)))))))) × ((List Bool) × ((List Int) × Unit))))) :=
 (callB (whileO (go122_l1) (((), (x2, (x1, (((x1.length : Nat) : Int), ((0 : Int), ()))))), ((y0.1, (y0.2.1, (y0.2.2.1, (y0.2.2.2.1, (y0.2.2.2.2.1, (y0.2.2.2.2.2.1, ((), ((), ())))))))), (y1, (y2, ())))))
  (fun (z0 : ((Unit × ((ByteArray × ((List Int) × ((List Arr) × ((List Strm) × ((List Int) × ((List Block) × (Unit × (Unit × Unit)))))))) × ((List Bool) × ((List Int) × Unit)))) ⊕ ((Bool × Unit) × ((ByteArray × ((List Int) × ((List Arr) × ((List Strm) × ((List Int) × ((List Block) × (Unit × (Unit × Unit)))))))) × ((List Bool) × ((List Int) × Unit)))))) => (sumO (fun (z1 : (Unit × ((ByteArray × ((List Int) × ((List Arr) × ((List Strm) × ((List Int) × ((List Block) × (Unit × (Unit × Unit)))))))) × ((List Bool) × ((List Int) × Unit))))) => (some (true, ((z1.2.1.1, (z1.2.1.2.1, (z1.2.1.2.2.1, (z1.2.1.2.2.2.1, (z1.2.1.2.2.2.2.1, (z1.2.1.2.2.2.2.2.1, ((), ((), ())))))))), (z1.2.2.1, (z1.2.2.2.1, ()))))))
    (fun (z1 : ((Bool × Unit) × ((ByteArray × ((List Int) × ((List Arr) × ((List Strm) × ((List Int) × ((List Block) × (Unit × (Unit × Unit)))))))) × ((List Bool) × ((List Int) × Unit))))) => (some (z1.1.1, ((z1.2.1.1, (z1.2.1.2.1, (z1.2.1.2.2.1, (z1.2.1.2.2.2.1, (z1.2.1.2.2.2.2.1, (z1.2.1.2.2.2.2.2.1, ((), ((), ())))))))), (z1.2.2.1, (z1.2.2.2.1, ())))))) z0)))
theorem run122 (x1 : (List Int)) (x2 : Int) (y0 : (ByteArray × ((List Int) × ((List Arr) × ((List Strm) × ((List Int) × ((List Block) × (Unit × (Unit × Unit))))))))) (y1 : (List Bool)) (y2 : (List Int)) : runF (P := Try.prog) [] Try.f122 ann122 [(0, (.ptr 0 0)), (1, (.fz (.int .i64))), (2, (.i .i64))] [(.cells 107 [.s, (.fz (.int .i64)), (.fz (.st 4)), (.fz (.st 5)), (.fz (.int .i64)), (.fz (.st 3)), (.full 1), (.full 2)]), (.lst 4 .bool), (.lst 3 (.int .i64))] .b [(.cells 107 [.s, (.fz (.int .i64)), (.fz (.st 4)), (.fz (.st 5)), (.fz (.int .i64)), (.fz (.st 3)), (.full 1), (.full 2)]), (.lst 4 .bool), (.lst 3 (.int .i64))] ((), (x1, (x2, ()))) (y0, (y1, (y2, ()))) = go122 x1 x2 y0 y1 y2 := by kernel_rfl
def ann133 : Ann := (.seq .o (.join ⟨[(3, (.ptr 3 0))], [(.cells 107 [.s, (.fz (.int .i64)), (.fz (.st 4)), (.fz (.st 5)), (.fz (.int .i64)), (.fz (.st 3)), (.full 1), (.full 2)]), (.lst 4 .bool), (.lst 3 (.int .i64)), (.box 46 (.st 0))]⟩ (.seq .o (.block (.join ⟨[(0, (.ptr 0 0)), (3, (.ptr 3 0)), (7, (.i .i64)), (8, .b)], [(.cells 107 [.s, (.fz (.int .i64)), (.fz (.st 4)), (.fz (.st 5)), (.fz (.int .i64)), (.fz (.st 3)), (.full 1), (.full 2)]), (.lst 4 .bool), (.lst 3 (.int .i64)), (.box 46 (.st 0))]⟩ (.seq .o (.cond .o .o)) (.cond (.join ⟨[(0, (.ptr 0 0)), (3, (.ptr 3 0))], [(.cells 107 [.s, (.fz (.int .i64)), (.fz (.st 4)), (.fz (.st 5)), (.fz (.int .i64)), (.fz (.st 3)), (.full 1), (.full 2)]), (.lst 4 .bool), (.lst 3 (.int .i64)), (.box 46 (.st 0))]⟩ (.seq .o (.cond (.seq .o .o) .o)) (.seq .o .o)) (.join ⟨[(0, (.ptr 0 0)), (3, (.ptr 3 0)), (35, .b)], [(.cells 107 [.s, (.fz (.int .i64)), (.fz (.st 4)), (.fz (.st 5)), (.fz (.int .i64)), (.fz (.st 3)), (.full 1), (.full 2)]), (.lst 4 .bool), (.lst 3 (.int .i64)), (.box 46 (.st 0))]⟩ (.seq .o (.cond .o .o)) (.cond (.join ⟨[(0, (.ptr 0 0)), (3, (.ptr 3 0))], [(.cells 107 [.s, (.fz (.int .i64)), (.fz (.st 4)), (.fz (.st 5)), (.fz (.int .i64)), (.fz (.st 3)), (.full 1), (.full 2)]), (.lst 4 .bool), (.lst 3 (.int .i64)), (.box 46 (.st 0))]⟩ (.seq .o (.cond (.seq .o .o) .o)) (.seq .o .o)) .o)))))) (.seq .o .o)))
def go133_j2 : ((Unit × (Unit × (Bool × Unit))) × ((ByteArray × ((List Int) × ((List Arr) × ((List Strm) × ((List Int) × ((List Block) × (Unit × (Unit × Unit)))))))) × ((List Bool) × ((List Int) × (Inst × Unit))))) -> Option ((Int × (Bool × Unit)) × ((ByteArray × ((List Int) × ((List Arr) × ((List Strm) × ((List Int) × ((List Block) × (Unit × (Unit × Unit)))))))) × ((List Bool) × ((List Int) × Unit)))) := (fun (z1 : ((Unit × (Unit × (Bool × Unit))) × ((ByteArray × ((List Int) × ((List Arr) × ((List Strm) × ((List Int) × ((List Block) × (Unit × (Unit × Unit)))))))) × ((List Bool) × ((List Int) × (Inst × Unit)))))) => (bif z1.1.2.2.1 then
   (bif (decide (z1.2.2.2.2.1.mem < (0 : Int))) then
    (some (((0 : Int), (false, ())), ((z1.2.1.1, (z1.2.1.2.1, (z1.2.1.2.2.1, (z1.2.1.2.2.2.1, (z1.2.1.2.2.2.2.1, (z1.2.1.2.2.2.2.2.1, ((), ((), ())))))))), (z1.2.2.1, (z1.2.2.2.1, ())))))
    else
    (bif (decide (((z1.2.1.2.2.2.1.length : Nat) : Int) <= z1.2.2.2.2.1.mem)) then
     (some (((0 : Int), (false, ())), ((z1.2.1.1, (z1.2.1.2.1, (z1.2.1.2.2.1, (z1.2.1.2.2.2.1, (z1.2.1.2.2.2.2.1, (z1.2.1.2.2.2.2.2.1, ((), ((), ())))))))), (z1.2.2.1, (z1.2.2.2.1, ())))))
     else
     (grd (okB (((0 : Int) <= z1.2.2.2.2.1.mem) /\ (z1.2.2.2.2.1.mem < ((z1.2.1.2.2.2.1.length : Nat) : Int))))
      (bif (!((z1.2.1.2.2.2.1.getD z1.2.2.2.2.1.mem.toNat Strm.z).out == (decide (z1.2.2.2.2.1.op = (28 : Int))))) then
       (some (((0 : Int), (false, ())), ((z1.2.1.1, (z1.2.1.2.1, (z1.2.1.2.2.1, (z1.2.1.2.2.2.1, (z1.2.1.2.2.2.2.1, (z1.2.1.2.2.2.2.2.1, ((), ((), ())))))))), (z1.2.2.1, (z1.2.2.2.1, ())))))
       else
       (grd (okB (((0 : Int) <= z1.2.2.2.2.1.mem) /\ (z1.2.2.2.2.1.mem < ((z1.2.1.2.2.2.1.length : Nat) : Int))))
        (some (((z1.2.1.2.2.2.1.getD z1.2.2.2.2.1.mem.toNat Strm.z).width, (true, ())), ((z1.2.1.1, (z1.2.1.2.1, (z1.2.1.2.2.1, (z1.2.1.2.2.2.1, (z1.2.1.2.2.2.2.1, (z1.2.1.2.2.2.2.2.1, ((), ((), ())))))))), (z1.2.2.1, (z1.2.2.2.1, ()))))))))))
   else
   (some (((0 : Int), ((decide (z1.2.2.2.2.1.mem = (0 : Int))), ())), ((z1.2.1.1, (z1.2.1.2.1, (z1.2.1.2.2.1, (z1.2.1.2.2.2.1, (z1.2.1.2.2.2.2.1, (z1.2.1.2.2.2.2.2.1, ((), ((), ())))))))), (z1.2.2.1, (z1.2.2.2.1, ())))))))
def go133_j1 : ((Unit × (Unit × (Int × (Bool × Unit)))) × ((ByteArray × ((List Int) × ((List Arr) × ((List Strm) × ((List Int) × ((List Block) × (Unit × (Unit × Unit)))))))) × ((List Bool) × ((List Int) × (Inst × Unit))))) -> Option ((Int × (Bool × Unit)) × ((ByteArray × ((List Int) × ((List Arr) × ((List Strm) × ((List Int) × ((List Block) × (Unit × (Unit × Unit)))))))) × ((List Bool) × ((List Int) × Unit)))) := (fun (z0 : ((Unit × (Unit × (Int × (Bool × Unit)))) × ((ByteArray × ((List Int) × ((List Arr) × ((List Strm) × ((List Int) × ((List Block) × (Unit × (Unit × Unit)))))))) × ((List Bool) × ((List Int) × (Inst × Unit)))))) => (bif z0.1.2.2.2.1 then
   (bif (decide (z0.2.2.2.2.1.mem < (0 : Int))) then
    (some (((0 : Int), (false, ())), ((z0.2.1.1, (z0.2.1.2.1, (z0.2.1.2.2.1, (z0.2.1.2.2.2.1, (z0.2.1.2.2.2.2.1, (z0.2.1.2.2.2.2.2.1, ((), ((), ())))))))), (z0.2.2.1, (z0.2.2.2.1, ())))))
    else
    (bif (decide (((z0.2.1.2.2.1.length : Nat) : Int) <= z0.2.2.2.2.1.mem)) then
     (some (((0 : Int), (false, ())), ((z0.2.1.1, (z0.2.1.2.1, (z0.2.1.2.2.1, (z0.2.1.2.2.2.1, (z0.2.1.2.2.2.2.1, (z0.2.1.2.2.2.2.2.1, ((), ((), ())))))))), (z0.2.2.1, (z0.2.2.2.1, ())))))
     else
     (grd (okB (((0 : Int) <= z0.2.2.2.2.1.mem) /\ (z0.2.2.2.2.1.mem < ((z0.2.1.2.2.1.length : Nat) : Int))))
      (some (((z0.2.1.2.2.1.getD z0.2.2.2.2.1.mem.toNat Arr.z).width, (true, ())), ((z0.2.1.1, (z0.2.1.2.1, (z0.2.1.2.2.1, (z0.2.1.2.2.2.1, (z0.2.1.2.2.2.2.1, (z0.2.1.2.2.2.2.2.1, ((), ((), ())))))))), (z0.2.2.1, (z0.2.2.2.1, ()))))))))
   else
   (jpO (go133_j2)
    (fun (j0 : (((Unit × (Unit × (Bool × Unit))) × ((ByteArray × ((List Int) × ((List Arr) × ((List Strm) × ((List Int) × ((List Block) × (Unit × (Unit × Unit)))))))) × ((List Bool) × ((List Int) × (Inst × Unit))))) -> (Option ((Int × (Bool × Unit)) × ((ByteArray × ((List Int) × ((List Arr) × ((List Strm) × ((List Int) × ((List Block) × (Unit × (Unit × Unit)))))))) × ((List Bool) × ((List Int) × Unit))))))) => (bif (decide (z0.1.2.2.1 = (27 : Int))) then
      (j0 (((), ((), (true, ()))), ((z0.2.1.1, (z0.2.1.2.1, (z0.2.1.2.2.1, (z0.2.1.2.2.2.1, (z0.2.1.2.2.2.2.1, (z0.2.1.2.2.2.2.2.1, ((), ((), ())))))))), (z0.2.2.1, (z0.2.2.2.1, (z0.2.2.2.2.1, ()))))))
      else
      (j0 (((), ((), ((decide (z0.1.2.2.1 = (28 : Int))), ()))), ((z0.2.1.1, (z0.2.1.2.1, (z0.2.1.2.2.1, (z0.2.1.2.2.2.1, (z0.2.1.2.2.2.2.1, (z0.2.1.2.2.2.2.2.1, ((), ((), ())))))))), (z0.2.2.1, (z0.2.2.2.1, (z0.2.2.2.2.1, ())))))))))))
def go133 (x1 : Inst) (y0 : (ByteArray × ((List Int) × ((List Arr) × ((List Strm) × ((List Int) × ((List Block) × (Unit × (Unit × Unit))))))))) (y1 : (List Bool)) (y2 : (List Int)) : (Option ((Int × (Bool × Unit)) × ((ByteArray × ((List Int) × ((List Arr) × ((List Strm) × ((List Int) × ((List Block) × (Unit × (Unit × Unit)))))))) × ((List Bool) × ((List Int) × Unit))))) :=
 (jpO (go133_j1)
  (fun (j0 : (((Unit × (Unit × (Int × (Bool × Unit)))) × ((ByteArray × ((List Int) × ((List Arr) × ((List Strm) × ((List Int) × ((List Block) × (Unit × (Unit × Unit)))))))) × ((List Bool) × ((List Int) × (Inst × Unit))))) -> (Option ((Int × (Bool × Unit)) × ((ByteArray × ((List Int) × ((List Arr) × ((List Strm) × ((List Int) × ((List Block) × (Unit × (Unit × Unit)))))))) × ((List Bool) × ((List Int) × Unit))))))) => (bif (decide (x1.op = (25 : Int))) then
    (j0 (((), ((), (x1.op, (true, ())))), ((y0.1, (y0.2.1, (y0.2.2.1, (y0.2.2.2.1, (y0.2.2.2.2.1, (y0.2.2.2.2.2.1, ((), ((), ())))))))), (y1, (y2, (x1, ()))))))
    else
    (j0 (((), ((), (x1.op, ((decide (x1.op = (26 : Int))), ())))), ((y0.1, (y0.2.1, (y0.2.2.1, (y0.2.2.2.1, (y0.2.2.2.2.1, (y0.2.2.2.2.2.1, ((), ((), ())))))))), (y1, (y2, (x1, ())))))))))
theorem run133 (x1 : Inst) (y0 : (ByteArray × ((List Int) × ((List Arr) × ((List Strm) × ((List Int) × ((List Block) × (Unit × (Unit × Unit))))))))) (y1 : (List Bool)) (y2 : (List Int)) : runF (P := Try.prog) [] Try.f133 ann133 [(0, (.ptr 0 0)), (1, (.st 0))] [(.cells 107 [.s, (.fz (.int .i64)), (.fz (.st 4)), (.fz (.st 5)), (.fz (.int .i64)), (.fz (.st 3)), (.full 1), (.full 2)]), (.lst 4 .bool), (.lst 3 (.int .i64))] (.tup [(.i .i64), .b]) [(.cells 107 [.s, (.fz (.int .i64)), (.fz (.st 4)), (.fz (.st 5)), (.fz (.int .i64)), (.fz (.st 3)), (.full 1), (.full 2)]), (.lst 4 .bool), (.lst 3 (.int .i64))] ((), (x1, ())) (y0, (y1, (y2, ()))) = go133 x1 y0 y1 y2 := by kernel_rfl
def ann150 : Ann := (.seq .o (.seq .o .o))
def go150 (x0 : Int) (x1 : Int) (y0 : (Unit × Unit)) (y1 : (ByteArray × ((List Int) × ((List Arr) × ((List Strm) × ((List Int) × ((List Block) × (Unit × (Unit × Unit))))))))) (y2 : (List Bool)) (y3 : (List Int)) : (Option (Bool × ((Unit × Unit) × ((ByteArray × ((List Int) × ((List Arr) × ((List Strm) × ((List Int) × ((List Block) × (Unit × (Unit × Unit)))))))) × ((List Bool) × ((List Int) × Unit)))))) :=
 (bif (decide ((0 : Int) <= x1)) then
  (bif (decide (x1 < ((y1.2.1.length : Nat) : Int))) then
   (grd (okB (((0 : Int) <= x0) /\ (x0 < ((y1.2.1.length : Nat) : Int))))
    (grd (okB (((0 : Int) <= x1) /\ (x1 < ((y1.2.1.length : Nat) : Int))))
     (some ((decide ((y1.2.1.getD x0.toNat (0 : Int)) = (y1.2.1.getD x1.toNat (0 : Int)))), (((), ()), ((y1.1, (y1.2.1, (y1.2.2.1, (y1.2.2.2.1, (y1.2.2.2.2.1, (y1.2.2.2.2.2.1, ((), ((), ())))))))), (y2, (y3, ()))))))))
   else
   (some (false, (((), ()), ((y1.1, (y1.2.1, (y1.2.2.1, (y1.2.2.2.1, (y1.2.2.2.2.1, (y1.2.2.2.2.2.1, ((), ((), ())))))))), (y2, (y3, ())))))))
  else
  (some (false, (((), ()), ((y1.1, (y1.2.1, (y1.2.2.1, (y1.2.2.2.1, (y1.2.2.2.2.1, (y1.2.2.2.2.2.1, ((), ((), ())))))))), (y2, (y3, ())))))))
theorem run150 (x0 : Int) (x1 : Int) (y0 : (Unit × Unit)) (y1 : (ByteArray × ((List Int) × ((List Arr) × ((List Strm) × ((List Int) × ((List Block) × (Unit × (Unit × Unit))))))))) (y2 : (List Bool)) (y3 : (List Int)) : runF (P := Try.prog) [] Try.f150 ann150 [(0, (.i .i64)), (1, (.i .i64)), (2, (.ptr 0 0))] [(.cells 105 [(.ptr 1 0)]), (.cells 107 [.s, (.fz (.int .i64)), (.fz (.st 4)), (.fz (.st 5)), (.fz (.int .i64)), (.fz (.st 3)), (.full 2), (.full 3)]), (.lst 4 .bool), (.lst 3 (.int .i64))] .b [(.cells 105 [(.ptr 1 0)]), (.cells 107 [.s, (.fz (.int .i64)), (.fz (.st 4)), (.fz (.st 5)), (.fz (.int .i64)), (.fz (.st 3)), (.full 2), (.full 3)]), (.lst 4 .bool), (.lst 3 (.int .i64))] (x0, (x1, ((), ()))) (y0, (y1, (y2, (y3, ())))) = go150 x0 x1 y0 y1 y2 y3 := by kernel_rfl
def ann137 : Ann := (.seq .o (.seq .o .o))
def go137 (x0 : Int) (x1 : Int) (y0 : (Unit × Unit)) (y1 : (ByteArray × ((List Int) × ((List Arr) × ((List Strm) × ((List Int) × ((List Block) × (Unit × (Unit × Unit))))))))) (y2 : (List Bool)) (y3 : (List Int)) : (Option (Bool × ((Unit × Unit) × ((ByteArray × ((List Int) × ((List Arr) × ((List Strm) × ((List Int) × ((List Block) × (Unit × (Unit × Unit)))))))) × ((List Bool) × ((List Int) × Unit)))))) :=
 (grd (okB (((0 : Int) <= x0) /\ (x0 < ((y1.2.1.length : Nat) : Int))))
  (some ((decide ((y1.2.1.getD x0.toNat (0 : Int)) = x1)), (((), ()), ((y1.1, (y1.2.1, (y1.2.2.1, (y1.2.2.2.1, (y1.2.2.2.2.1, (y1.2.2.2.2.2.1, ((), ((), ())))))))), (y2, (y3, ())))))))
theorem run137 (x0 : Int) (x1 : Int) (y0 : (Unit × Unit)) (y1 : (ByteArray × ((List Int) × ((List Arr) × ((List Strm) × ((List Int) × ((List Block) × (Unit × (Unit × Unit))))))))) (y2 : (List Bool)) (y3 : (List Int)) : runF (P := Try.prog) [] Try.f137 ann137 [(0, (.i .i64)), (1, (.i .i64)), (2, (.ptr 0 0))] [(.cells 105 [(.ptr 1 0)]), (.cells 107 [.s, (.fz (.int .i64)), (.fz (.st 4)), (.fz (.st 5)), (.fz (.int .i64)), (.fz (.st 3)), (.full 2), (.full 3)]), (.lst 4 .bool), (.lst 3 (.int .i64))] .b [(.cells 105 [(.ptr 1 0)]), (.cells 107 [.s, (.fz (.int .i64)), (.fz (.st 4)), (.fz (.st 5)), (.fz (.int .i64)), (.fz (.st 3)), (.full 2), (.full 3)]), (.lst 4 .bool), (.lst 3 (.int .i64))] (x0, (x1, ((), ()))) (y0, (y1, (y2, (y3, ())))) = go137 x0 x1 y0 y1 y2 y3 := by kernel_rfl
def Sp.badAt (l : List Int) : Int := elimO (findI (fun i => !Sp.right (l.getD i 0)) l.length 0) (fun i => (i : Int)) (-1)
theorem ok120 (l : List Int) (hl : l.length <= LEN) : go120 l () = some (Sp.badAt l, ()) := by
 rw [lenVal] at hl
 unfold go120 go120_l1 Sp.badAt
 refine callB_of (whileO_find (st := fun i => ((l, (), ((l.length : Nat) : Int), (i : Int), ()), ())) rfl l.length (fun i => !Sp.right (l.getD i 0)) (Sum.inl ((), ())) (fun i => Sum.inr (((i : Int), ()), ())) (fun i hi hp => ?_) (fun i hi hp => ?_) ?_) ?_
 ·have hp : Sp.right (l.getD i 0) = false := by simpa using hp
  simp (maxSteps := 1000000) (disch := ((try dsimp only); omega)) only [↓gsA, gsB]
  rw [hp]; rfl
 ·have hp : Sp.right (l.getD i 0) = true := by simpa using hp
  simp (maxSteps := 1000000) (disch := ((try dsimp only); omega)) only [↓gsA, gsB]
  rw [hp]; rfl
 ·simp (maxSteps := 1000000) (disch := ((try dsimp only); omega)) only [↓gsA, gsB]
 ·cases findI (fun i => !Sp.right (l.getD i 0)) l.length 0 <;> rfl
def c120 : Ctr Try.prog := mkCtr 120 Try.f120 Try.func120 [c82] ann120 [(0, (.fz (.int .i64))), (1, (.fn 82 []))] [] (.i .i64) [] (fun x _ => grd (okB (x.1.length <= LEN)) (some (Sp.badAt x.1, ()))) (fun x _ r h => FO (run120 x.1 x.2.1) (ok120 x.1) h)
theorem badAt_eq (l : List Int) : decide (0 <= Sp.badAt l) = !l.all Sp.right := by
 unfold Sp.badAt
 cases h : findI (fun i => !Sp.right (l.getD i 0)) l.length 0 with
 | none =>
  have : l.all Sp.right = true := List.all_eq_true.2 fun x hx => by
   obtain ⟨i, hi, rfl⟩ := List.mem_iff_getElem.1 hx
   have := findI_none h i (Nat.zero_le _) (by omega)
   simpa [List.getD_eq_getElem?_getD, hi] using this
  rw [this]; rfl
 | some k =>
  obtain ⟨_, h1, h2, _⟩ := findI_some h
  have h1 : k < l.length := by omega
  have : l.all Sp.right = false := List.all_eq_false.2 ⟨l[k], List.getElem_mem h1, by simpa [List.getD_eq_getElem?_getD, h1] using h2⟩
  rw [this]
  simp [elimO]
def Sp.has (l : List ByteArray) (b : ByteArray) : Bool := l.any fun c => decide (c = b)
def Sp.seen (l : List ByteArray) : MKey -> Option Bool
 | .s b => if Sp.has l b = true then some true else none
 | .i _ => none
theorem seen_nil : (fun _ => none : MKey -> Option Bool) = Sp.seen [] := by
 funext k; cases k <;> simp [Sp.seen, Sp.has]
theorem seen_put (l : List ByteArray) (b : ByteArray) : mput (Sp.seen l) (.s b) true = Sp.seen (l ++ [b]) := by
 funext k
 cases k with
 | i n => simp [mput, Sp.seen]
 | s c =>
  simp only [mput, Sp.seen, Sp.has, MKey.s.injEq, List.any_append, List.any_cons, List.any_nil, Bool.or_false]
  by_cases h : c = b
  ·subst h; simp
  ·rw [if_neg h, decide_eq_false (fun e => h e.symm), Bool.or_false]
   rfl
theorem fresh_seen (l : List ByteArray) (b : ByteArray) : Sp.fresh (Sp.seen l) b = (!Sp.has l b && Sp.ident b) := by
 unfold Sp.fresh Sp.seen
 cases h : Sp.has l b <;> simp [h]
def Sp.arrI (f : Fn) (i : Nat) : Bool := let a := f.arrays.getD i Arr.z
 Sp.fresh (Sp.seen (aNames f i)) a.name && (Sp.right a.width && (!decide (a.len < 1) && (!decide (4096 < a.len) && Sp.divOk a)))
def Sp.strI (f : Fn) (i : Nat) : Bool := let a := f.streams.getD i Strm.z
 Sp.fresh (Sp.seen (sNames f i)) a.name && Sp.right a.width
def Sp.imems (f : Fn) : Bool := (List.range f.arrays.length).all (Sp.arrI f) && ((List.range f.streams.length).all (Sp.strI f) && (decide ((f.arrays.length : Int) <= 64) && decide ((f.streams.length : Int) <= 64)))
theorem aNames_succ (f : Fn) {i : Nat} (h : i < f.arrays.length) : aNames f (i + 1) = aNames f i ++ [(f.arrays.getD i Arr.z).name] := by
 unfold aNames
 rw [List.take_succ_eq_append_getElem h, List.map_append, List.getD_eq_getElem?_getD, List.getElem?_eq_getElem h]
 rfl
theorem sNames_succ (f : Fn) {i : Nat} (h : i < f.streams.length) : sNames f (i + 1) = sNames f i ++ [(f.streams.getD i Strm.z).name] := by
 unfold sNames
 rw [List.take_succ_eq_append_getElem h, List.map_append, List.getD_eq_getElem?_getD, List.getElem?_eq_getElem h, List.append_assoc]
 rfl
theorem loop811 (f : Fn) (hf : f.ok) : whileO go81_l1 (((), ((), ()), f.arrays, ((f.arrays.length : Nat) : Int), (0 : Int), ()), f, ((), ()), Sp.seen [], ()) =
  some (if (List.range f.arrays.length).all (Sp.arrI f) then Sum.inl (((), ((), ()), ()), f, ((), ()), Sp.seen (aNames f f.arrays.length), ()) else Sum.inr ((false, ()), ())) := by
 have hx := hf.2.2.1.len
 rw [lenVal] at hx
 unfold go81_l1
 refine whileO_all (l := List.range f.arrays.length) (st := fun i => (((), ((), ()), f.arrays, ((f.arrays.length : Nat) : Int), (i : Int), ()), f, ((), ()), Sp.seen (aNames f i), ())) rfl 0 (Sp.arrI f) (A := Sum.inl (((), ((), ()), ()), f, ((), ()), Sp.seen (aNames f f.arrays.length), ())) (B := Sum.inr ((false, ()), ())) (fun i hi hp => ?_) (fun i hi hp => ?_) (fun _ => ?_)
 ·rw [List.length_range] at hi
  rw [range_getD hi] at hp
  simp only [Sp.arrI, Bool.and_eq_true] at hp
  obtain ⟨h1, h2, h3, h4, h5⟩ := hp
  have h3 : ¬ (f.arrays.getD i Arr.z).len < 1 := by simpa using h3
  have h4 : ¬ 4096 < (f.arrays.getD i Arr.z).len := by simpa using h4
  simp only [Int.toNat_natCast, h1, h2, h5]
  simp (maxSteps := 1000000) (disch := ((try dsimp only); omega)) only [↓gsA, gsB]
  rw [seen_put, <- aNames_succ f hi]
 ·rw [List.length_range] at hi
  rw [range_getD hi] at hp
  simp only [Sp.arrI] at hp
  simp only [Int.toNat_natCast]
  simp (maxSteps := 1000000) (disch := ((try dsimp only); omega)) only [↓gsA, gsB]
  cases q1 : Sp.fresh (Sp.seen (aNames f i)) (f.arrays.getD i Arr.z).name <;> cases q2 : Sp.right (f.arrays.getD i Arr.z).width <;> cases q5 : Sp.divOk (f.arrays.getD i Arr.z) <;> by_cases q3 : (f.arrays.getD i Arr.z).len < 1 <;> by_cases q4 : 4096 < (f.arrays.getD i Arr.z).len <;> simp only [q3, q4, if_true, if_false, Bool.not_true, Bool.not_false, cond_true, cond_false] <;> first
   | rfl
   | (exfalso; rw [q1, q2, q5, decide_eq_false q3, decide_eq_false q4] at hp; cases hp)
 ·rw [List.length_range]
  simp (maxSteps := 1000000) (disch := ((try dsimp only); omega)) only [↓gsA, gsB]
theorem loop812 (f : Fn) (hf : f.ok) : whileO go81_l2 (((), ((), ()), f.streams, ((f.streams.length : Nat) : Int), (0 : Int), ()), f, ((), ()), Sp.seen (aNames f f.arrays.length), ()) =
  some (if (List.range f.streams.length).all (Sp.strI f) then Sum.inl (((), ()), f, ()) else Sum.inr ((false, ()), ())) := by
 have hx := hf.2.2.2.1.len
 rw [lenVal] at hx
 have e0 : aNames f f.arrays.length = sNames f 0 := by simp [aNames, sNames]
 rw [e0]
 unfold go81_l2
 refine whileO_all (l := List.range f.streams.length) (st := fun i => (((), ((), ()), f.streams, ((f.streams.length : Nat) : Int), (i : Int), ()), f, ((), ()), Sp.seen (sNames f i), ())) rfl 0 (Sp.strI f) (A := Sum.inl (((), ()), f, ())) (B := Sum.inr ((false, ()), ())) (fun i hi hp => ?_) (fun i hi hp => ?_) (fun _ => ?_)
 ·rw [List.length_range] at hi
  rw [range_getD hi] at hp
  simp only [Sp.strI, Bool.and_eq_true] at hp
  obtain ⟨h1, h2⟩ := hp
  simp only [Int.toNat_natCast, h1, h2]
  simp (maxSteps := 1000000) (disch := ((try dsimp only); omega)) only [↓gsA, gsB]
  rw [seen_put, <- sNames_succ f hi]
 ·rw [List.length_range] at hi
  rw [range_getD hi] at hp
  simp only [Sp.strI] at hp
  simp only [Int.toNat_natCast]
  simp (maxSteps := 1000000) (disch := ((try dsimp only); omega)) only [↓gsA, gsB]
  cases q1 : Sp.fresh (Sp.seen (sNames f i)) (f.streams.getD i Strm.z).name <;> cases q2 : Sp.right (f.streams.getD i Strm.z).width <;> first | rfl | (rw [q1, q2] at hp; cases hp)
 ·rw [List.length_range]
  simp (maxSteps := 1000000) (disch := ((try dsimp only); omega)) only [↓gsA, gsB]
theorem ok81 (f : Fn) (hf : f.ok) : go81 f = some (Sp.imems f, ()) := by
 unfold go81 Sp.imems
 rw [seen_nil]
 refine callB_of (loop811 f hf) ?_
 cases (List.range f.arrays.length).all (Sp.arrI f) with
 | false => rfl
 | true =>
  rw [if_pos rfl, sumO_inl]
  refine callB_of (loop812 f hf) ?_
  cases (List.range f.streams.length).all (Sp.strI f) with
  | false => rfl
  | true =>
   rw [if_pos rfl, sumO_inl]
   by_cases h : (f.arrays.length : Int) <= 64 <;> simp [h]
def c81 : Ctr Try.prog := mkCtr 81 Try.f81 Try.func81 [c118, c83, c119] ann81 [(0, (.st 6))] [] .b [] (fun x _ => grd (okB x.1.ok) (some (Sp.imems x.1, ()))) (fun x _ r h => FO (run81 x.1) (ok81 x.1) h)
@[reducible] def CK : Type := ByteArray × List Int × List Arr × List Strm × List Int × List Block × Unit × Unit × Unit
@[reducible] def pkF (f : Fn) : CK := (f.name, f.widths, f.arrays, f.streams, f.rets, f.blocks, (), (), ())
@[reducible] def mkF (y : CK) : Fn := ⟨y.1, y.2.1, y.2.2.1, y.2.2.2.1, y.2.2.2.2.1, y.2.2.2.2.2.1⟩
def Sp.idefOk (d : List Bool) (v : Int) : Bool := !decide (v < 0) && (!decide ((d.length : Int) <= v) && !d.getD v.toNat false)
def Sp.idefD (d : List Bool) (v : Int) : List Bool := if Sp.idefOk d v then d.set v.toNat true else d
def Sp.idefK (d : List Bool) (k : List Int) (v b : Int) : List Int := if Sp.idefOk d v then k.set v.toNat (b + 1) else k
def Bk (b : Int) : Prop := 0 <= b /\ b <= 1048576
theorem ok121 (v b : Int) (f : Fn) (d : List Bool) (k : List Int) (h : Bk b /\ k.length = d.length) : go121 v b (pkF f) d k = some (Sp.idefOk d v, pkF f, Sp.idefD d v, Sp.idefK d k v b, ()) := by
 obtain ⟨⟨hb, hb'⟩, hk⟩ := h
 unfold go121 Sp.idefD Sp.idefK Sp.idefOk
 by_cases h1 : v < 0
 ·simp [h1]
 by_cases h2 : (d.length : Int) <= v
 ·simp [h1, h2]
 have h3 : v.toNat < d.length := by omega
 have h4 : v.toNat < k.length := by omega
 rw [decide_eq_false h1, decide_eq_false h2]
 cases h5 : d.getD v.toNat false with
 | true => simp (maxSteps := 1000000) (disch := ((try dsimp only); omega)) only [↓gsA, gsB]; rfl
 | false => simp (maxSteps := 1000000) (disch := ((try dsimp only); omega)) only [↓gsA, gsB]; rfl
def c121 : Ctr Try.prog := mkCtr 121 Try.f121 Try.func121 [] ann121 [(0, (.ptr 0 0)), (1, (.i .i64)), (2, (.i .i64))] [(.cells 107 [.s, (.fz (.int .i64)), (.fz (.st 4)), (.fz (.st 5)), (.fz (.int .i64)), (.fz (.st 3)), (.full 1), (.full 2)]), (.lst 4 .bool), (.lst 3 (.int .i64))] .b [(.cells 107 [.s, (.fz (.int .i64)), (.fz (.st 4)), (.fz (.st 5)), (.fz (.int .i64)), (.fz (.st 3)), (.full 1), (.full 2)]), (.lst 4 .bool), (.lst 3 (.int .i64))] (fun x y => grd (okB (Bk x.2.2.1 /\ y.2.2.1.length = y.2.1.length)) (some (Sp.idefOk y.2.1 x.2.1, y.1, Sp.idefD y.2.1 x.2.1, Sp.idefK y.2.1 y.2.2.1 x.2.1 x.2.2.1, ())))
 (fun x y r h => FO (run121 x.2.1 x.2.2.1 y.1 y.2.1 y.2.2.1) (ok121 x.2.1 x.2.2.1 (mkF y.1) y.2.1 y.2.2.1) h)
def Sp.iuses (k : List Int) (l : List Int) (b : Int) : Bool := l.all fun v => !decide (v < 0) && (!decide ((k.length : Int) <= v) && decide (k.getD v.toNat 0 = b + 1))
theorem ok122 (l : List Int) (b : Int) (f : Fn) (d : List Bool) (k : List Int) (h : Bk b /\ l.length <= LEN) : go122 l b (pkF f) d k = some (Sp.iuses k l b, pkF f, d, k, ()) := by
 obtain ⟨⟨hb, hb'⟩, hl⟩ := h
 rw [lenVal] at hl
 unfold go122 go122_l1
 refine callB_of (whileO_all (l := l) (st := fun i => (((), b, l, ((l.length : Nat) : Int), (i : Int), ()), pkF f, d, k, ())) rfl 0 (fun v => !decide (v < 0) && (!decide ((k.length : Int) <= v) && decide (k.getD v.toNat 0 = b + 1))) (A := Sum.inl ((), pkF f, d, k, ())) (B := Sum.inr ((false, ()), pkF f, d, k, ())) (fun i hi hp => ?_) (fun i hi hp => ?_) (fun _ => ?_)) ?_
 ·simp only [Bool.and_eq_true, Bool.not_eq_true', decide_eq_true_eq, decide_eq_false_iff_not] at hp
  obtain ⟨h1, h2, h3⟩ := hp
  have h4 : (l.getD i 0).toNat < k.length := by omega
  simp (maxSteps := 1000000) (disch := ((try dsimp only); omega)) only [↓gsA, gsB]
 ·simp only [Int.toNat_natCast]
  by_cases h1 : l.getD i 0 < 0
  ·simp (maxSteps := 1000000) (disch := ((try dsimp only); omega)) only [↓gsA, gsB]
  by_cases h2 : (k.length : Int) <= l.getD i 0
  ·simp (maxSteps := 1000000) (disch := ((try dsimp only); omega)) only [↓gsA, gsB]
  have h4 : (l.getD i 0).toNat < k.length := by omega
  have h3 : ¬ k.getD (l.getD i 0).toNat 0 = b + 1 := by rw [decide_eq_false h1, decide_eq_false h2] at hp; exact of_decide_eq_false hp
  simp (maxSteps := 1000000) (disch := ((try dsimp only); omega)) only [↓gsA, gsB]
 ·simp (maxSteps := 1000000) (disch := ((try dsimp only); omega)) only [↓gsA, gsB]
 ·unfold Sp.iuses
  cases l.all fun v => !decide (v < 0) && (!decide ((k.length : Int) <= v) && decide (k.getD v.toNat 0 = b + 1)) <;> rfl
def c122 : Ctr Try.prog := mkCtr 122 Try.f122 Try.func122 [] ann122 [(0, (.ptr 0 0)), (1, (.fz (.int .i64))), (2, (.i .i64))] [(.cells 107 [.s, (.fz (.int .i64)), (.fz (.st 4)), (.fz (.st 5)), (.fz (.int .i64)), (.fz (.st 3)), (.full 1), (.full 2)]), (.lst 4 .bool), (.lst 3 (.int .i64))] .b [(.cells 107 [.s, (.fz (.int .i64)), (.fz (.st 4)), (.fz (.st 5)), (.fz (.int .i64)), (.fz (.st 3)), (.full 1), (.full 2)]), (.lst 4 .bool), (.lst 3 (.int .i64))] (fun x y => grd (okB (Bk x.2.2.1 /\ x.2.1.length <= LEN)) (some (Sp.iuses y.2.2.1 x.2.1 x.2.2.1, y.1, y.2.1, y.2.2.1, ())))
 (fun x y r h => FO (run122 x.2.1 x.2.2.1 y.1 y.2.1 y.2.2.1) (ok122 x.2.1 x.2.2.1 (mkF y.1) y.2.1 y.2.2.1) h)
def Sp.imem (f : Fn) (x : Inst) : Int × Bool :=
 if x.op = 25 \/ x.op = 26 then (if x.mem < 0 \/ (f.arrays.length : Int) <= x.mem then (0, false) else ((f.arrays.getD x.mem.toNat Arr.z).width, true))
 else if x.op = 27 \/ x.op = 28 then (if (x.mem < 0 \/ (f.streams.length : Int) <= x.mem) \/ (f.streams.getD x.mem.toNat Strm.z).out ≠ decide (x.op = 28) then (0, false) else ((f.streams.getD x.mem.toNat Strm.z).width, true))
 else (0, decide (x.mem = 0))
theorem ok133 (x : Inst) (f : Fn) (d : List Bool) (k : List Int) : go133 x (pkF f) d k = some (((Sp.imem f x).1, (Sp.imem f x).2, ()), pkF f, d, k, ()) := by
 unfold go133 go133_j1 go133_j2 Sp.imem
 simp only [jpO_eq, bif_decide]
 have hA : ∀ {β : Type} (y : Option β), ¬ x.mem < 0 -> ¬ (f.arrays.length : Int) <= x.mem -> grd (okB (0 <= x.mem /\ x.mem < (f.arrays.length : Int))) y = y := fun y h1 h2 => grd_ok (by omega)
 have hS : ∀ {β : Type} (y : Option β), ¬ x.mem < 0 -> ¬ (f.streams.length : Int) <= x.mem -> grd (okB (0 <= x.mem /\ x.mem < (f.streams.length : Int))) y = y := fun y h1 h2 => grd_ok (by omega)
 by_cases h1 : x.op = 25
 ·by_cases m1 : x.mem < 0 <;> by_cases m2 : (f.arrays.length : Int) <= x.mem <;> simp [h1, m1, m2, hA]
 by_cases h2 : x.op = 26
 ·by_cases m1 : x.mem < 0 <;> by_cases m2 : (f.arrays.length : Int) <= x.mem <;> simp [h2, m1, m2, hA]
 by_cases h3 : x.op = 27
 ·by_cases m1 : x.mem < 0 <;> by_cases m2 : (f.streams.length : Int) <= x.mem <;> cases m3 : (f.streams.getD x.mem.toNat Strm.z).out <;> simp [h3, m1, m2, hS, m3] <;> simp_all
 by_cases h4 : x.op = 28
 ·by_cases m1 : x.mem < 0 <;> by_cases m2 : (f.streams.length : Int) <= x.mem <;> cases m3 : (f.streams.getD x.mem.toNat Strm.z).out <;> simp [h4, m1, m2, hS, m3] <;> simp_all
 simp [h1, h2, h3, h4]
def c133 : Ctr Try.prog := mkCtr 133 Try.f133 Try.func133 [] ann133 [(0, (.ptr 0 0)), (1, (.st 0))] [(.cells 107 [.s, (.fz (.int .i64)), (.fz (.st 4)), (.fz (.st 5)), (.fz (.int .i64)), (.fz (.st 3)), (.full 1), (.full 2)]), (.lst 4 .bool), (.lst 3 (.int .i64))] (.tup [(.i .i64), .b]) [(.cells 107 [.s, (.fz (.int .i64)), (.fz (.st 4)), (.fz (.st 5)), (.fz (.int .i64)), (.fz (.st 3)), (.full 1), (.full 2)]), (.lst 4 .bool), (.lst 3 (.int .i64))] (fun x y => some (((Sp.imem (mkF y.1) x.2.1).1, (Sp.imem (mkF y.1) x.2.1).2, ()), y.1, y.2.1, y.2.2.1, ()))
 (fun x y r h => FE (run133 x.2.1 y.1 y.2.1 y.2.2.1) (ok133 x.2.1 (mkF y.1) y.2.1 y.2.2.1) h)
def Fn.inW (f : Fn) (v : Int) : Prop := 0 <= v /\ v < (f.widths.length : Int)
def Sp.pairOk (f : Fn) (v p : Int) : Bool := Sp.within f p && decide (f.widths.getD v.toNat 0 = f.widths.getD p.toNat 0)
theorem ok150 (v p : Int) (f : Fn) (d : List Bool) (k : List Int) (h : f.inW v) : go150 v p ((), ()) (pkF f) d k = some (Sp.pairOk f v p, ((), ()), pkF f, d, k, ()) := by
 obtain ⟨h1, h2⟩ := h
 unfold go150 Sp.pairOk Sp.within
 by_cases h3 : 0 <= p <;> by_cases h4 : p < (f.widths.length : Int) <;> first | (exfalso; omega) | (simp (maxSteps := 1000000) (disch := ((try dsimp only); omega)) only [↓gsA, gsB] <;> simp only [h3, h4, decide_true, decide_false, Bool.true_and, Bool.false_and, Bool.and_false])
def c150 : Ctr Try.prog := mkCtr 150 Try.f150 Try.func150 [] ann150 [(0, (.i .i64)), (1, (.i .i64)), (2, (.ptr 0 0))] [(.cells 105 [(.ptr 1 0)]), (.cells 107 [.s, (.fz (.int .i64)), (.fz (.st 4)), (.fz (.st 5)), (.fz (.int .i64)), (.fz (.st 3)), (.full 2), (.full 3)]), (.lst 4 .bool), (.lst 3 (.int .i64))] .b [(.cells 105 [(.ptr 1 0)]), (.cells 107 [.s, (.fz (.int .i64)), (.fz (.st 4)), (.fz (.st 5)), (.fz (.int .i64)), (.fz (.st 3)), (.full 2), (.full 3)]), (.lst 4 .bool), (.lst 3 (.int .i64))] (fun x y => grd (okB ((mkF y.2.1).inW x.1)) (some (Sp.pairOk (mkF y.2.1) x.1 x.2.1, ((), ()), y.2.1, y.2.2.1, y.2.2.2.1, ())))
 (fun x y r h => FO (run150 x.1 x.2.1 y.1 y.2.1 y.2.2.1 y.2.2.2.1) (ok150 x.1 x.2.1 (mkF y.2.1) y.2.2.1 y.2.2.2.1) h)
theorem ok137 (v w : Int) (f : Fn) (d : List Bool) (k : List Int) (h : f.inW v) : go137 v w ((), ()) (pkF f) d k = some (decide (f.widths.getD v.toNat 0 = w), ((), ()), pkF f, d, k, ()) := by
 obtain ⟨h1, h2⟩ := h
 unfold go137
 simp (maxSteps := 1000000) (disch := ((try dsimp only); omega)) only [↓gsA, gsB]
def c137 : Ctr Try.prog := mkCtr 137 Try.f137 Try.func137 [] ann137 [(0, (.i .i64)), (1, (.i .i64)), (2, (.ptr 0 0))] [(.cells 105 [(.ptr 1 0)]), (.cells 107 [.s, (.fz (.int .i64)), (.fz (.st 4)), (.fz (.st 5)), (.fz (.int .i64)), (.fz (.st 3)), (.full 2), (.full 3)]), (.lst 4 .bool), (.lst 3 (.int .i64))] .b [(.cells 105 [(.ptr 1 0)]), (.cells 107 [.s, (.fz (.int .i64)), (.fz (.st 4)), (.fz (.st 5)), (.fz (.int .i64)), (.fz (.st 3)), (.full 2), (.full 3)]), (.lst 4 .bool), (.lst 3 (.int .i64))] (fun x y => grd (okB ((mkF y.2.1).inW x.1)) (some (decide ((mkF y.2.1).widths.getD x.1.toNat 0 = x.2.1), ((), ()), y.2.1, y.2.2.1, y.2.2.2.1, ())))
 (fun x y r h => FO (run137 x.1 x.2.1 y.1 y.2.1 y.2.2.1 y.2.2.2.1) (ok137 x.1 x.2.1 (mkF y.2.1) y.2.2.1 y.2.2.2.1) h)
end
end Go.Abs
namespace Go.Abs
open Go Go.Proofs
noncomputable section
def ann84 : Ann := (.seq .o (.seq .o .o))
def go84 (x0 : (List Int)) (x1 : Unit) : (Option (Bool × Unit)) :=
 (callB (grd (okB (x0.length <= LEN))
   (some ((Sp.badAt x0), ())))
  (fun (r0 : (Int × Unit)) => (some ((decide ((0 : Int) <= r0.1)), ()))))
theorem run84 (x0 : (List Int)) (x1 : Unit) : runF (P := Try.prog) [c120] Try.f84 ann84 [(0, (.fz (.int .i64))), (1, (.fn 82 []))] [] .b [] (x0, (x1, ())) () = go84 x0 x1 := by kernel_rfl
def ann136 : Ann := (.seq .o (.join ⟨[(0, (.fz (.int .i64))), (1, (.fz (.int .i64))), (2, (.fn 150 [(.ptr 0 0)]))], [(.cells 105 [(.ptr 1 0)]), (.cells 107 [.s, (.fz (.int .i64)), (.fz (.st 4)), (.fz (.st 5)), (.fz (.int .i64)), (.fz (.st 3)), (.full 2), (.full 3)]), (.lst 4 .bool), (.lst 3 (.int .i64))]⟩ (.seq .o (.cond (.seq .o .o) .o)) (.join ⟨[], [(.cells 105 [(.ptr 1 0)]), (.cells 107 [.s, (.fz (.int .i64)), (.fz (.st 4)), (.fz (.st 5)), (.fz (.int .i64)), (.fz (.st 3)), (.full 2), (.full 3)]), (.lst 4 .bool), (.lst 3 (.int .i64))]⟩ (.seq .o (.block (.loop ⟨[(1, (.fz (.int .i64))), (2, (.fn 150 [(.ptr 0 0)])), (15, (.fz (.int .i64))), (16, (.i .i64)), (17, (.i .i64))], [(.cells 105 [(.ptr 1 0)]), (.cells 107 [.s, (.fz (.int .i64)), (.fz (.st 4)), (.fz (.st 5)), (.fz (.int .i64)), (.fz (.st 3)), (.full 2), (.full 3)]), (.lst 4 .bool), (.lst 3 (.int .i64))]⟩ [((.exit 0), ⟨[], [(.cells 105 [(.ptr 1 0)]), (.cells 107 [.s, (.fz (.int .i64)), (.fz (.st 4)), (.fz (.st 5)), (.fz (.int .i64)), (.fz (.st 3)), (.full 2), (.full 3)]), (.lst 4 .bool), (.lst 3 (.int .i64))]⟩), (.ret, ⟨[(6, .b)], [(.cells 105 [(.ptr 1 0)]), (.cells 107 [.s, (.fz (.int .i64)), (.fz (.st 4)), (.fz (.st 5)), (.fz (.int .i64)), (.fz (.st 3)), (.full 2), (.full 3)]), (.lst 4 .bool), (.lst 3 (.int .i64))]⟩)] (.seq .o (.join ⟨[(1, (.fz (.int .i64))), (2, (.fn 150 [(.ptr 0 0)])), (15, (.fz (.int .i64))), (16, (.i .i64)), (17, (.i .i64))], [(.cells 105 [(.ptr 1 0)]), (.cells 107 [.s, (.fz (.int .i64)), (.fz (.st 4)), (.fz (.st 5)), (.fz (.int .i64)), (.fz (.st 3)), (.full 2), (.full 3)]), (.lst 4 .bool), (.lst 3 (.int .i64))]⟩ (.cond .o .o) (.join ⟨[(1, (.fz (.int .i64))), (2, (.fn 150 [(.ptr 0 0)])), (15, (.fz (.int .i64))), (16, (.i .i64)), (17, (.i .i64))], [(.cells 105 [(.ptr 1 0)]), (.cells 107 [.s, (.fz (.int .i64)), (.fz (.st 4)), (.fz (.st 5)), (.fz (.int .i64)), (.fz (.st 3)), (.full 2), (.full 3)]), (.lst 4 .bool), (.lst 3 (.int .i64))]⟩ (.block (.seq .o (.seq .o (.seq .o (.cond (.seq .o .o) .o))))) .o)))))) (.seq .o .o))))
def go136_l1 : (((List Int) × ((Unit × Unit) × ((List Int) × (Int × (Int × Unit))))) × ((Unit × Unit) × ((ByteArray × ((List Int) × ((List Arr) × ((List Strm) × ((List Int) × ((List Block) × (Unit × (Unit × Unit)))))))) × ((List Bool) × ((List Int) × Unit))))) -> Option ((((List Int) × ((Unit × Unit) × ((List Int) × (Int × (Int × Unit))))) × ((Unit × Unit) × ((ByteArray × ((List Int) × ((List Arr) × ((List Strm) × ((List Int) × ((List Block) × (Unit × (Unit × Unit)))))))) × ((List Bool) × ((List Int) × Unit))))) ⊕ ((Unit × ((Unit × Unit) × ((ByteArray × ((List Int) × ((List Arr) × ((List Strm) × ((List Int) × ((List Block) × (Unit × (Unit × Unit)))))))) × ((List Bool) × ((List Int) × Unit))))) ⊕ ((Bool × Unit) × ((Unit × Unit) × ((ByteArray × ((List Int) × ((List Arr) × ((List Strm) × ((List Int) × ((List Block) × (Unit × (Unit × Unit)))))))) × ((List Bool) × ((List Int) × Unit))))))) := (fun (r0 : (((List Int) × ((Unit × Unit) × ((List Int) × (Int × (Int × Unit))))) × ((Unit × Unit) × ((ByteArray × ((List Int) × ((List Arr) × ((List Strm) × ((List Int) × ((List Block) × (Unit × (Unit × Unit)))))))) × ((List Bool) × ((List Int) × Unit)))))) => (bif (decide (r0.1.2.2.2.2.1 < r0.1.2.2.2.1)) then
   (grd (okB (((0 : Int) <= r0.1.2.2.2.2.1) /\ (r0.1.2.2.2.2.1 < ((r0.1.2.2.1.length : Nat) : Int))))
    (grd (okB (((0 : Int) <= r0.1.2.2.2.2.1) /\ (r0.1.2.2.2.2.1 < ((r0.1.1.length : Nat) : Int))))
     (callB (grd (okB (Fn.inW (mkF (r0.2.2.1.1, (r0.2.2.1.2.1, (r0.2.2.1.2.2.1, (r0.2.2.1.2.2.2.1, (r0.2.2.1.2.2.2.2.1, (r0.2.2.1.2.2.2.2.2.1, ((), ((), ()))))))))) (r0.1.2.2.1.getD r0.1.2.2.2.2.1.toNat (0 : Int))))
       (some ((Sp.pairOk (mkF (r0.2.2.1.1, (r0.2.2.1.2.1, (r0.2.2.1.2.2.1, (r0.2.2.1.2.2.2.1, (r0.2.2.1.2.2.2.2.1, (r0.2.2.1.2.2.2.2.2.1, ((), ((), ()))))))))) (r0.1.2.2.1.getD r0.1.2.2.2.2.1.toNat (0 : Int)) (r0.1.1.getD r0.1.2.2.2.2.1.toNat (0 : Int))), (((), ()), ((r0.2.2.1.1, (r0.2.2.1.2.1, (r0.2.2.1.2.2.1, (r0.2.2.1.2.2.2.1, (r0.2.2.1.2.2.2.2.1, (r0.2.2.1.2.2.2.2.2.1, ((), ((), ())))))))), (r0.2.2.2.1, (r0.2.2.2.2.1, ())))))))
      (fun (r1 : (Bool × ((Unit × Unit) × ((ByteArray × ((List Int) × ((List Arr) × ((List Strm) × ((List Int) × ((List Block) × (Unit × (Unit × Unit)))))))) × ((List Bool) × ((List Int) × Unit)))))) => (grd ((decide ((1 : Nat) = (1 : Nat))) && ((decide ((1 : Nat) = (1 : Nat))) && ((decide (r1.2.2.2.1.length = r0.2.2.2.1.length)) && ((decide (r1.2.2.2.2.1.length = r0.2.2.2.2.1.length)) && true))))
        (bif (!r1.1) then
         (some (Sum.inr (Sum.inr ((false, ()), (((), ()), ((r1.2.2.1.1, (r1.2.2.1.2.1, (r1.2.2.1.2.2.1, (r1.2.2.1.2.2.2.1, (r1.2.2.1.2.2.2.2.1, (r1.2.2.1.2.2.2.2.2.1, ((), ((), ())))))))), (r1.2.2.2.1, (r1.2.2.2.2.1, ()))))))))
         else
         (grd (okB (((-(9223372036854775808 : Int)) <= (r0.1.2.2.2.2.1 + (1 : Int))) /\ ((r0.1.2.2.2.2.1 + (1 : Int)) <= (9223372036854775807 : Int))))
          (some (Sum.inl ((r0.1.1, (((), ()), (r0.1.2.2.1, (r0.1.2.2.2.1, ((r0.1.2.2.2.2.1 + (1 : Int)), ()))))), (((), ()), ((r1.2.2.1.1, (r1.2.2.1.2.1, (r1.2.2.1.2.2.1, (r1.2.2.1.2.2.2.1, (r1.2.2.1.2.2.2.2.1, (r1.2.2.1.2.2.2.2.2.1, ((), ((), ())))))))), (r1.2.2.2.1, (r1.2.2.2.2.1, ()))))))))))))))
   else
   (some (Sum.inr (Sum.inl ((), (((), ()), ((r0.2.2.1.1, (r0.2.2.1.2.1, (r0.2.2.1.2.2.1, (r0.2.2.1.2.2.2.1, (r0.2.2.1.2.2.2.2.1, (r0.2.2.1.2.2.2.2.2.1, ((), ((), ())))))))), (r0.2.2.2.1, (r0.2.2.2.2.1, ()))))))))))
def go136 (x0 : (List Int)) (x1 : (List Int)) (x2 : (Unit × Unit)) (y0 : (Unit × Unit)) (y1 : (ByteArray × ((List Int) × ((List Arr) × ((List Strm) × ((List Int) × ((List Block) × (Unit × (Unit × Unit))))))))) (y2 : (List Bool)) (y3 : (List Int)) : (Option (Bool × ((Unit × Unit) × ((ByteArray × ((List Int) × ((List Arr) × ((List Strm) × ((List Int) × ((List Block) × (Unit × (Unit × Unit)))))))) × ((List Bool) × ((List Int) × Unit)))))) :=
 (bif (!(decide (((x0.length : Nat) : Int) = ((x1.length : Nat) : Int)))) then
  (some (false, (((), ()), ((y1.1, (y1.2.1, (y1.2.2.1, (y1.2.2.2.1, (y1.2.2.2.2.1, (y1.2.2.2.2.2.1, ((), ((), ())))))))), (y2, (y3, ()))))))
  else
  (callB (whileO (go136_l1) ((x1, (((), ()), (x0, (((x0.length : Nat) : Int), ((0 : Int), ()))))), (((), ()), ((y1.1, (y1.2.1, (y1.2.2.1, (y1.2.2.2.1, (y1.2.2.2.2.1, (y1.2.2.2.2.2.1, ((), ((), ())))))))), (y2, (y3, ()))))))
   (fun (z0 : ((Unit × ((Unit × Unit) × ((ByteArray × ((List Int) × ((List Arr) × ((List Strm) × ((List Int) × ((List Block) × (Unit × (Unit × Unit)))))))) × ((List Bool) × ((List Int) × Unit))))) ⊕ ((Bool × Unit) × ((Unit × Unit) × ((ByteArray × ((List Int) × ((List Arr) × ((List Strm) × ((List Int) × ((List Block) × (Unit × (Unit × Unit)))))))) × ((List Bool) × ((List Int) × Unit))))))) => (sumO (fun (z1 : (Unit × ((Unit × Unit) × ((ByteArray × ((List Int) × ((List Arr) × ((List Strm) × ((List Int) × ((List Block) × (Unit × (Unit × Unit)))))))) × ((List Bool) × ((List Int) × Unit)))))) => (some (true, (((), ()), ((z1.2.2.1.1, (z1.2.2.1.2.1, (z1.2.2.1.2.2.1, (z1.2.2.1.2.2.2.1, (z1.2.2.1.2.2.2.2.1, (z1.2.2.1.2.2.2.2.2.1, ((), ((), ())))))))), (z1.2.2.2.1, (z1.2.2.2.2.1, ())))))))
     (fun (z1 : ((Bool × Unit) × ((Unit × Unit) × ((ByteArray × ((List Int) × ((List Arr) × ((List Strm) × ((List Int) × ((List Block) × (Unit × (Unit × Unit)))))))) × ((List Bool) × ((List Int) × Unit)))))) => (some (z1.1.1, (((), ()), ((z1.2.2.1.1, (z1.2.2.1.2.1, (z1.2.2.1.2.2.1, (z1.2.2.1.2.2.2.1, (z1.2.2.1.2.2.2.2.1, (z1.2.2.1.2.2.2.2.2.1, ((), ((), ())))))))), (z1.2.2.2.1, (z1.2.2.2.2.1, ()))))))) z0))))
theorem run136 (x0 : (List Int)) (x1 : (List Int)) (x2 : (Unit × Unit)) (y0 : (Unit × Unit)) (y1 : (ByteArray × ((List Int) × ((List Arr) × ((List Strm) × ((List Int) × ((List Block) × (Unit × (Unit × Unit))))))))) (y2 : (List Bool)) (y3 : (List Int)) : runF (P := Try.prog) [c150] Try.f136 ann136 [(0, (.fz (.int .i64))), (1, (.fz (.int .i64))), (2, (.fn 150 [(.ptr 0 0)]))] [(.cells 105 [(.ptr 1 0)]), (.cells 107 [.s, (.fz (.int .i64)), (.fz (.st 4)), (.fz (.st 5)), (.fz (.int .i64)), (.fz (.st 3)), (.full 2), (.full 3)]), (.lst 4 .bool), (.lst 3 (.int .i64))] .b [(.cells 105 [(.ptr 1 0)]), (.cells 107 [.s, (.fz (.int .i64)), (.fz (.st 4)), (.fz (.st 5)), (.fz (.int .i64)), (.fz (.st 3)), (.full 2), (.full 3)]), (.lst 4 .bool), (.lst 3 (.int .i64))] (x0, (x1, (x2, ()))) (y0, (y1, (y2, (y3, ())))) = go136 x0 x1 x2 y0 y1 y2 y3 := by kernel_rfl
def ann123 : Ann := (.seq .o (.seq .o (.join ⟨[(0, (.ptr 0 0)), (3, (.ptr 3 0)), (5, (.i .i64))], [(.cells 107 [.s, (.fz (.int .i64)), (.fz (.st 4)), (.fz (.st 5)), (.fz (.int .i64)), (.fz (.st 3)), (.full 1), (.full 2)]), (.lst 4 .bool), (.lst 3 (.int .i64)), (.box 46 (.st 0))]⟩ (.seq .o (.cond (.seq .o .o) .o)) (.seq .o (.join ⟨[(0, (.ptr 0 0)), (3, (.ptr 3 0)), (5, (.i .i64)), (7, (.i .i64))], [(.cells 107 [.s, (.fz (.int .i64)), (.fz (.st 4)), (.fz (.st 5)), (.fz (.int .i64)), (.fz (.st 3)), (.full 1), (.full 2)]), (.lst 4 .bool), (.lst 3 (.int .i64)), (.box 46 (.st 0))]⟩ (.seq .o (.cond (.join ⟨[(0, (.ptr 0 0)), (3, (.ptr 3 0)), (5, (.i .i64))], [(.cells 107 [.s, (.fz (.int .i64)), (.fz (.st 4)), (.fz (.st 5)), (.fz (.int .i64)), (.fz (.st 3)), (.full 1), (.full 2)]), (.lst 4 .bool), (.lst 3 (.int .i64)), (.box 46 (.st 0))]⟩ (.seq .o (.cond (.seq .o .o) .o)) .o) (.seq .o (.cond (.seq .o .o) .o)))) (.seq .o (.join ⟨[(3, (.ptr 3 0)), (5, (.i .i64)), (7, (.i .i64)), (8, (.ptr 4 0))], [(.cells 107 [.s, (.fz (.int .i64)), (.fz (.st 4)), (.fz (.st 5)), (.fz (.int .i64)), (.fz (.st 3)), (.full 1), (.full 2)]), (.lst 4 .bool), (.lst 3 (.int .i64)), (.box 46 (.st 0)), (.cells 144 [(.i .i64), (.i .i64), (.i .i64)])]⟩ (.seq .o (.block (.loop ⟨[(0, (.ptr 0 0)), (3, (.ptr 3 0)), (5, (.i .i64)), (7, (.i .i64)), (8, (.ptr 4 0)), (59, (.fz (.int .i64))), (60, (.i .i64)), (61, (.i .i64))], [(.cells 107 [.s, (.fz (.int .i64)), (.fz (.st 4)), (.fz (.st 5)), (.fz (.int .i64)), (.fz (.st 3)), (.full 1), (.full 2)]), (.lst 4 .bool), (.lst 3 (.int .i64)), (.box 46 (.st 0)), (.cells 144 [(.i .i64), (.i .i64), (.i .i64)])]⟩ [((.exit 0), ⟨[(3, (.ptr 3 0)), (5, (.i .i64)), (7, (.i .i64)), (8, (.ptr 4 0))], [(.cells 107 [.s, (.fz (.int .i64)), (.fz (.st 4)), (.fz (.st 5)), (.fz (.int .i64)), (.fz (.st 3)), (.full 1), (.full 2)]), (.lst 4 .bool), (.lst 3 (.int .i64)), (.box 46 (.st 0)), (.cells 144 [(.i .i64), (.i .i64), (.i .i64)])]⟩)] (.seq .o (.join ⟨[(0, (.ptr 0 0)), (3, (.ptr 3 0)), (5, (.i .i64)), (7, (.i .i64)), (8, (.ptr 4 0)), (59, (.fz (.int .i64))), (60, (.i .i64)), (61, (.i .i64))], [(.cells 107 [.s, (.fz (.int .i64)), (.fz (.st 4)), (.fz (.st 5)), (.fz (.int .i64)), (.fz (.st 3)), (.full 1), (.full 2)]), (.lst 4 .bool), (.lst 3 (.int .i64)), (.box 46 (.st 0)), (.cells 144 [(.i .i64), (.i .i64), (.i .i64)])]⟩ (.cond .o .o) (.join ⟨[(0, (.ptr 0 0)), (3, (.ptr 3 0)), (5, (.i .i64)), (7, (.i .i64)), (8, (.ptr 4 0)), (59, (.fz (.int .i64))), (60, (.i .i64)), (61, (.i .i64))], [(.cells 107 [.s, (.fz (.int .i64)), (.fz (.st 4)), (.fz (.st 5)), (.fz (.int .i64)), (.fz (.st 3)), (.full 1), (.full 2)]), (.lst 4 .bool), (.lst 3 (.int .i64)), (.box 46 (.st 0)), (.cells 144 [(.i .i64), (.i .i64), (.i .i64)])]⟩ (.block (.seq .o .o)) .o)))))) (.join ⟨[(3, (.ptr 3 0)), (7, (.i .i64)), (8, (.ptr 4 0))], [(.cells 107 [.s, (.fz (.int .i64)), (.fz (.st 4)), (.fz (.st 5)), (.fz (.int .i64)), (.fz (.st 3)), (.full 1), (.full 2)]), (.lst 4 .bool), (.lst 3 (.int .i64)), (.box 46 (.st 0)), (.cells 144 [(.i .i64), (.i .i64), (.i .i64)])]⟩ (.seq .o (.block (.seq .o (.cond (.seq .o .o) (.seq .o (.cond (.seq .o .o) (.join ⟨[(3, (.ptr 3 0)), (5, (.i .i64)), (7, (.i .i64)), (8, (.ptr 4 0)), (78, (.i .i64)), (95, .b)], [(.cells 107 [.s, (.fz (.int .i64)), (.fz (.st 4)), (.fz (.st 5)), (.fz (.int .i64)), (.fz (.st 3)), (.full 1), (.full 2)]), (.lst 4 .bool), (.lst 3 (.int .i64)), (.box 46 (.st 0)), (.cells 144 [(.i .i64), (.i .i64), (.i .i64)])]⟩ (.seq .o (.cond .o .o)) (.cond (.seq .o .o) (.seq .o (.cond (.seq .o .o) (.seq .o (.cond (.seq .o .o) (.seq .o (.cond (.seq .o .o) (.seq .o (.cond (.seq .o .o) (.seq .o (.cond (.seq .o .o) .o)))))))))))))))))) (.join ⟨[(7, (.i .i64)), (8, (.ptr 3 0))], [(.cells 107 [.s, (.fz (.int .i64)), (.fz (.st 4)), (.fz (.st 5)), (.fz (.int .i64)), (.fz (.st 3)), (.full 1), (.full 2)]), (.lst 4 .bool), (.lst 3 (.int .i64)), (.cells 144 [(.i .i64), (.i .i64), (.i .i64)])]⟩ (.seq .o (.cond (.seq .o .o) .o)) (.seq .o .o))))))))))
def go123_j4 : ((Unit × (Int × (Int × (Unit × (Int × (Bool × Unit)))))) × ((ByteArray × ((List Int) × ((List Arr) × ((List Strm) × ((List Int) × ((List Block) × (Unit × (Unit × Unit)))))))) × ((List Bool) × ((List Int) × (Inst × ((Int × (Int × (Int × Unit))) × Unit)))))) -> Option (Bool × ((ByteArray × ((List Int) × ((List Arr) × ((List Strm) × ((List Int) × ((List Block) × (Unit × (Unit × Unit)))))))) × ((List Bool) × ((List Int) × Unit)))) := (fun (z3 : ((Unit × (Int × (Int × (Unit × (Int × (Bool × Unit)))))) × ((ByteArray × ((List Int) × ((List Arr) × ((List Strm) × ((List Int) × ((List Block) × (Unit × (Unit × Unit)))))))) × ((List Bool) × ((List Int) × (Inst × ((Int × (Int × (Int × Unit))) × Unit))))))) => (bif z3.1.2.2.2.2.2.1 then
   (some ((decide (z3.2.2.2.2.2.1.1 < z3.1.2.2.1)), ((z3.2.1.1, (z3.2.1.2.1, (z3.2.1.2.2.1, (z3.2.1.2.2.2.1, (z3.2.1.2.2.2.2.1, (z3.2.1.2.2.2.2.2.1, ((), ((), ())))))))), (z3.2.2.1, (z3.2.2.2.1, ())))))
   else
   (bif (decide (z3.1.2.2.2.2.1 = (24 : Int))) then
    (some ((decide (z3.1.2.2.1 < z3.2.2.2.2.2.1.1)), ((z3.2.1.1, (z3.2.1.2.1, (z3.2.1.2.2.1, (z3.2.1.2.2.2.1, (z3.2.1.2.2.2.2.1, (z3.2.1.2.2.2.2.2.1, ((), ((), ())))))))), (z3.2.2.1, (z3.2.2.2.1, ())))))
    else
    (bif (decide (z3.1.2.2.2.2.1 = (25 : Int))) then
     (bif (decide (z3.1.2.1 = z3.1.2.2.1)) then
      (some ((decide (z3.2.2.2.2.2.1.2.1 = (1 : Int))), ((z3.2.1.1, (z3.2.1.2.1, (z3.2.1.2.2.1, (z3.2.1.2.2.2.1, (z3.2.1.2.2.2.2.1, (z3.2.1.2.2.2.2.2.1, ((), ((), ())))))))), (z3.2.2.1, (z3.2.2.2.1, ())))))
      else
      (some (false, ((z3.2.1.1, (z3.2.1.2.1, (z3.2.1.2.2.1, (z3.2.1.2.2.2.1, (z3.2.1.2.2.2.2.1, (z3.2.1.2.2.2.2.2.1, ((), ((), ())))))))), (z3.2.2.1, (z3.2.2.2.1, ()))))))
     else
     (bif (decide (z3.1.2.2.2.2.1 = (26 : Int))) then
      (bif (decide (z3.1.2.1 = z3.2.2.2.2.2.1.2.1)) then
       (some ((decide (z3.2.2.2.2.2.1.2.2.1 = (1 : Int))), ((z3.2.1.1, (z3.2.1.2.1, (z3.2.1.2.2.1, (z3.2.1.2.2.2.1, (z3.2.1.2.2.2.2.1, (z3.2.1.2.2.2.2.2.1, ((), ((), ())))))))), (z3.2.2.1, (z3.2.2.2.1, ())))))
       else
       (some (false, ((z3.2.1.1, (z3.2.1.2.1, (z3.2.1.2.2.1, (z3.2.1.2.2.2.1, (z3.2.1.2.2.2.2.1, (z3.2.1.2.2.2.2.2.1, ((), ((), ())))))))), (z3.2.2.1, (z3.2.2.2.1, ()))))))
      else
      (bif (decide (z3.1.2.2.2.2.1 = (27 : Int))) then
       (bif (decide (z3.1.2.1 = z3.1.2.2.1)) then
        (some ((decide (z3.2.2.2.2.2.1.1 = (1 : Int))), ((z3.2.1.1, (z3.2.1.2.1, (z3.2.1.2.2.1, (z3.2.1.2.2.2.1, (z3.2.1.2.2.2.2.1, (z3.2.1.2.2.2.2.2.1, ((), ((), ())))))))), (z3.2.2.1, (z3.2.2.2.1, ())))))
        else
        (some (false, ((z3.2.1.1, (z3.2.1.2.1, (z3.2.1.2.2.1, (z3.2.1.2.2.2.1, (z3.2.1.2.2.2.2.1, (z3.2.1.2.2.2.2.2.1, ((), ((), ())))))))), (z3.2.2.1, (z3.2.2.2.1, ()))))))
       else
       (bif (decide (z3.1.2.2.2.2.1 = (28 : Int))) then
        (bif (decide (z3.1.2.1 = z3.2.2.2.2.2.1.1)) then
         (some ((decide (z3.2.2.2.2.2.1.2.1 = (1 : Int))), ((z3.2.1.1, (z3.2.1.2.1, (z3.2.1.2.2.1, (z3.2.1.2.2.2.1, (z3.2.1.2.2.2.2.1, (z3.2.1.2.2.2.2.2.1, ((), ((), ())))))))), (z3.2.2.1, (z3.2.2.2.1, ())))))
         else
         (some (false, ((z3.2.1.1, (z3.2.1.2.1, (z3.2.1.2.2.1, (z3.2.1.2.2.2.1, (z3.2.1.2.2.2.2.1, (z3.2.1.2.2.2.2.2.1, ((), ((), ())))))))), (z3.2.2.1, (z3.2.2.2.1, ()))))))
        else
        (bif (Sp.isCompare z3.2.2.2.2.1.op) then
         (bif (decide (z3.2.2.2.2.2.1.1 = z3.2.2.2.2.2.1.2.1)) then
          (some ((decide (z3.1.2.2.1 = (1 : Int))), ((z3.2.1.1, (z3.2.1.2.1, (z3.2.1.2.2.1, (z3.2.1.2.2.2.1, (z3.2.1.2.2.2.2.1, (z3.2.1.2.2.2.2.2.1, ((), ((), ())))))))), (z3.2.2.1, (z3.2.2.2.1, ())))))
          else
          (some (false, ((z3.2.1.1, (z3.2.1.2.1, (z3.2.1.2.2.1, (z3.2.1.2.2.2.1, (z3.2.1.2.2.2.2.1, (z3.2.1.2.2.2.2.2.1, ((), ((), ())))))))), (z3.2.2.1, (z3.2.2.2.1, ()))))))
         else
         (bif (decide (z3.2.2.2.2.2.1.1 = z3.1.2.2.1)) then
          (some ((decide (z3.2.2.2.2.2.1.2.1 = z3.1.2.2.1)), ((z3.2.1.1, (z3.2.1.2.1, (z3.2.1.2.2.1, (z3.2.1.2.2.2.1, (z3.2.1.2.2.2.2.1, (z3.2.1.2.2.2.2.2.1, ((), ((), ())))))))), (z3.2.2.1, (z3.2.2.2.1, ())))))
          else
          (some (false, ((z3.2.1.1, (z3.2.1.2.1, (z3.2.1.2.2.1, (z3.2.1.2.2.2.1, (z3.2.1.2.2.2.2.1, (z3.2.1.2.2.2.2.2.1, ((), ((), ())))))))), (z3.2.2.1, (z3.2.2.2.1, ()))))))))))))))
def go123_j3 : ((Unit × (Unit × (Int × (Int × (Unit × ((List Int) × (Int × (Int × Unit)))))))) × ((ByteArray × ((List Int) × ((List Arr) × ((List Strm) × ((List Int) × ((List Block) × (Unit × (Unit × Unit)))))))) × ((List Bool) × ((List Int) × (Inst × ((Int × (Int × (Int × Unit))) × Unit)))))) -> Option (((Unit × (Unit × (Int × (Int × (Unit × ((List Int) × (Int × (Int × Unit)))))))) × ((ByteArray × ((List Int) × ((List Arr) × ((List Strm) × ((List Int) × ((List Block) × (Unit × (Unit × Unit)))))))) × ((List Bool) × ((List Int) × (Inst × ((Int × (Int × (Int × Unit))) × Unit)))))) ⊕ ((Unit × (Int × (Int × (Unit × Unit)))) × ((ByteArray × ((List Int) × ((List Arr) × ((List Strm) × ((List Int) × ((List Block) × (Unit × (Unit × Unit)))))))) × ((List Bool) × ((List Int) × (Inst × ((Int × (Int × (Int × Unit))) × Unit))))))) := (fun (z2 : ((Unit × (Unit × (Int × (Int × (Unit × ((List Int) × (Int × (Int × Unit)))))))) × ((ByteArray × ((List Int) × ((List Arr) × ((List Strm) × ((List Int) × ((List Block) × (Unit × (Unit × Unit)))))))) × ((List Bool) × ((List Int) × (Inst × ((Int × (Int × (Int × Unit))) × Unit))))))) => (grd (okB (((-(9223372036854775808 : Int)) <= (z2.1.2.2.2.2.2.2.2.1 + (1 : Int))) /\ ((z2.1.2.2.2.2.2.2.2.1 + (1 : Int)) <= (9223372036854775807 : Int))))
   (some (Sum.inl (((), ((), (z2.1.2.2.1, (z2.1.2.2.2.1, ((), (z2.1.2.2.2.2.2.1, (z2.1.2.2.2.2.2.2.1, ((z2.1.2.2.2.2.2.2.2.1 + (1 : Int)), ())))))))), ((z2.2.1.1, (z2.2.1.2.1, (z2.2.1.2.2.1, (z2.2.1.2.2.2.1, (z2.2.1.2.2.2.2.1, (z2.2.1.2.2.2.2.2.1, ((), ((), ())))))))), (z2.2.2.1, (z2.2.2.2.1, (z2.2.2.2.2.1, ((z2.2.2.2.2.2.1.1, (z2.2.2.2.2.2.1.2.1, (z2.2.2.2.2.2.1.2.2.1, ()))), ()))))))))))
def go123_l1 : ((Unit × (Unit × (Int × (Int × (Unit × ((List Int) × (Int × (Int × Unit)))))))) × ((ByteArray × ((List Int) × ((List Arr) × ((List Strm) × ((List Int) × ((List Block) × (Unit × (Unit × Unit)))))))) × ((List Bool) × ((List Int) × (Inst × ((Int × (Int × (Int × Unit))) × Unit)))))) -> Option (((Unit × (Unit × (Int × (Int × (Unit × ((List Int) × (Int × (Int × Unit)))))))) × ((ByteArray × ((List Int) × ((List Arr) × ((List Strm) × ((List Int) × ((List Block) × (Unit × (Unit × Unit)))))))) × ((List Bool) × ((List Int) × (Inst × ((Int × (Int × (Int × Unit))) × Unit)))))) ⊕ ((Unit × (Int × (Int × (Unit × Unit)))) × ((ByteArray × ((List Int) × ((List Arr) × ((List Strm) × ((List Int) × ((List Block) × (Unit × (Unit × Unit)))))))) × ((List Bool) × ((List Int) × (Inst × ((Int × (Int × (Int × Unit))) × Unit))))))) := (fun (r0 : ((Unit × (Unit × (Int × (Int × (Unit × ((List Int) × (Int × (Int × Unit)))))))) × ((ByteArray × ((List Int) × ((List Arr) × ((List Strm) × ((List Int) × ((List Block) × (Unit × (Unit × Unit)))))))) × ((List Bool) × ((List Int) × (Inst × ((Int × (Int × (Int × Unit))) × Unit))))))) => (bif (decide (r0.1.2.2.2.2.2.2.2.1 < r0.1.2.2.2.2.2.2.1)) then
   (jpO (go123_j3)
    (fun (j0 : (((Unit × (Unit × (Int × (Int × (Unit × ((List Int) × (Int × (Int × Unit)))))))) × ((ByteArray × ((List Int) × ((List Arr) × ((List Strm) × ((List Int) × ((List Block) × (Unit × (Unit × Unit)))))))) × ((List Bool) × ((List Int) × (Inst × ((Int × (Int × (Int × Unit))) × Unit)))))) -> (Option (((Unit × (Unit × (Int × (Int × (Unit × ((List Int) × (Int × (Int × Unit)))))))) × ((ByteArray × ((List Int) × ((List Arr) × ((List Strm) × ((List Int) × ((List Block) × (Unit × (Unit × Unit)))))))) × ((List Bool) × ((List Int) × (Inst × ((Int × (Int × (Int × Unit))) × Unit)))))) ⊕ ((Unit × (Int × (Int × (Unit × Unit)))) × ((ByteArray × ((List Int) × ((List Arr) × ((List Strm) × ((List Int) × ((List Block) × (Unit × (Unit × Unit)))))))) × ((List Bool) × ((List Int) × (Inst × ((Int × (Int × (Int × Unit))) × Unit)))))))))) => (grd (okB (((0 : Int) <= r0.1.2.2.2.2.2.2.2.1) /\ (r0.1.2.2.2.2.2.2.2.1 < ((r0.1.2.2.2.2.2.1.length : Nat) : Int))))
      (grd (okB (((0 : Int) <= (r0.1.2.2.2.2.2.1.getD r0.1.2.2.2.2.2.2.2.1.toNat (0 : Int))) /\ ((r0.1.2.2.2.2.2.1.getD r0.1.2.2.2.2.2.2.2.1.toNat (0 : Int)) < ((r0.2.1.2.1.length : Nat) : Int))))
       (bif (decide (r0.1.2.2.2.2.2.2.2.1 = (0 : Int))) then
        (j0 (((), ((), (r0.1.2.2.1, (r0.1.2.2.2.1, ((), (r0.1.2.2.2.2.2.1, (r0.1.2.2.2.2.2.2.1, (r0.1.2.2.2.2.2.2.2.1, ())))))))), ((r0.2.1.1, (r0.2.1.2.1, (r0.2.1.2.2.1, (r0.2.1.2.2.2.1, (r0.2.1.2.2.2.2.1, (r0.2.1.2.2.2.2.2.1, ((), ((), ())))))))), (r0.2.2.1, (r0.2.2.2.1, (r0.2.2.2.2.1, (((r0.2.1.2.1.getD (r0.1.2.2.2.2.2.1.getD r0.1.2.2.2.2.2.2.2.1.toNat (0 : Int)).toNat (0 : Int)), (r0.2.2.2.2.2.1.2.1, (r0.2.2.2.2.2.1.2.2.1, ()))), ())))))))
        else
        (bif (decide (r0.1.2.2.2.2.2.2.2.1 = (Int.ofNat ((0 : Nat) + (1 : Nat))))) then
         (j0 (((), ((), (r0.1.2.2.1, (r0.1.2.2.2.1, ((), (r0.1.2.2.2.2.2.1, (r0.1.2.2.2.2.2.2.1, (r0.1.2.2.2.2.2.2.2.1, ())))))))), ((r0.2.1.1, (r0.2.1.2.1, (r0.2.1.2.2.1, (r0.2.1.2.2.2.1, (r0.2.1.2.2.2.2.1, (r0.2.1.2.2.2.2.2.1, ((), ((), ())))))))), (r0.2.2.1, (r0.2.2.2.1, (r0.2.2.2.2.1, ((r0.2.2.2.2.2.1.1, ((r0.2.1.2.1.getD (r0.1.2.2.2.2.2.1.getD r0.1.2.2.2.2.2.2.2.1.toNat (0 : Int)).toNat (0 : Int)), (r0.2.2.2.2.2.1.2.2.1, ()))), ())))))))
         else
         (bif (decide (r0.1.2.2.2.2.2.2.2.1 = (Int.ofNat (((0 : Nat) + (1 : Nat)) + (1 : Nat))))) then
          (j0 (((), ((), (r0.1.2.2.1, (r0.1.2.2.2.1, ((), (r0.1.2.2.2.2.2.1, (r0.1.2.2.2.2.2.2.1, (r0.1.2.2.2.2.2.2.2.1, ())))))))), ((r0.2.1.1, (r0.2.1.2.1, (r0.2.1.2.2.1, (r0.2.1.2.2.2.1, (r0.2.1.2.2.2.2.1, (r0.2.1.2.2.2.2.2.1, ((), ((), ())))))))), (r0.2.2.1, (r0.2.2.2.1, (r0.2.2.2.2.1, ((r0.2.2.2.2.2.1.1, (r0.2.2.2.2.2.1.2.1, ((r0.2.1.2.1.getD (r0.1.2.2.2.2.2.1.getD r0.1.2.2.2.2.2.2.2.1.toNat (0 : Int)).toNat (0 : Int)), ()))), ())))))))
          else
          none)))))))
   else
   (some (Sum.inr (((), (r0.1.2.2.1, (r0.1.2.2.2.1, ((), ())))), ((r0.2.1.1, (r0.2.1.2.1, (r0.2.1.2.2.1, (r0.2.1.2.2.2.1, (r0.2.1.2.2.2.2.1, (r0.2.1.2.2.2.2.2.1, ((), ((), ())))))))), (r0.2.2.1, (r0.2.2.2.1, (r0.2.2.2.2.1, ((r0.2.2.2.2.2.1.1, (r0.2.2.2.2.2.1.2.1, (r0.2.2.2.2.2.1.2.2.1, ()))), ()))))))))))
def go123_j2 : ((Unit × (Unit × (Int × (Int × Unit)))) × ((ByteArray × ((List Int) × ((List Arr) × ((List Strm) × ((List Int) × ((List Block) × (Unit × (Unit × Unit)))))))) × ((List Bool) × ((List Int) × (Inst × Unit))))) -> Option (Bool × ((ByteArray × ((List Int) × ((List Arr) × ((List Strm) × ((List Int) × ((List Block) × (Unit × (Unit × Unit)))))))) × ((List Bool) × ((List Int) × Unit)))) := (fun (z1 : ((Unit × (Unit × (Int × (Int × Unit)))) × ((ByteArray × ((List Int) × ((List Arr) × ((List Strm) × ((List Int) × ((List Block) × (Unit × (Unit × Unit)))))))) × ((List Bool) × ((List Int) × (Inst × Unit)))))) => (callB (whileO (go123_l1) (((), ((), (z1.1.2.2.1, (z1.1.2.2.2.1, ((), (z1.2.2.2.2.1.args, (((z1.2.2.2.2.1.args.length : Nat) : Int), ((0 : Int), ())))))))), ((z1.2.1.1, (z1.2.1.2.1, (z1.2.1.2.2.1, (z1.2.1.2.2.2.1, (z1.2.1.2.2.2.2.1, (z1.2.1.2.2.2.2.2.1, ((), ((), ())))))))), (z1.2.2.1, (z1.2.2.2.1, (z1.2.2.2.2.1, (((0 : Int), ((0 : Int), ((0 : Int), ()))), ())))))))
   (fun (z2 : ((Unit × (Int × (Int × (Unit × Unit)))) × ((ByteArray × ((List Int) × ((List Arr) × ((List Strm) × ((List Int) × ((List Block) × (Unit × (Unit × Unit)))))))) × ((List Bool) × ((List Int) × (Inst × ((Int × (Int × (Int × Unit))) × Unit))))))) => (bif (decide (z2.2.2.2.2.1.op = (1 : Int))) then
     (callB (grd (okB (U64 z2.2.2.2.2.1.num))
       (some ((Sp.low z2.1.2.2.1 z2.2.2.2.2.1.num), ())))
      (fun (r0 : (Int × Unit)) => (some ((decide (r0.1 = z2.2.2.2.2.1.num)), ((z2.2.1.1, (z2.2.1.2.1, (z2.2.1.2.2.1, (z2.2.1.2.2.2.1, (z2.2.1.2.2.2.2.1, (z2.2.1.2.2.2.2.2.1, ((), ((), ())))))))), (z2.2.2.1, (z2.2.2.2.1, ())))))))
     else
     (bif (decide (z2.2.2.2.2.1.op = (21 : Int))) then
      (some ((bif false then
         (!((decide (z2.2.2.2.2.2.1.1 = (1 : Int))) && ((decide (z2.2.2.2.2.2.1.2.1 = z2.1.2.2.1)) && (decide (z2.2.2.2.2.2.1.2.2.1 = z2.1.2.2.1)))))
         else
         ((decide (z2.2.2.2.2.2.1.1 = (1 : Int))) && ((decide (z2.2.2.2.2.2.1.2.1 = z2.1.2.2.1)) && (decide (z2.2.2.2.2.2.1.2.2.1 = z2.1.2.2.1))))), ((z2.2.1.1, (z2.2.1.2.1, (z2.2.1.2.2.1, (z2.2.1.2.2.2.1, (z2.2.1.2.2.2.2.1, (z2.2.1.2.2.2.2.2.1, ((), ((), ())))))))), (z2.2.2.1, (z2.2.2.2.1, ())))))
      else
      (jpO (go123_j4)
       (fun (j0 : (((Unit × (Int × (Int × (Unit × (Int × (Bool × Unit)))))) × ((ByteArray × ((List Int) × ((List Arr) × ((List Strm) × ((List Int) × ((List Block) × (Unit × (Unit × Unit)))))))) × ((List Bool) × ((List Int) × (Inst × ((Int × (Int × (Int × Unit))) × Unit)))))) -> (Option (Bool × ((ByteArray × ((List Int) × ((List Arr) × ((List Strm) × ((List Int) × ((List Block) × (Unit × (Unit × Unit)))))))) × ((List Bool) × ((List Int) × Unit))))))) => (bif (decide (z2.2.2.2.2.1.op = (22 : Int))) then
         (j0 (((), (z2.1.2.1, (z2.1.2.2.1, ((), (z2.2.2.2.2.1.op, (true, ())))))), ((z2.2.1.1, (z2.2.1.2.1, (z2.2.1.2.2.1, (z2.2.1.2.2.2.1, (z2.2.1.2.2.2.2.1, (z2.2.1.2.2.2.2.2.1, ((), ((), ())))))))), (z2.2.2.1, (z2.2.2.2.1, (z2.2.2.2.2.1, ((z2.2.2.2.2.2.1.1, (z2.2.2.2.2.2.1.2.1, (z2.2.2.2.2.2.1.2.2.1, ()))), ())))))))
         else
         (j0 (((), (z2.1.2.1, (z2.1.2.2.1, ((), (z2.2.2.2.2.1.op, ((decide (z2.2.2.2.2.1.op = (23 : Int))), ())))))), ((z2.2.1.1, (z2.2.1.2.1, (z2.2.1.2.2.1, (z2.2.1.2.2.2.1, (z2.2.1.2.2.2.2.1, (z2.2.1.2.2.2.2.2.1, ((), ((), ())))))))), (z2.2.2.1, (z2.2.2.2.1, (z2.2.2.2.2.1, ((z2.2.2.2.2.2.1.1, (z2.2.2.2.2.2.1.2.1, (z2.2.2.2.2.2.1.2.2.1, ()))), ())))))))))))))))
def go123_j1 : ((Unit × (Unit × (Int × Unit))) × ((ByteArray × ((List Int) × ((List Arr) × ((List Strm) × ((List Int) × ((List Block) × (Unit × (Unit × Unit)))))))) × ((List Bool) × ((List Int) × (Inst × Unit))))) -> Option (Bool × ((ByteArray × ((List Int) × ((List Arr) × ((List Strm) × ((List Int) × ((List Block) × (Unit × (Unit × Unit)))))))) × ((List Bool) × ((List Int) × Unit)))) := (fun (z0 : ((Unit × (Unit × (Int × Unit))) × ((ByteArray × ((List Int) × ((List Arr) × ((List Strm) × ((List Int) × ((List Block) × (Unit × (Unit × Unit)))))))) × ((List Bool) × ((List Int) × (Inst × Unit)))))) => (jpO (go123_j2)
   (fun (j0 : (((Unit × (Unit × (Int × (Int × Unit)))) × ((ByteArray × ((List Int) × ((List Arr) × ((List Strm) × ((List Int) × ((List Block) × (Unit × (Unit × Unit)))))))) × ((List Bool) × ((List Int) × (Inst × Unit))))) -> (Option (Bool × ((ByteArray × ((List Int) × ((List Arr) × ((List Strm) × ((List Int) × ((List Block) × (Unit × (Unit × Unit)))))))) × ((List Bool) × ((List Int) × Unit))))))) => (bif (Sp.named z0.2.2.2.2.1.op) then
     (bif (decide (z0.2.2.2.2.1.dest < (0 : Int))) then
      (some (false, ((z0.2.1.1, (z0.2.1.2.1, (z0.2.1.2.2.1, (z0.2.1.2.2.2.1, (z0.2.1.2.2.2.2.1, (z0.2.1.2.2.2.2.2.1, ((), ((), ())))))))), (z0.2.2.1, (z0.2.2.2.1, ())))))
      else
      (bif (decide (((z0.2.1.2.1.length : Nat) : Int) <= z0.2.2.2.2.1.dest)) then
       (some (false, ((z0.2.1.1, (z0.2.1.2.1, (z0.2.1.2.2.1, (z0.2.1.2.2.2.1, (z0.2.1.2.2.2.2.1, (z0.2.1.2.2.2.2.2.1, ((), ((), ())))))))), (z0.2.2.1, (z0.2.2.2.1, ())))))
       else
       (grd (okB (((0 : Int) <= z0.2.2.2.2.1.dest) /\ (z0.2.2.2.2.1.dest < ((z0.2.1.2.1.length : Nat) : Int))))
        (j0 (((), ((), (z0.1.2.2.1, ((z0.2.1.2.1.getD z0.2.2.2.2.1.dest.toNat (0 : Int)), ())))), ((z0.2.1.1, (z0.2.1.2.1, (z0.2.1.2.2.1, (z0.2.1.2.2.2.1, (z0.2.1.2.2.2.2.1, (z0.2.1.2.2.2.2.2.1, ((), ((), ())))))))), (z0.2.2.1, (z0.2.2.2.1, (z0.2.2.2.2.1, ())))))))))
     else
     (bif (!(decide (z0.2.2.2.2.1.dest = (-(1 : Int))))) then
      (some (false, ((z0.2.1.1, (z0.2.1.2.1, (z0.2.1.2.2.1, (z0.2.1.2.2.2.1, (z0.2.1.2.2.2.2.1, (z0.2.1.2.2.2.2.2.1, ((), ((), ())))))))), (z0.2.2.1, (z0.2.2.2.1, ())))))
      else
      (j0 (((), ((), (z0.1.2.2.1, ((0 : Int), ())))), ((z0.2.1.1, (z0.2.1.2.1, (z0.2.1.2.2.1, (z0.2.1.2.2.2.1, (z0.2.1.2.2.2.2.1, (z0.2.1.2.2.2.2.2.1, ((), ((), ())))))))), (z0.2.2.1, (z0.2.2.2.1, (z0.2.2.2.2.1, ())))))))))))
def go123 (x1 : Inst) (y0 : (ByteArray × ((List Int) × ((List Arr) × ((List Strm) × ((List Int) × ((List Block) × (Unit × (Unit × Unit))))))))) (y1 : (List Bool)) (y2 : (List Int)) : (Option (Bool × ((ByteArray × ((List Int) × ((List Arr) × ((List Strm) × ((List Int) × ((List Block) × (Unit × (Unit × Unit)))))))) × ((List Bool) × ((List Int) × Unit))))) :=
 (grd ((decide ((1 : Nat) = (1 : Nat))) && ((decide (y1.length = y1.length)) && ((decide (y2.length = y2.length)) && true)))
  (jpO (go123_j1)
   (fun (j0 : (((Unit × (Unit × (Int × Unit))) × ((ByteArray × ((List Int) × ((List Arr) × ((List Strm) × ((List Int) × ((List Block) × (Unit × (Unit × Unit)))))))) × ((List Bool) × ((List Int) × (Inst × Unit))))) -> (Option (Bool × ((ByteArray × ((List Int) × ((List Arr) × ((List Strm) × ((List Int) × ((List Block) × (Unit × (Unit × Unit)))))))) × ((List Bool) × ((List Int) × Unit))))))) => (bif (!(Sp.imem (mkF (y0.1, (y0.2.1, (y0.2.2.1, (y0.2.2.2.1, (y0.2.2.2.2.1, (y0.2.2.2.2.2.1, ((), ((), ()))))))))) x1).2) then
     (some (false, ((y0.1, (y0.2.1, (y0.2.2.1, (y0.2.2.2.1, (y0.2.2.2.2.1, (y0.2.2.2.2.2.1, ((), ((), ())))))))), (y1, (y2, ())))))
     else
     (bif (!(decide (x1.num = (0 : Int)))) then
      (bif (!(decide (x1.op = (1 : Int)))) then
       (some (false, ((y0.1, (y0.2.1, (y0.2.2.1, (y0.2.2.2.1, (y0.2.2.2.2.1, (y0.2.2.2.2.2.1, ((), ((), ())))))))), (y1, (y2, ())))))
       else
       (j0 (((), ((), ((Sp.imem (mkF (y0.1, (y0.2.1, (y0.2.2.1, (y0.2.2.2.1, (y0.2.2.2.2.1, (y0.2.2.2.2.2.1, ((), ((), ()))))))))) x1).1, ()))), ((y0.1, (y0.2.1, (y0.2.2.1, (y0.2.2.2.1, (y0.2.2.2.2.1, (y0.2.2.2.2.2.1, ((), ((), ())))))))), (y1, (y2, (x1, ())))))))
      else
      (j0 (((), ((), ((Sp.imem (mkF (y0.1, (y0.2.1, (y0.2.2.1, (y0.2.2.2.1, (y0.2.2.2.2.1, (y0.2.2.2.2.2.1, ((), ((), ()))))))))) x1).1, ()))), ((y0.1, (y0.2.1, (y0.2.2.1, (y0.2.2.2.1, (y0.2.2.2.2.1, (y0.2.2.2.2.2.1, ((), ((), ())))))))), (y1, (y2, (x1, ())))))))))))
theorem run123 (x1 : Inst) (y0 : (ByteArray × ((List Int) × ((List Arr) × ((List Strm) × ((List Int) × ((List Block) × (Unit × (Unit × Unit))))))))) (y1 : (List Bool)) (y2 : (List Int)) : runF (P := Try.prog) [c53, c103, c133, c134] Try.f123 ann123 [(0, (.ptr 0 0)), (1, (.st 0))] [(.cells 107 [.s, (.fz (.int .i64)), (.fz (.st 4)), (.fz (.st 5)), (.fz (.int .i64)), (.fz (.st 3)), (.full 1), (.full 2)]), (.lst 4 .bool), (.lst 3 (.int .i64))] .b [(.cells 107 [.s, (.fz (.int .i64)), (.fz (.st 4)), (.fz (.st 5)), (.fz (.int .i64)), (.fz (.st 3)), (.full 1), (.full 2)]), (.lst 4 .bool), (.lst 3 (.int .i64))] ((), (x1, ())) (y0, (y1, (y2, ()))) = go123 x1 y0 y1 y2 := by kernel_rfl
namespace Q
def ann136 : Ann := (.seq .o (.join ⟨[(0, (.fz (.int .i64))), (1, (.fz (.int .i64))), (2, (.fn 137 [(.ptr 0 0)]))], [(.cells 105 [(.ptr 1 0)]), (.cells 107 [.s, (.fz (.int .i64)), (.fz (.st 4)), (.fz (.st 5)), (.fz (.int .i64)), (.fz (.st 3)), (.full 2), (.full 3)]), (.lst 4 .bool), (.lst 3 (.int .i64))]⟩ (.seq .o (.cond (.seq .o .o) .o)) (.join ⟨[], [(.cells 105 [(.ptr 1 0)]), (.cells 107 [.s, (.fz (.int .i64)), (.fz (.st 4)), (.fz (.st 5)), (.fz (.int .i64)), (.fz (.st 3)), (.full 2), (.full 3)]), (.lst 4 .bool), (.lst 3 (.int .i64))]⟩ (.seq .o (.block (.loop ⟨[(1, (.fz (.int .i64))), (2, (.fn 137 [(.ptr 0 0)])), (15, (.fz (.int .i64))), (16, (.i .i64)), (17, (.i .i64))], [(.cells 105 [(.ptr 1 0)]), (.cells 107 [.s, (.fz (.int .i64)), (.fz (.st 4)), (.fz (.st 5)), (.fz (.int .i64)), (.fz (.st 3)), (.full 2), (.full 3)]), (.lst 4 .bool), (.lst 3 (.int .i64))]⟩ [((.exit 0), ⟨[], [(.cells 105 [(.ptr 1 0)]), (.cells 107 [.s, (.fz (.int .i64)), (.fz (.st 4)), (.fz (.st 5)), (.fz (.int .i64)), (.fz (.st 3)), (.full 2), (.full 3)]), (.lst 4 .bool), (.lst 3 (.int .i64))]⟩), (.ret, ⟨[(6, .b)], [(.cells 105 [(.ptr 1 0)]), (.cells 107 [.s, (.fz (.int .i64)), (.fz (.st 4)), (.fz (.st 5)), (.fz (.int .i64)), (.fz (.st 3)), (.full 2), (.full 3)]), (.lst 4 .bool), (.lst 3 (.int .i64))]⟩)] (.seq .o (.join ⟨[(1, (.fz (.int .i64))), (2, (.fn 137 [(.ptr 0 0)])), (15, (.fz (.int .i64))), (16, (.i .i64)), (17, (.i .i64))], [(.cells 105 [(.ptr 1 0)]), (.cells 107 [.s, (.fz (.int .i64)), (.fz (.st 4)), (.fz (.st 5)), (.fz (.int .i64)), (.fz (.st 3)), (.full 2), (.full 3)]), (.lst 4 .bool), (.lst 3 (.int .i64))]⟩ (.cond .o .o) (.join ⟨[(1, (.fz (.int .i64))), (2, (.fn 137 [(.ptr 0 0)])), (15, (.fz (.int .i64))), (16, (.i .i64)), (17, (.i .i64))], [(.cells 105 [(.ptr 1 0)]), (.cells 107 [.s, (.fz (.int .i64)), (.fz (.st 4)), (.fz (.st 5)), (.fz (.int .i64)), (.fz (.st 3)), (.full 2), (.full 3)]), (.lst 4 .bool), (.lst 3 (.int .i64))]⟩ (.block (.seq .o (.seq .o (.seq .o (.cond (.seq .o .o) .o))))) .o)))))) (.seq .o .o))))
def go136_l1 : (((List Int) × ((Unit × Unit) × ((List Int) × (Int × (Int × Unit))))) × ((Unit × Unit) × ((ByteArray × ((List Int) × ((List Arr) × ((List Strm) × ((List Int) × ((List Block) × (Unit × (Unit × Unit)))))))) × ((List Bool) × ((List Int) × Unit))))) -> Option ((((List Int) × ((Unit × Unit) × ((List Int) × (Int × (Int × Unit))))) × ((Unit × Unit) × ((ByteArray × ((List Int) × ((List Arr) × ((List Strm) × ((List Int) × ((List Block) × (Unit × (Unit × Unit)))))))) × ((List Bool) × ((List Int) × Unit))))) ⊕ ((Unit × ((Unit × Unit) × ((ByteArray × ((List Int) × ((List Arr) × ((List Strm) × ((List Int) × ((List Block) × (Unit × (Unit × Unit)))))))) × ((List Bool) × ((List Int) × Unit))))) ⊕ ((Bool × Unit) × ((Unit × Unit) × ((ByteArray × ((List Int) × ((List Arr) × ((List Strm) × ((List Int) × ((List Block) × (Unit × (Unit × Unit)))))))) × ((List Bool) × ((List Int) × Unit))))))) := (fun (r0 : (((List Int) × ((Unit × Unit) × ((List Int) × (Int × (Int × Unit))))) × ((Unit × Unit) × ((ByteArray × ((List Int) × ((List Arr) × ((List Strm) × ((List Int) × ((List Block) × (Unit × (Unit × Unit)))))))) × ((List Bool) × ((List Int) × Unit)))))) => (bif (decide (r0.1.2.2.2.2.1 < r0.1.2.2.2.1)) then
   (grd (okB (((0 : Int) <= r0.1.2.2.2.2.1) /\ (r0.1.2.2.2.2.1 < ((r0.1.2.2.1.length : Nat) : Int))))
    (grd (okB (((0 : Int) <= r0.1.2.2.2.2.1) /\ (r0.1.2.2.2.2.1 < ((r0.1.1.length : Nat) : Int))))
     (callB (grd (okB (Fn.inW (mkF (r0.2.2.1.1, (r0.2.2.1.2.1, (r0.2.2.1.2.2.1, (r0.2.2.1.2.2.2.1, (r0.2.2.1.2.2.2.2.1, (r0.2.2.1.2.2.2.2.2.1, ((), ((), ()))))))))) (r0.1.2.2.1.getD r0.1.2.2.2.2.1.toNat (0 : Int))))
       (some ((decide (((mkF (r0.2.2.1.1, (r0.2.2.1.2.1, (r0.2.2.1.2.2.1, (r0.2.2.1.2.2.2.1, (r0.2.2.1.2.2.2.2.1, (r0.2.2.1.2.2.2.2.2.1, ((), ((), ()))))))))).widths.getD (r0.1.2.2.1.getD r0.1.2.2.2.2.1.toNat (0 : Int)).toNat (0 : Int)) = (r0.1.1.getD r0.1.2.2.2.2.1.toNat (0 : Int)))), (((), ()), ((r0.2.2.1.1, (r0.2.2.1.2.1, (r0.2.2.1.2.2.1, (r0.2.2.1.2.2.2.1, (r0.2.2.1.2.2.2.2.1, (r0.2.2.1.2.2.2.2.2.1, ((), ((), ())))))))), (r0.2.2.2.1, (r0.2.2.2.2.1, ())))))))
      (fun (r1 : (Bool × ((Unit × Unit) × ((ByteArray × ((List Int) × ((List Arr) × ((List Strm) × ((List Int) × ((List Block) × (Unit × (Unit × Unit)))))))) × ((List Bool) × ((List Int) × Unit)))))) => (grd ((decide ((1 : Nat) = (1 : Nat))) && ((decide ((1 : Nat) = (1 : Nat))) && ((decide (r1.2.2.2.1.length = r0.2.2.2.1.length)) && ((decide (r1.2.2.2.2.1.length = r0.2.2.2.2.1.length)) && true))))
        (bif (!r1.1) then
         (some (Sum.inr (Sum.inr ((false, ()), (((), ()), ((r1.2.2.1.1, (r1.2.2.1.2.1, (r1.2.2.1.2.2.1, (r1.2.2.1.2.2.2.1, (r1.2.2.1.2.2.2.2.1, (r1.2.2.1.2.2.2.2.2.1, ((), ((), ())))))))), (r1.2.2.2.1, (r1.2.2.2.2.1, ()))))))))
         else
         (grd (okB (((-(9223372036854775808 : Int)) <= (r0.1.2.2.2.2.1 + (1 : Int))) /\ ((r0.1.2.2.2.2.1 + (1 : Int)) <= (9223372036854775807 : Int))))
          (some (Sum.inl ((r0.1.1, (((), ()), (r0.1.2.2.1, (r0.1.2.2.2.1, ((r0.1.2.2.2.2.1 + (1 : Int)), ()))))), (((), ()), ((r1.2.2.1.1, (r1.2.2.1.2.1, (r1.2.2.1.2.2.1, (r1.2.2.1.2.2.2.1, (r1.2.2.1.2.2.2.2.1, (r1.2.2.1.2.2.2.2.2.1, ((), ((), ())))))))), (r1.2.2.2.1, (r1.2.2.2.2.1, ()))))))))))))))
   else
   (some (Sum.inr (Sum.inl ((), (((), ()), ((r0.2.2.1.1, (r0.2.2.1.2.1, (r0.2.2.1.2.2.1, (r0.2.2.1.2.2.2.1, (r0.2.2.1.2.2.2.2.1, (r0.2.2.1.2.2.2.2.2.1, ((), ((), ())))))))), (r0.2.2.2.1, (r0.2.2.2.2.1, ()))))))))))
def go136 (x0 : (List Int)) (x1 : (List Int)) (x2 : (Unit × Unit)) (y0 : (Unit × Unit)) (y1 : (ByteArray × ((List Int) × ((List Arr) × ((List Strm) × ((List Int) × ((List Block) × (Unit × (Unit × Unit))))))))) (y2 : (List Bool)) (y3 : (List Int)) : (Option (Bool × ((Unit × Unit) × ((ByteArray × ((List Int) × ((List Arr) × ((List Strm) × ((List Int) × ((List Block) × (Unit × (Unit × Unit)))))))) × ((List Bool) × ((List Int) × Unit)))))) :=
 (bif (!(decide (((x0.length : Nat) : Int) = ((x1.length : Nat) : Int)))) then
  (some (false, (((), ()), ((y1.1, (y1.2.1, (y1.2.2.1, (y1.2.2.2.1, (y1.2.2.2.2.1, (y1.2.2.2.2.2.1, ((), ((), ())))))))), (y2, (y3, ()))))))
  else
  (callB (whileO (go136_l1) ((x1, (((), ()), (x0, (((x0.length : Nat) : Int), ((0 : Int), ()))))), (((), ()), ((y1.1, (y1.2.1, (y1.2.2.1, (y1.2.2.2.1, (y1.2.2.2.2.1, (y1.2.2.2.2.2.1, ((), ((), ())))))))), (y2, (y3, ()))))))
   (fun (z0 : ((Unit × ((Unit × Unit) × ((ByteArray × ((List Int) × ((List Arr) × ((List Strm) × ((List Int) × ((List Block) × (Unit × (Unit × Unit)))))))) × ((List Bool) × ((List Int) × Unit))))) ⊕ ((Bool × Unit) × ((Unit × Unit) × ((ByteArray × ((List Int) × ((List Arr) × ((List Strm) × ((List Int) × ((List Block) × (Unit × (Unit × Unit)))))))) × ((List Bool) × ((List Int) × Unit))))))) => (sumO (fun (z1 : (Unit × ((Unit × Unit) × ((ByteArray × ((List Int) × ((List Arr) × ((List Strm) × ((List Int) × ((List Block) × (Unit × (Unit × Unit)))))))) × ((List Bool) × ((List Int) × Unit)))))) => (some (true, (((), ()), ((z1.2.2.1.1, (z1.2.2.1.2.1, (z1.2.2.1.2.2.1, (z1.2.2.1.2.2.2.1, (z1.2.2.1.2.2.2.2.1, (z1.2.2.1.2.2.2.2.2.1, ((), ((), ())))))))), (z1.2.2.2.1, (z1.2.2.2.2.1, ())))))))
     (fun (z1 : ((Bool × Unit) × ((Unit × Unit) × ((ByteArray × ((List Int) × ((List Arr) × ((List Strm) × ((List Int) × ((List Block) × (Unit × (Unit × Unit)))))))) × ((List Bool) × ((List Int) × Unit)))))) => (some (z1.1.1, (((), ()), ((z1.2.2.1.1, (z1.2.2.1.2.1, (z1.2.2.1.2.2.1, (z1.2.2.1.2.2.2.1, (z1.2.2.1.2.2.2.2.1, (z1.2.2.1.2.2.2.2.2.1, ((), ((), ())))))))), (z1.2.2.2.1, (z1.2.2.2.2.1, ()))))))) z0))))
theorem run136 (x0 : (List Int)) (x1 : (List Int)) (x2 : (Unit × Unit)) (y0 : (Unit × Unit)) (y1 : (ByteArray × ((List Int) × ((List Arr) × ((List Strm) × ((List Int) × ((List Block) × (Unit × (Unit × Unit))))))))) (y2 : (List Bool)) (y3 : (List Int)) : runF (P := Try.prog) [c137] Try.f136 ann136 [(0, (.fz (.int .i64))), (1, (.fz (.int .i64))), (2, (.fn 137 [(.ptr 0 0)]))] [(.cells 105 [(.ptr 1 0)]), (.cells 107 [.s, (.fz (.int .i64)), (.fz (.st 4)), (.fz (.st 5)), (.fz (.int .i64)), (.fz (.st 3)), (.full 2), (.full 3)]), (.lst 4 .bool), (.lst 3 (.int .i64))] .b [(.cells 105 [(.ptr 1 0)]), (.cells 107 [.s, (.fz (.int .i64)), (.fz (.st 4)), (.fz (.st 5)), (.fz (.int .i64)), (.fz (.st 3)), (.full 2), (.full 3)]), (.lst 4 .bool), (.lst 3 (.int .i64))] (x0, (x1, (x2, ()))) (y0, (y1, (y2, (y3, ())))) = go136 x0 x1 x2 y0 y1 y2 y3 := by kernel_rfl
end Q
theorem ok84 (l : List Int) (hl : l.length <= LEN) : go84 l () = some (!l.all Sp.right, ()) := by
 unfold go84
 rw [grd_ok hl]
 simp only [callB_some, badAt_eq]
def c84 : Ctr Try.prog := mkCtr 84 Try.f84 Try.func84 [c120] ann84 [(0, (.fz (.int .i64))), (1, (.fn 82 []))] [] .b [] (fun x _ => grd (okB (x.1.length <= LEN)) (some (!x.1.all Sp.right, ()))) (fun x _ r h => FO (run84 x.1 x.2.1) (ok84 x.1) h)
def Sp.pairs (p : Int -> Int -> Bool) (x y : List Int) : Bool := decide (x.length = y.length) && (List.range x.length).all fun i => p (x.getD i 0) (y.getD i 0)
def Fn.allW (f : Fn) (l : List Int) : Prop := l.length <= LEN /\ ∀ i, i < l.length -> f.inW (l.getD i 0)
theorem ok136 (x y : List Int) (f : Fn) (d : List Bool) (k : List Int) (h : f.allW x) : go136 x y ((), ()) ((), ()) (pkF f) d k = some (Sp.pairs (Sp.pairOk f) x y, ((), ()), pkF f, d, k, ()) := by
 obtain ⟨hl, hw⟩ := h
 rw [lenVal] at hl
 unfold go136 Sp.pairs
 by_cases he : x.length = y.length
 rotate_left
 ·have he' : ¬ (x.length : Int) = y.length := by omega
  rw [decide_eq_false he, decide_eq_false he']; rfl
 have he' : (x.length : Int) = y.length := by omega
 rw [decide_eq_true he, decide_eq_true he']
 simp only [Bool.not_true, cond_false, Bool.true_and]
 unfold go136_l1
 refine callB_of (whileO_all (l := List.range x.length) (st := fun i => ((y, ((), ()), x, ((x.length : Nat) : Int), (i : Int), ()), ((), ()), pkF f, d, k, ())) rfl 0 (fun i => Sp.pairOk f (x.getD i 0) (y.getD i 0)) (A := Sum.inl ((), ((), ()), pkF f, d, k, ())) (B := Sum.inr ((false, ()), ((), ()), pkF f, d, k, ())) (fun i hi hp => ?_) (fun i hi hp => ?_) (fun _ => ?_)) ?_
 ·rw [List.length_range] at hi
  rw [range_getD hi] at hp
  have hi2 : i < y.length := by omega
  have hw := hw i hi
  simp only [Int.toNat_natCast, grd_ok (show Fn.inW (mkF (pkF f)) (x.getD i 0) from hw), callB_some, decide_true, Bool.and_true, grd_true]
  simp (maxSteps := 1000000) (disch := ((try dsimp only); omega)) only [↓gsA, gsB]
  rw [hp]; rfl
 ·rw [List.length_range] at hi
  rw [range_getD hi] at hp
  have hi2 : i < y.length := by omega
  have hw := hw i hi
  simp only [Int.toNat_natCast, grd_ok (show Fn.inW (mkF (pkF f)) (x.getD i 0) from hw), callB_some, decide_true, Bool.and_true, grd_true]
  simp (maxSteps := 1000000) (disch := ((try dsimp only); omega)) only [↓gsA, gsB]
  rw [hp]; rfl
 ·rw [List.length_range]; simp (maxSteps := 1000000) (disch := ((try dsimp only); omega)) only [↓gsA, gsB]
 ·cases (List.range x.length).all fun i => Sp.pairOk f (x.getD i 0) (y.getD i 0) <;> rfl
def c136 : Ctr Try.prog := mkCtr 136 Try.f136 Try.func136 [c150] ann136 [(0, (.fz (.int .i64))), (1, (.fz (.int .i64))), (2, (.fn 150 [(.ptr 0 0)]))] [(.cells 105 [(.ptr 1 0)]), (.cells 107 [.s, (.fz (.int .i64)), (.fz (.st 4)), (.fz (.st 5)), (.fz (.int .i64)), (.fz (.st 3)), (.full 2), (.full 3)]), (.lst 4 .bool), (.lst 3 (.int .i64))] .b [(.cells 105 [(.ptr 1 0)]), (.cells 107 [.s, (.fz (.int .i64)), (.fz (.st 4)), (.fz (.st 5)), (.fz (.int .i64)), (.fz (.st 3)), (.full 2), (.full 3)]), (.lst 4 .bool), (.lst 3 (.int .i64))] (fun x y => grd (okB ((mkF y.2.1).allW x.1)) (some (Sp.pairs (Sp.pairOk (mkF y.2.1)) x.1 x.2.1, ((), ()), y.2.1, y.2.2.1, y.2.2.2.1, ())))
 (fun x y r h => FO (run136 x.1 x.2.1 x.2.2.1 y.1 y.2.1 y.2.2.1 y.2.2.2.1) (ok136 x.1 x.2.1 (mkF y.2.1) y.2.2.1 y.2.2.2.1) h)
namespace Q
theorem ok136 (x y : List Int) (f : Fn) (d : List Bool) (k : List Int) (h : f.allW x) : Q.go136 x y ((), ()) ((), ()) (pkF f) d k = some (Sp.pairs (fun v w => decide (f.widths.getD v.toNat 0 = w)) x y, ((), ()), pkF f, d, k, ()) := by
 obtain ⟨hl, hw⟩ := h
 rw [lenVal] at hl
 unfold Q.go136 Sp.pairs
 by_cases he : x.length = y.length
 rotate_left
 ·have he' : ¬ (x.length : Int) = y.length := by omega
  rw [decide_eq_false he, decide_eq_false he']; rfl
 have he' : (x.length : Int) = y.length := by omega
 rw [decide_eq_true he, decide_eq_true he']
 simp only [Bool.not_true, cond_false, Bool.true_and]
 unfold Q.go136_l1
 refine callB_of (whileO_all (l := List.range x.length) (st := fun i => ((y, ((), ()), x, ((x.length : Nat) : Int), (i : Int), ()), ((), ()), pkF f, d, k, ())) rfl 0 (fun i => decide (f.widths.getD (x.getD i 0).toNat 0 = y.getD i 0)) (A := Sum.inl ((), ((), ()), pkF f, d, k, ())) (B := Sum.inr ((false, ()), ((), ()), pkF f, d, k, ())) (fun i hi hp => ?_) (fun i hi hp => ?_) (fun _ => ?_)) ?_
 ·rw [List.length_range] at hi
  rw [range_getD hi] at hp
  have hi2 : i < y.length := by omega
  have hw := hw i hi
  simp only [Int.toNat_natCast, grd_ok (show Fn.inW (mkF (pkF f)) (x.getD i 0) from hw), callB_some, decide_true, Bool.and_true, grd_true, hp]
  simp (maxSteps := 1000000) (disch := ((try dsimp only); omega)) only [↓gsA, gsB]
 ·rw [List.length_range] at hi
  rw [range_getD hi] at hp
  have hi2 : i < y.length := by omega
  have hw := hw i hi
  simp only [Int.toNat_natCast, grd_ok (show Fn.inW (mkF (pkF f)) (x.getD i 0) from hw), callB_some, decide_true, Bool.and_true, grd_true, hp]
  simp (maxSteps := 1000000) (disch := ((try dsimp only); omega)) only [↓gsA, gsB]
 ·rw [List.length_range]; simp (maxSteps := 1000000) (disch := ((try dsimp only); omega)) only [↓gsA, gsB]
 ·cases (List.range x.length).all fun i => decide (f.widths.getD (x.getD i 0).toNat 0 = y.getD i 0) <;> rfl
end Q
def cQ136 : Ctr Try.prog := mkCtr 136 Try.f136 Try.func136 [c137] Q.ann136 [(0, (.fz (.int .i64))), (1, (.fz (.int .i64))), (2, (.fn 137 [(.ptr 0 0)]))] [(.cells 105 [(.ptr 1 0)]), (.cells 107 [.s, (.fz (.int .i64)), (.fz (.st 4)), (.fz (.st 5)), (.fz (.int .i64)), (.fz (.st 3)), (.full 2), (.full 3)]), (.lst 4 .bool), (.lst 3 (.int .i64))] .b [(.cells 105 [(.ptr 1 0)]), (.cells 107 [.s, (.fz (.int .i64)), (.fz (.st 4)), (.fz (.st 5)), (.fz (.int .i64)), (.fz (.st 3)), (.full 2), (.full 3)]), (.lst 4 .bool), (.lst 3 (.int .i64))] (fun x y => grd (okB ((mkF y.2.1).allW x.1)) (some (Sp.pairs (fun v w => decide ((mkF y.2.1).widths.getD v.toNat 0 = w)) x.1 x.2.1, ((), ()), y.2.1, y.2.2.1, y.2.2.2.1, ())))
 (fun x y r h => FO (Q.run136 x.1 x.2.1 x.2.2.1 y.1 y.2.1 y.2.2.1 y.2.2.2.1) (Q.ok136 x.1 x.2.1 (mkF y.2.1) y.2.2.1 y.2.2.2.1) h)
def Sp.aw (f : Fn) (x : Inst) (j i : Nat) : Int := if j < i then f.widths.getD (x.args.getD j 0).toNat 0 else 0
def Sp.iwOf (f : Fn) (x : Inst) : Int := if Sp.named x.op then f.widths.getD x.dest.toNat 0 else 0
def Sp.idest (f : Fn) (x : Inst) : Bool := if Sp.named x.op then !decide (x.dest < 0) && !decide ((f.widths.length : Int) <= x.dest) else decide (x.dest = -1)
def Sp.iplain (x : Inst) : Bool := decide (x.num = 0) || decide (x.op = 1)
def Sp.ifit4 (x : Inst) (op w m a0 a1 a2 : Int) : Bool :=
 if op = 24 then decide (w < a0)
 else if op = 25 then decide (m = w) && decide (a1 = 1)
 else if op = 26 then decide (m = a1) && decide (a2 = 1)
 else if op = 27 then decide (m = w) && decide (a0 = 1)
 else if op = 28 then decide (m = a0) && decide (a1 = 1)
 else if Sp.isCompare x.op then decide (a0 = a1) && decide (w = 1)
 else decide (a0 = w) && decide (a1 = w)
def Sp.ifit (x : Inst) (w m a0 a1 a2 : Int) : Bool :=
 if x.op = 1 then decide (Sp.low w x.num = x.num)
 else if x.op = 21 then decide (a0 = 1) && (decide (a1 = w) && decide (a2 = w))
 else if x.op = 22 \/ x.op = 23 then decide (a0 < w) else Sp.ifit4 x x.op w m a0 a1 a2
def Sp.iwid (f : Fn) (x : Inst) : Bool := (Sp.imem f x).2 && (Sp.iplain x && (Sp.idest f x && Sp.ifit x (Sp.iwOf f x) (Sp.imem f x).1 (Sp.aw f x 0 x.args.length) (Sp.aw f x 1 x.args.length) (Sp.aw f x 2 x.args.length)))
def Sp.iwPre (f : Fn) (x : Inst) : Prop := x.args.length <= 3 /\ (∀ i, i < x.args.length -> f.inW (x.args.getD i 0)) /\ U64 x.num
section
variable {f : Fn} {x : Inst} {d : List Bool} {k : List Int} {m w : Int}
theorem j4_123 (op a0 a1 a2 : Int) (b : Bool) : go123_j4 (((), m, w, (), op, b, ()), pkF f, d, k, x, (a0, a1, a2, ()), ()) = some (if b = true then decide (a0 < w) else Sp.ifit4 x op w m a0 a1 a2, pkF f, d, k, ()) := by
 unfold go123_j4 Sp.ifit4
 simp only [bif_decide]
 have ab : ∀ (p : Prop) [Decidable p] (c : Bool) (S : CK × List Bool × List Int × Unit), (if p then (some (c, S) : Option (Bool × CK × List Bool × List Int × Unit)) else some (false, S)) = some (decide p && c, S) := fun p _ c S => by by_cases h : p <;> simp [h]
 simp only [ab]
 cases b
 ·cases Sp.isCompare x.op <;> simp only [cond_true, cond_false, Bool.false_eq_true, if_true, if_false] <;> repeat' split
  all_goals rfl
 ·rfl
theorem j2_123 (h : Sp.iwPre f x) : go123_j2 (((), (), m, w, ()), pkF f, d, k, x, ()) = some (Sp.ifit x w m (Sp.aw f x 0 x.args.length) (Sp.aw f x 1 x.args.length) (Sp.aw f x 2 x.args.length), pkF f, d, k, ()) := by
 obtain ⟨ha, hu, hn⟩ := h
 unfold go123_j2 go123_l1
 refine callB_of (whileO_to (st := fun i => (((), (), m, w, (), x.args, ((x.args.length : Nat) : Int), (i : Int), ()), pkF f, d, k, x, (Sp.aw f x 0 i, Sp.aw f x 1 i, Sp.aw f x 2 i, ()), ())) (by simp [Sp.aw]) x.args.length (X0 := (((), m, w, (), ()), pkF f, d, k, x, (Sp.aw f x 0 x.args.length, Sp.aw f x 1 x.args.length, Sp.aw f x 2 x.args.length, ()), ())) (fun i hi => ?_) ?_) ?_
 ·obtain ⟨u1, u2⟩ := hu i hi
  unfold go123_j3
  match i, hi, u1, u2 with
  | 0, hi, u1, u2 => simp (maxSteps := 1000000) (disch := ((try dsimp only); omega)) only [↓gsA, gsB]; simp [Sp.aw]; rw [grd_ok (by simpa using And.intro u1 u2)]
  | 1, hi, u1, u2 => simp (maxSteps := 1000000) (disch := ((try dsimp only); omega)) only [↓gsA, gsB]; simp [Sp.aw]; rw [grd_ok (by simpa using And.intro u1 u2)]
  | 2, hi, u1, u2 => simp (maxSteps := 1000000) (disch := ((try dsimp only); omega)) only [↓gsA, gsB]; simp [Sp.aw]; rw [grd_ok (by simpa using And.intro u1 u2)]
  | n + 3, hi, _, _ => omega
 ·simp (maxSteps := 1000000) (disch := ((try dsimp only); omega)) only [↓gsA, gsB]
 ·generalize Sp.aw f x 0 x.args.length = a0
  generalize Sp.aw f x 1 x.args.length = a1
  generalize Sp.aw f x 2 x.args.length = a2
  unfold Sp.ifit
  simp only [bif_decide, jpO_eq, j4_123, grd_ok hn, callB_some, cond_false]
  by_cases h1 : x.op = 1
  ·simp [h1]
  by_cases h2 : x.op = 21
  ·simp [h2]
  by_cases h3 : x.op = 22
  ·simp [h3]
  by_cases h4 : x.op = 23
  ·simp [h4]
  simp [h1, h2, h3, h4]
theorem j1_123 (h : Sp.iwPre f x) : go123_j1 (((), (), m, ()), pkF f, d, k, x, ()) = some (Sp.idest f x && Sp.ifit x (Sp.iwOf f x) m (Sp.aw f x 0 x.args.length) (Sp.aw f x 1 x.args.length) (Sp.aw f x 2 x.args.length), pkF f, d, k, ()) := by
 unfold go123_j1 Sp.idest Sp.iwOf
 simp only [jpO_eq, j2_123 h]
 cases h1 : Sp.named x.op with
 | false =>
  by_cases h2 : x.dest = -1 <;> simp [h2]
 | true =>
  by_cases h2 : x.dest < 0
  ·simp [h2]
  by_cases h3 : (f.widths.length : Int) <= x.dest
  ·simp [h2, h3]
  rw [decide_eq_false h2, decide_eq_false h3]
  simp only [cond_true, cond_false, grd_ok (show 0 <= x.dest /\ x.dest < (f.widths.length : Int) by omega)]
  rfl
theorem ok123 (x : Inst) (f : Fn) (d : List Bool) (k : List Int) (h : Sp.iwPre f x) : go123 x (pkF f) d k = some (Sp.iwid f x, pkF f, d, k, ()) := by
 unfold go123 Sp.iwid Sp.iplain
 simp only [jpO_eq, j1_123 h, decide_true, Bool.and_true, grd_true]
 cases h1 : (Sp.imem f x).2 with
 | false => rfl
 | true =>
  by_cases h2 : x.num = 0 <;> by_cases h3 : x.op = 1 <;> simp [h2, h3]
end
def c123 : Ctr Try.prog := mkCtr 123 Try.f123 Try.func123 [c53, c103, c133, c134] ann123 [(0, (.ptr 0 0)), (1, (.st 0))] [(.cells 107 [.s, (.fz (.int .i64)), (.fz (.st 4)), (.fz (.st 5)), (.fz (.int .i64)), (.fz (.st 3)), (.full 1), (.full 2)]), (.lst 4 .bool), (.lst 3 (.int .i64))] .b [(.cells 107 [.s, (.fz (.int .i64)), (.fz (.st 4)), (.fz (.st 5)), (.fz (.int .i64)), (.fz (.st 3)), (.full 1), (.full 2)]), (.lst 4 .bool), (.lst 3 (.int .i64))] (fun x y => grd (okB (Sp.iwPre (mkF y.1) x.2.1)) (some (Sp.iwid (mkF y.1) x.2.1, y.1, y.2.1, y.2.2.1, ())))
 (fun x y r h => FO (run123 x.2.1 y.1 y.2.1 y.2.2.1) (ok123 x.2.1 (mkF y.1) y.2.1 y.2.2.1) h)
end
end Go.Abs
namespace Go.Abs
open Go Go.Proofs
noncomputable section
def ann135 : Ann := (.seq .o (.join ⟨[(3, (.ptr 3 0)), (4, (.ptr 4 0))], [(.cells 107 [.s, (.fz (.int .i64)), (.fz (.st 4)), (.fz (.st 5)), (.fz (.int .i64)), (.fz (.st 3)), (.full 1), (.full 2)]), (.lst 4 .bool), (.lst 3 (.int .i64)), (.cells 105 [(.ptr 0 0)]), (.box 51 (.st 1))]⟩ (.seq .o (.cond (.seq .o .o) .o)) (.seq .o .o)))
def go135 (x1 : Edge) (x2 : Int) (y0 : (ByteArray × ((List Int) × ((List Arr) × ((List Strm) × ((List Int) × ((List Block) × (Unit × (Unit × Unit))))))))) (y1 : (List Bool)) (y2 : (List Int)) : (Option (Bool × ((ByteArray × ((List Int) × ((List Arr) × ((List Strm) × ((List Int) × ((List Block) × (Unit × (Unit × Unit)))))))) × ((List Bool) × ((List Int) × Unit))))) :=
 (bif (decide (x1.block < (1 : Int))) then
  (some (false, ((y0.1, (y0.2.1, (y0.2.2.1, (y0.2.2.2.1, (y0.2.2.2.2.1, (y0.2.2.2.2.2.1, ((), ((), ())))))))), (y1, (y2, ())))))
  else
  (bif (decide (((y0.2.2.2.2.2.1.length : Nat) : Int) <= x1.block)) then
   (some (false, ((y0.1, (y0.2.1, (y0.2.2.1, (y0.2.2.2.1, (y0.2.2.2.2.1, (y0.2.2.2.2.2.1, ((), ((), ())))))))), (y1, (y2, ())))))
   else
   (callB (grd (okB ((Bk x2) /\ (x1.args.length <= LEN)))
     (some ((Sp.iuses y2 x1.args x2), ((y0.1, (y0.2.1, (y0.2.2.1, (y0.2.2.2.1, (y0.2.2.2.2.1, (y0.2.2.2.2.2.1, ((), ((), ())))))))), (y1, (y2, ()))))))
    (fun (r0 : (Bool × ((ByteArray × ((List Int) × ((List Arr) × ((List Strm) × ((List Int) × ((List Block) × (Unit × (Unit × Unit)))))))) × ((List Bool) × ((List Int) × Unit))))) => (grd ((decide ((1 : Nat) = (1 : Nat))) && ((decide (r0.2.2.1.length = y1.length)) && ((decide (r0.2.2.2.1.length = y2.length)) && true)))
      (bif (!r0.1) then
       (some (false, ((r0.2.1.1, (r0.2.1.2.1, (r0.2.1.2.2.1, (r0.2.1.2.2.2.1, (r0.2.1.2.2.2.2.1, (r0.2.1.2.2.2.2.2.1, ((), ((), ())))))))), (r0.2.2.1, (r0.2.2.2.1, ())))))
       else
       (grd (okB (((0 : Int) <= x1.block) /\ (x1.block < ((r0.2.1.2.2.2.2.2.1.length : Nat) : Int))))
        (callB (grd (okB (Fn.allW (mkF (r0.2.1.1, (r0.2.1.2.1, (r0.2.1.2.2.1, (r0.2.1.2.2.2.1, (r0.2.1.2.2.2.2.1, (r0.2.1.2.2.2.2.2.1, ((), ((), ()))))))))) x1.args))
          (some ((Sp.pairs (Sp.pairOk (mkF (r0.2.1.1, (r0.2.1.2.1, (r0.2.1.2.2.1, (r0.2.1.2.2.2.1, (r0.2.1.2.2.2.2.1, (r0.2.1.2.2.2.2.2.1, ((), ((), ())))))))))) x1.args (r0.2.1.2.2.2.2.2.1.getD x1.block.toNat Block.z).params), (((), ()), ((r0.2.1.1, (r0.2.1.2.1, (r0.2.1.2.2.1, (r0.2.1.2.2.2.1, (r0.2.1.2.2.2.2.1, (r0.2.1.2.2.2.2.2.1, ((), ((), ())))))))), (r0.2.2.1, (r0.2.2.2.1, ())))))))
         (fun (r1 : (Bool × ((Unit × Unit) × ((ByteArray × ((List Int) × ((List Arr) × ((List Strm) × ((List Int) × ((List Block) × (Unit × (Unit × Unit)))))))) × ((List Bool) × ((List Int) × Unit)))))) => (grd ((decide ((1 : Nat) = (1 : Nat))) && ((decide ((1 : Nat) = (1 : Nat))) && ((decide (r1.2.2.2.1.length = r0.2.2.1.length)) && ((decide (r1.2.2.2.2.1.length = r0.2.2.2.1.length)) && true))))
           (some (r1.1, ((r1.2.2.1.1, (r1.2.2.1.2.1, (r1.2.2.1.2.2.1, (r1.2.2.1.2.2.2.1, (r1.2.2.1.2.2.2.2.1, (r1.2.2.1.2.2.2.2.2.1, ((), ((), ())))))))), (r1.2.2.2.1, (r1.2.2.2.2.1, ())))))))))))))))
theorem run135 (x1 : Edge) (x2 : Int) (y0 : (ByteArray × ((List Int) × ((List Arr) × ((List Strm) × ((List Int) × ((List Block) × (Unit × (Unit × Unit))))))))) (y1 : (List Bool)) (y2 : (List Int)) : runF (P := Try.prog) [c122, c136] Try.f135 ann135 [(0, (.ptr 0 0)), (1, (.st 1)), (2, (.i .i64))] [(.cells 107 [.s, (.fz (.int .i64)), (.fz (.st 4)), (.fz (.st 5)), (.fz (.int .i64)), (.fz (.st 3)), (.full 1), (.full 2)]), (.lst 4 .bool), (.lst 3 (.int .i64))] .b [(.cells 107 [.s, (.fz (.int .i64)), (.fz (.st 4)), (.fz (.st 5)), (.fz (.int .i64)), (.fz (.st 3)), (.full 1), (.full 2)]), (.lst 4 .bool), (.lst 3 (.int .i64))] ((), (x1, (x2, ()))) (y0, (y1, (y2, ()))) = go135 x1 x2 y0 y1 y2 := by kernel_rfl
theorem iuses_at {k l : List Int} {b : Int} (h : Sp.iuses k l b = true) {i : Nat} (hi : i < l.length) : 0 <= l.getD i 0 /\ l.getD i 0 < (k.length : Int) /\ k.getD (l.getD i 0).toNat 0 = b + 1 := by
 have := List.all_eq_true.1 h l[i] (List.getElem_mem hi)
 simp only [Bool.and_eq_true, Bool.not_eq_true', decide_eq_false_iff_not, decide_eq_true_eq] at this
 rw [List.getD_eq_getElem?_getD, List.getElem?_eq_getElem hi, Option.getD_some]
 exact ⟨by omega, by omega, this.2.2⟩
theorem iuses_W {f : Fn} {k l : List Int} {b : Int} (hk : k.length = f.widths.length) (hl : l.length <= LEN) (h : Sp.iuses k l b = true) : f.allW l :=
 ⟨hl, fun i hi => by obtain ⟨h1, h2, _⟩ := iuses_at h hi; exact ⟨h1, by rw [<- hk]; exact h2⟩⟩
def Sp.iedge (f : Fn) (k : List Int) (e : Edge) (b : Int) : Bool := !decide (e.block < 1) && (!decide ((f.blocks.length : Int) <= e.block) && (Sp.iuses k e.args b && Sp.pairs (Sp.pairOk f) e.args (f.blk e.block.toNat).params))
def Sp.iePre (f : Fn) (k : List Int) (l : List Int) (b : Int) : Prop := Bk b /\ l.length <= LEN /\ k.length = f.widths.length
theorem ok135 (e : Edge) (b : Int) (f : Fn) (d : List Bool) (k : List Int) (h : Sp.iePre f k e.args b) : go135 e b (pkF f) d k = some (Sp.iedge f k e b, pkF f, d, k, ()) := by
 obtain ⟨hb, hl, hk⟩ := h
 unfold go135 Sp.iedge
 by_cases h1 : e.block < 1
 ·simp [h1]
 by_cases h2 : (f.blocks.length : Int) <= e.block
 ·simp [h1, h2]
 rw [decide_eq_false h1, decide_eq_false h2]
 simp only [cond_false, grd_ok (And.intro hb hl), callB_some, decide_true, Bool.and_true, grd_true, Bool.not_false, Bool.true_and]
 cases h3 : Sp.iuses k e.args b with
 | false => rfl
 | true =>
  have hw := iuses_W (f := f) hk hl h3
  simp only [Bool.not_true, cond_false, grd_ok (show 0 <= e.block /\ e.block < (f.blocks.length : Int) by omega), grd_ok (show Fn.allW (mkF (pkF f)) e.args from hw), callB_some, decide_true, Bool.and_true, grd_true, Bool.true_and]
def c135 : Ctr Try.prog := mkCtr 135 Try.f135 Try.func135 [c122, c136] ann135 [(0, (.ptr 0 0)), (1, (.st 1)), (2, (.i .i64))] [(.cells 107 [.s, (.fz (.int .i64)), (.fz (.st 4)), (.fz (.st 5)), (.fz (.int .i64)), (.fz (.st 3)), (.full 1), (.full 2)]), (.lst 4 .bool), (.lst 3 (.int .i64))] .b [(.cells 107 [.s, (.fz (.int .i64)), (.fz (.st 4)), (.fz (.st 5)), (.fz (.int .i64)), (.fz (.st 3)), (.full 1), (.full 2)]), (.lst 4 .bool), (.lst 3 (.int .i64))] (fun x y => grd (okB (Sp.iePre (mkF y.1) y.2.2.1 x.2.1.args x.2.2.1)) (some (Sp.iedge (mkF y.1) y.2.2.1 x.2.1 x.2.2.1, y.1, y.2.1, y.2.2.1, ())))
 (fun x y r h => FO (run135 x.2.1 x.2.2.1 y.1 y.2.1 y.2.2.1) (ok135 x.2.1 x.2.2.1 (mkF y.1) y.2.1 y.2.2.1) h)
end
end Go.Abs
namespace Go.Abs
open Go Go.Proofs
noncomputable section
def Sp.iterm (f : Fn) (k : List Int) (t : Term) (b : Int) : Bool := t.to.all (fun e => Sp.iedge f k e b) &&
 (if t.kind = 1 then decide ((t.to.length : Int) = 1) && (decide (t.cond = -1) && decide ((t.rets.length : Int) = 0))
 else if t.kind = 2 then decide ((t.to.length : Int) = 2) && (decide ((t.rets.length : Int) = 0) && (Sp.iuses k [t.cond] b && decide (f.widths.getD t.cond.toNat 0 = 1)))
 else if t.kind = 3 then decide ((t.to.length : Int) = 0) && (decide (t.cond = -1) && (Sp.iuses k t.rets b && Sp.pairs (fun v w => decide (f.widths.getD v.toNat 0 = w)) t.rets f.rets))
 else false)
abbrev DI := List Bool × List Int
def Sp.idef (b : Int) (s : DI) (v : Int) : Option DI := if Sp.idefOk s.1 v = true then some (s.1.set v.toNat true, s.2.set v.toNat (b + 1)) else none
def Sp.iins (f : Fn) (b : Int) (s : DI) (x : Inst) : Option DI :=
 if Sp.arity x.op = (x.args.length : Int) then (if Sp.iuses s.2 x.args b = true then (if Sp.iwid f x = true then (if Sp.named x.op = true then Sp.idef b s x.dest else some s) else none) else none) else none
def Sp.iblk (f : Fn) (b : Int) (s : DI) (x : Block) : Option DI :=
 if Sp.limOk x = true then (match foldO (Sp.idef b) x.params s with
  | some s1 => (match foldO (Sp.iins f b) x.insts s1 with
   | some s2 => if Sp.iterm f s2.2 x.term b = true then some s2 else none
   | none => none)
  | none => none) else none
def Sp.istep (f : Fn) (s : DI) (i : Nat) : Option DI := Sp.iblk f i s (f.blk i)
def Sp.ihead (f : Fn) : Bool := Sp.ident f.name && (Sp.imems f && (!decide (65536 < (f.widths.length : Int)) && (!decide (64 < (f.rets.length : Int)) && (!decide ((f.blocks.length : Int) < 1) && (!decide (1024 < (f.blocks.length : Int)) && (f.widths.all Sp.right && f.rets.all Sp.right))))))
def Sp.ivalid (f : Fn) : Bool := Sp.ihead f && (foldO (Sp.istep f) (List.range f.blocks.length) (List.replicate f.widths.length false, List.replicate f.widths.length 0)).isSome
end
end Go.Abs
namespace Go.Abs
open Go Go.Proofs
noncomputable section
def ann124 : Ann := (.seq .o (.join ⟨[(2, (.i .i64)), (3, (.ptr 3 0)), (4, (.ptr 4 0))], [(.cells 107 [.s, (.fz (.int .i64)), (.fz (.st 4)), (.fz (.st 5)), (.fz (.int .i64)), (.fz (.st 3)), (.full 1), (.full 2)]), (.lst 4 .bool), (.lst 3 (.int .i64)), (.cells 105 [(.ptr 0 0)]), (.box 39 (.st 2))]⟩ (.seq .o (.block (.loop ⟨[(2, (.i .i64)), (3, (.ptr 3 0)), (4, (.ptr 4 0)), (10, (.fz (.st 1))), (11, (.i .i64)), (12, (.i .i64))], [(.cells 107 [.s, (.fz (.int .i64)), (.fz (.st 4)), (.fz (.st 5)), (.fz (.int .i64)), (.fz (.st 3)), (.full 1), (.full 2)]), (.lst 4 .bool), (.lst 3 (.int .i64)), (.cells 105 [(.ptr 0 0)]), (.box 39 (.st 2))]⟩ [((.exit 0), ⟨[(2, (.i .i64)), (3, (.ptr 3 0)), (4, (.ptr 4 0))], [(.cells 107 [.s, (.fz (.int .i64)), (.fz (.st 4)), (.fz (.st 5)), (.fz (.int .i64)), (.fz (.st 3)), (.full 1), (.full 2)]), (.lst 4 .bool), (.lst 3 (.int .i64)), (.cells 105 [(.ptr 0 0)]), (.box 39 (.st 2))]⟩), (.ret, ⟨[(6, .b)], [(.cells 107 [.s, (.fz (.int .i64)), (.fz (.st 4)), (.fz (.st 5)), (.fz (.int .i64)), (.fz (.st 3)), (.full 1), (.full 2)]), (.lst 4 .bool), (.lst 3 (.int .i64))]⟩)] (.seq .o (.join ⟨[(2, (.i .i64)), (3, (.ptr 3 0)), (4, (.ptr 4 0)), (10, (.fz (.st 1))), (11, (.i .i64)), (12, (.i .i64))], [(.cells 107 [.s, (.fz (.int .i64)), (.fz (.st 4)), (.fz (.st 5)), (.fz (.int .i64)), (.fz (.st 3)), (.full 1), (.full 2)]), (.lst 4 .bool), (.lst 3 (.int .i64)), (.cells 105 [(.ptr 0 0)]), (.box 39 (.st 2))]⟩ (.cond .o .o) (.join ⟨[(2, (.i .i64)), (3, (.ptr 3 0)), (4, (.ptr 4 0)), (10, (.fz (.st 1))), (11, (.i .i64)), (12, (.i .i64))], [(.cells 107 [.s, (.fz (.int .i64)), (.fz (.st 4)), (.fz (.st 5)), (.fz (.int .i64)), (.fz (.st 3)), (.full 1), (.full 2)]), (.lst 4 .bool), (.lst 3 (.int .i64)), (.cells 105 [(.ptr 0 0)]), (.box 39 (.st 2))]⟩ (.block (.seq .o (.seq .o (.cond (.seq .o .o) .o)))) .o)))))) (.join ⟨[], [(.cells 107 [.s, (.fz (.int .i64)), (.fz (.st 4)), (.fz (.st 5)), (.fz (.int .i64)), (.fz (.st 3)), (.full 1), (.full 2)]), (.lst 4 .bool), (.lst 3 (.int .i64))]⟩ (.seq .o (.block (.seq .o (.cond (.seq .o .o) (.seq .o (.cond (.seq (.x ⟨false, false, false, false, [], [], [0, 1, 3, 7, 15, 31, 63, 127, 255, 511, 1023, 2047, 2047, 6143, 14335, 2047, 65535, 131071, 262143, 524287, 1048575, 2097151, 4194303, 8388607, 524287, 17301503, 67108863, 134217727, 268435455, 536870911, 1073741823], (.on 0 (.on 1 (.on 2 (.on 3 (.on 4 (.on 5 (.on 6 (.on 7 (.on 8 (.on 9 (.on 10 (.rd 11 (.fl 12 (.rd 13 (.fl 15 (.on 14 (.on 16 (.qu [17, 18, 19, 20, 21, 22, 23, 24, 25, 26, 27, 28, 29, 30] .nil))))))))))))))))))⟩) .o) (.seq .o (.cond (.seq .o .o) .o)))))))) (.seq .o .o))))
def go124_l1 : ((Int × (Unit × (Unit × ((List Edge) × (Int × (Int × Unit)))))) × ((ByteArray × ((List Int) × ((List Arr) × ((List Strm) × ((List Int) × ((List Block) × (Unit × (Unit × Unit)))))))) × ((List Bool) × ((List Int) × ((Unit × Unit) × (Term × Unit)))))) -> Option (((Int × (Unit × (Unit × ((List Edge) × (Int × (Int × Unit)))))) × ((ByteArray × ((List Int) × ((List Arr) × ((List Strm) × ((List Int) × ((List Block) × (Unit × (Unit × Unit)))))))) × ((List Bool) × ((List Int) × ((Unit × Unit) × (Term × Unit)))))) ⊕ (((Int × (Unit × (Unit × Unit))) × ((ByteArray × ((List Int) × ((List Arr) × ((List Strm) × ((List Int) × ((List Block) × (Unit × (Unit × Unit)))))))) × ((List Bool) × ((List Int) × ((Unit × Unit) × (Term × Unit)))))) ⊕ ((Bool × Unit) × ((ByteArray × ((List Int) × ((List Arr) × ((List Strm) × ((List Int) × ((List Block) × (Unit × (Unit × Unit)))))))) × ((List Bool) × ((List Int) × Unit)))))) := (fun (r0 : ((Int × (Unit × (Unit × ((List Edge) × (Int × (Int × Unit)))))) × ((ByteArray × ((List Int) × ((List Arr) × ((List Strm) × ((List Int) × ((List Block) × (Unit × (Unit × Unit)))))))) × ((List Bool) × ((List Int) × ((Unit × Unit) × (Term × Unit))))))) => (bif (decide (r0.1.2.2.2.2.2.1 < r0.1.2.2.2.2.1)) then
   (grd (okB (((0 : Int) <= r0.1.2.2.2.2.2.1) /\ (r0.1.2.2.2.2.2.1 < ((r0.1.2.2.2.1.length : Nat) : Int))))
    (callB (grd (okB (Sp.iePre (mkF (r0.2.1.1, (r0.2.1.2.1, (r0.2.1.2.2.1, (r0.2.1.2.2.2.1, (r0.2.1.2.2.2.2.1, (r0.2.1.2.2.2.2.2.1, ((), ((), ()))))))))) r0.2.2.2.1 (r0.1.2.2.2.1.getD r0.1.2.2.2.2.2.1.toNat Edge.z).args r0.1.1))
      (some ((Sp.iedge (mkF (r0.2.1.1, (r0.2.1.2.1, (r0.2.1.2.2.1, (r0.2.1.2.2.2.1, (r0.2.1.2.2.2.2.1, (r0.2.1.2.2.2.2.2.1, ((), ((), ()))))))))) r0.2.2.2.1 (r0.1.2.2.2.1.getD r0.1.2.2.2.2.2.1.toNat Edge.z) r0.1.1), ((r0.2.1.1, (r0.2.1.2.1, (r0.2.1.2.2.1, (r0.2.1.2.2.2.1, (r0.2.1.2.2.2.2.1, (r0.2.1.2.2.2.2.2.1, ((), ((), ())))))))), (r0.2.2.1, (r0.2.2.2.1, ()))))))
     (fun (r1 : (Bool × ((ByteArray × ((List Int) × ((List Arr) × ((List Strm) × ((List Int) × ((List Block) × (Unit × (Unit × Unit)))))))) × ((List Bool) × ((List Int) × Unit))))) => (grd ((decide ((1 : Nat) = (1 : Nat))) && ((decide (r1.2.2.1.length = r0.2.2.1.length)) && ((decide (r1.2.2.2.1.length = r0.2.2.2.1.length)) && true)))
       (bif (!r1.1) then
        (some (Sum.inr (Sum.inr ((false, ()), ((r1.2.1.1, (r1.2.1.2.1, (r1.2.1.2.2.1, (r1.2.1.2.2.2.1, (r1.2.1.2.2.2.2.1, (r1.2.1.2.2.2.2.2.1, ((), ((), ())))))))), (r1.2.2.1, (r1.2.2.2.1, ())))))))
        else
        (grd (okB (((-(9223372036854775808 : Int)) <= (r0.1.2.2.2.2.2.1 + (1 : Int))) /\ ((r0.1.2.2.2.2.2.1 + (1 : Int)) <= (9223372036854775807 : Int))))
         (some (Sum.inl ((r0.1.1, ((), ((), (r0.1.2.2.2.1, (r0.1.2.2.2.2.1, ((r0.1.2.2.2.2.2.1 + (1 : Int)), ())))))), ((r1.2.1.1, (r1.2.1.2.1, (r1.2.1.2.2.1, (r1.2.1.2.2.2.1, (r1.2.1.2.2.2.2.1, (r1.2.1.2.2.2.2.2.1, ((), ((), ())))))))), (r1.2.2.1, (r1.2.2.2.1, (((), ()), (r0.2.2.2.2.2.1, ()))))))))))))))
   else
   (some (Sum.inr (Sum.inl ((r0.1.1, ((), ((), ()))), ((r0.2.1.1, (r0.2.1.2.1, (r0.2.1.2.2.1, (r0.2.1.2.2.2.1, (r0.2.1.2.2.2.2.1, (r0.2.1.2.2.2.2.2.1, ((), ((), ())))))))), (r0.2.2.1, (r0.2.2.2.1, (((), ()), (r0.2.2.2.2.2.1, ())))))))))))
def go124 (x1 : Term) (x2 : Int) (y0 : (ByteArray × ((List Int) × ((List Arr) × ((List Strm) × ((List Int) × ((List Block) × (Unit × (Unit × Unit))))))))) (y1 : (List Bool)) (y2 : (List Int)) : (Option (Bool × ((ByteArray × ((List Int) × ((List Arr) × ((List Strm) × ((List Int) × ((List Block) × (Unit × (Unit × Unit)))))))) × ((List Bool) × ((List Int) × Unit))))) :=
 (callB (whileO (go124_l1) ((x2, ((), ((), (x1.to, (((x1.to.length : Nat) : Int), ((0 : Int), ())))))), ((y0.1, (y0.2.1, (y0.2.2.1, (y0.2.2.2.1, (y0.2.2.2.2.1, (y0.2.2.2.2.2.1, ((), ((), ())))))))), (y1, (y2, (((), ()), (x1, ())))))))
  (fun (z0 : (((Int × (Unit × (Unit × Unit))) × ((ByteArray × ((List Int) × ((List Arr) × ((List Strm) × ((List Int) × ((List Block) × (Unit × (Unit × Unit)))))))) × ((List Bool) × ((List Int) × ((Unit × Unit) × (Term × Unit)))))) ⊕ ((Bool × Unit) × ((ByteArray × ((List Int) × ((List Arr) × ((List Strm) × ((List Int) × ((List Block) × (Unit × (Unit × Unit)))))))) × ((List Bool) × ((List Int) × Unit)))))) => (sumO (fun (z1 : ((Int × (Unit × (Unit × Unit))) × ((ByteArray × ((List Int) × ((List Arr) × ((List Strm) × ((List Int) × ((List Block) × (Unit × (Unit × Unit)))))))) × ((List Bool) × ((List Int) × ((Unit × Unit) × (Term × Unit))))))) => (bif (decide (z1.2.2.2.2.2.1.kind = (1 : Int))) then
      (bif (decide (((z1.2.2.2.2.2.1.to.length : Nat) : Int) = (1 : Int))) then
       (bif (decide (z1.2.2.2.2.2.1.cond = (-(1 : Int)))) then
        (some ((decide (((z1.2.2.2.2.2.1.rets.length : Nat) : Int) = (0 : Int))), ((z1.2.1.1, (z1.2.1.2.1, (z1.2.1.2.2.1, (z1.2.1.2.2.2.1, (z1.2.1.2.2.2.2.1, (z1.2.1.2.2.2.2.2.1, ((), ((), ())))))))), (z1.2.2.1, (z1.2.2.2.1, ())))))
        else
        (some (false, ((z1.2.1.1, (z1.2.1.2.1, (z1.2.1.2.2.1, (z1.2.1.2.2.2.1, (z1.2.1.2.2.2.2.1, (z1.2.1.2.2.2.2.2.1, ((), ((), ())))))))), (z1.2.2.1, (z1.2.2.2.1, ()))))))
       else
       (some (false, ((z1.2.1.1, (z1.2.1.2.1, (z1.2.1.2.2.1, (z1.2.1.2.2.2.1, (z1.2.1.2.2.2.2.1, (z1.2.1.2.2.2.2.2.1, ((), ((), ())))))))), (z1.2.2.1, (z1.2.2.2.1, ()))))))
      else
      (bif (decide (z1.2.2.2.2.2.1.kind = (2 : Int))) then
       (bif (decide (((z1.2.2.2.2.2.1.to.length : Nat) : Int) = (2 : Int))) then
        (bif (decide (((z1.2.2.2.2.2.1.rets.length : Nat) : Int) = (0 : Int))) then
         (callB (grd (okB ((Bk z1.1.1) /\ (1 <= LEN)))
           (some ((Sp.iuses z1.2.2.2.1 (z1.2.2.2.2.2.1.cond :: ([] : List Int)) z1.1.1), ((z1.2.1.1, (z1.2.1.2.1, (z1.2.1.2.2.1, (z1.2.1.2.2.2.1, (z1.2.1.2.2.2.2.1, (z1.2.1.2.2.2.2.2.1, ((), ((), ())))))))), (z1.2.2.1, (z1.2.2.2.1, ()))))))
          (fun (r0 : (Bool × ((ByteArray × ((List Int) × ((List Arr) × ((List Strm) × ((List Int) × ((List Block) × (Unit × (Unit × Unit)))))))) × ((List Bool) × ((List Int) × Unit))))) => (grd ((decide ((1 : Nat) = (1 : Nat))) && ((decide (r0.2.2.1.length = z1.2.2.1.length)) && ((decide (r0.2.2.2.1.length = z1.2.2.2.1.length)) && true)))
            (bif r0.1 then
             (grd (okB (((0 : Int) <= z1.2.2.2.2.2.1.cond) /\ (z1.2.2.2.2.2.1.cond < ((r0.2.1.2.1.length : Nat) : Int))))
              (some ((decide ((r0.2.1.2.1.getD z1.2.2.2.2.2.1.cond.toNat (0 : Int)) = (1 : Int))), ((r0.2.1.1, (r0.2.1.2.1, (r0.2.1.2.2.1, (r0.2.1.2.2.2.1, (r0.2.1.2.2.2.2.1, (r0.2.1.2.2.2.2.2.1, ((), ((), ())))))))), (r0.2.2.1, (r0.2.2.2.1, ()))))))
             else
             (some (false, ((r0.2.1.1, (r0.2.1.2.1, (r0.2.1.2.2.1, (r0.2.1.2.2.2.1, (r0.2.1.2.2.2.2.1, (r0.2.1.2.2.2.2.2.1, ((), ((), ())))))))), (r0.2.2.1, (r0.2.2.2.1, ())))))))))
         else
         (some (false, ((z1.2.1.1, (z1.2.1.2.1, (z1.2.1.2.2.1, (z1.2.1.2.2.2.1, (z1.2.1.2.2.2.2.1, (z1.2.1.2.2.2.2.2.1, ((), ((), ())))))))), (z1.2.2.1, (z1.2.2.2.1, ()))))))
        else
        (some (false, ((z1.2.1.1, (z1.2.1.2.1, (z1.2.1.2.2.1, (z1.2.1.2.2.2.1, (z1.2.1.2.2.2.2.1, (z1.2.1.2.2.2.2.2.1, ((), ((), ())))))))), (z1.2.2.1, (z1.2.2.2.1, ()))))))
       else
       (bif (decide (z1.2.2.2.2.2.1.kind = (3 : Int))) then
        (bif (decide (((z1.2.2.2.2.2.1.to.length : Nat) : Int) = (0 : Int))) then
         (bif (decide (z1.2.2.2.2.2.1.cond = (-(1 : Int)))) then
          (callB (grd (okB ((Bk z1.1.1) /\ (z1.2.2.2.2.2.1.rets.length <= LEN)))
            (some ((Sp.iuses z1.2.2.2.1 z1.2.2.2.2.2.1.rets z1.1.1), ((z1.2.1.1, (z1.2.1.2.1, (z1.2.1.2.2.1, (z1.2.1.2.2.2.1, (z1.2.1.2.2.2.2.1, (z1.2.1.2.2.2.2.2.1, ((), ((), ())))))))), (z1.2.2.1, (z1.2.2.2.1, ()))))))
           (fun (r0 : (Bool × ((ByteArray × ((List Int) × ((List Arr) × ((List Strm) × ((List Int) × ((List Block) × (Unit × (Unit × Unit)))))))) × ((List Bool) × ((List Int) × Unit))))) => (grd ((decide ((1 : Nat) = (1 : Nat))) && ((decide (r0.2.2.1.length = z1.2.2.1.length)) && ((decide (r0.2.2.2.1.length = z1.2.2.2.1.length)) && true)))
             (bif r0.1 then
              (callB (grd (okB (Fn.allW (mkF (r0.2.1.1, (r0.2.1.2.1, (r0.2.1.2.2.1, (r0.2.1.2.2.2.1, (r0.2.1.2.2.2.2.1, (r0.2.1.2.2.2.2.2.1, ((), ((), ()))))))))) z1.2.2.2.2.2.1.rets))
                (some ((Sp.pairs (fun (v0 : Int) => (fun (w0 : Int) => (decide (((mkF (r0.2.1.1, (r0.2.1.2.1, (r0.2.1.2.2.1, (r0.2.1.2.2.2.1, (r0.2.1.2.2.2.2.1, (r0.2.1.2.2.2.2.2.1, ((), ((), ()))))))))).widths.getD v0.toNat (0 : Int)) = w0)))) z1.2.2.2.2.2.1.rets r0.2.1.2.2.2.2.1), (((), ()), ((r0.2.1.1, (r0.2.1.2.1, (r0.2.1.2.2.1, (r0.2.1.2.2.2.1, (r0.2.1.2.2.2.2.1, (r0.2.1.2.2.2.2.2.1, ((), ((), ())))))))), (r0.2.2.1, (r0.2.2.2.1, ())))))))
               (fun (r1 : (Bool × ((Unit × Unit) × ((ByteArray × ((List Int) × ((List Arr) × ((List Strm) × ((List Int) × ((List Block) × (Unit × (Unit × Unit)))))))) × ((List Bool) × ((List Int) × Unit)))))) => (grd ((decide ((1 : Nat) = (1 : Nat))) && ((decide ((1 : Nat) = (1 : Nat))) && ((decide (r1.2.2.2.1.length = r0.2.2.1.length)) && ((decide (r1.2.2.2.2.1.length = r0.2.2.2.1.length)) && true))))
                 (some (r1.1, ((r1.2.2.1.1, (r1.2.2.1.2.1, (r1.2.2.1.2.2.1, (r1.2.2.1.2.2.2.1, (r1.2.2.1.2.2.2.2.1, (r1.2.2.1.2.2.2.2.2.1, ((), ((), ())))))))), (r1.2.2.2.1, (r1.2.2.2.2.1, ()))))))))
              else
              (some (false, ((r0.2.1.1, (r0.2.1.2.1, (r0.2.1.2.2.1, (r0.2.1.2.2.2.1, (r0.2.1.2.2.2.2.1, (r0.2.1.2.2.2.2.2.1, ((), ((), ())))))))), (r0.2.2.1, (r0.2.2.2.1, ())))))))))
          else
          (some (false, ((z1.2.1.1, (z1.2.1.2.1, (z1.2.1.2.2.1, (z1.2.1.2.2.2.1, (z1.2.1.2.2.2.2.1, (z1.2.1.2.2.2.2.2.1, ((), ((), ())))))))), (z1.2.2.1, (z1.2.2.2.1, ()))))))
         else
         (some (false, ((z1.2.1.1, (z1.2.1.2.1, (z1.2.1.2.2.1, (z1.2.1.2.2.2.1, (z1.2.1.2.2.2.2.1, (z1.2.1.2.2.2.2.2.1, ((), ((), ())))))))), (z1.2.2.1, (z1.2.2.2.1, ()))))))
        else
        (some (false, ((z1.2.1.1, (z1.2.1.2.1, (z1.2.1.2.2.1, (z1.2.1.2.2.2.1, (z1.2.1.2.2.2.2.1, (z1.2.1.2.2.2.2.2.1, ((), ((), ())))))))), (z1.2.2.1, (z1.2.2.2.1, ())))))))))
    (fun (z1 : ((Bool × Unit) × ((ByteArray × ((List Int) × ((List Arr) × ((List Strm) × ((List Int) × ((List Block) × (Unit × (Unit × Unit)))))))) × ((List Bool) × ((List Int) × Unit))))) => (some (z1.1.1, ((z1.2.1.1, (z1.2.1.2.1, (z1.2.1.2.2.1, (z1.2.1.2.2.2.1, (z1.2.1.2.2.2.2.1, (z1.2.1.2.2.2.2.2.1, ((), ((), ())))))))), (z1.2.2.1, (z1.2.2.2.1, ())))))) z0)))
theorem run124 (x1 : Term) (x2 : Int) (y0 : (ByteArray × ((List Int) × ((List Arr) × ((List Strm) × ((List Int) × ((List Block) × (Unit × (Unit × Unit))))))))) (y1 : (List Bool)) (y2 : (List Int)) : runF (P := Try.prog) [c122, c135, cQ136] Try.f124 ann124 [(0, (.ptr 0 0)), (1, (.st 2)), (2, (.i .i64))] [(.cells 107 [.s, (.fz (.int .i64)), (.fz (.st 4)), (.fz (.st 5)), (.fz (.int .i64)), (.fz (.st 3)), (.full 1), (.full 2)]), (.lst 4 .bool), (.lst 3 (.int .i64))] .b [(.cells 107 [.s, (.fz (.int .i64)), (.fz (.st 4)), (.fz (.st 5)), (.fz (.int .i64)), (.fz (.st 3)), (.full 1), (.full 2)]), (.lst 4 .bool), (.lst 3 (.int .i64))] ((), (x1, (x2, ()))) (y0, (y1, (y2, ()))) = go124 x1 x2 y0 y1 y2 := by kernel_rfl
def Sp.itPre (f : Fn) (k : List Int) (t : Term) (b : Int) : Prop := t.ok /\ Bk b /\ k.length = f.widths.length
theorem loop124 (t : Term) (b : Int) (f : Fn) (d : List Bool) (k : List Int) (h : Sp.itPre f k t b) : whileO go124_l1 ((b, (), (), t.to, ((t.to.length : Nat) : Int), (0 : Int), ()), pkF f, d, k, ((), ()), t, ()) =
  some (if t.to.all (fun e => Sp.iedge f k e b) then Sum.inl ((b, (), (), ()), pkF f, d, k, ((), ()), t, ()) else Sum.inr ((false, ()), pkF f, d, k, ())) := by
 obtain ⟨ht, hb, hk⟩ := h
 have hl := ht.2.2.1.len
 rw [lenVal] at hl
 unfold go124_l1
 refine whileO_all (l := t.to) (st := fun i => ((b, (), (), t.to, ((t.to.length : Nat) : Int), (i : Int), ()), pkF f, d, k, ((), ()), t, ())) rfl Edge.z (fun e => Sp.iedge f k e b) (A := Sum.inl ((b, (), (), ()), pkF f, d, k, ((), ()), t, ())) (B := Sum.inr ((false, ()), pkF f, d, k, ())) (fun i hi hp => ?_) (fun i hi hp => ?_) (fun _ => ?_)
 ·have he : Edge.ok (t.to.getD i Edge.z) := getD_ok ht.2.2.1 _ hi
  have hp : Sp.iedge (mkF (pkF f)) k (t.to.getD i Edge.z) b = true := hp
  simp only [Int.toNat_natCast, grd_ok (show Sp.iePre (mkF (pkF f)) k (t.to.getD i Edge.z).args b from ⟨hb, he.2.len, hk⟩), callB_some, decide_true, Bool.and_true, grd_true, hp]
  simp (maxSteps := 1000000) (disch := ((try dsimp only); omega)) only [↓gsA, gsB]
 ·have he : Edge.ok (t.to.getD i Edge.z) := getD_ok ht.2.2.1 _ hi
  have hp : Sp.iedge (mkF (pkF f)) k (t.to.getD i Edge.z) b = false := hp
  simp only [Int.toNat_natCast, grd_ok (show Sp.iePre (mkF (pkF f)) k (t.to.getD i Edge.z).args b from ⟨hb, he.2.len, hk⟩), callB_some, decide_true, Bool.and_true, grd_true, hp]
  simp (maxSteps := 1000000) (disch := ((try dsimp only); omega)) only [↓gsA, gsB]
 ·simp (maxSteps := 1000000) (disch := ((try dsimp only); omega)) only [↓gsA, gsB]
theorem ok124 (t : Term) (b : Int) (f : Fn) (d : List Bool) (k : List Int) (h : Sp.itPre f k t b) : go124 t b (pkF f) d k = some (Sp.iterm f k t b, pkF f, d, k, ()) := by
 have h0 := h
 obtain ⟨ht, hb, hk⟩ := h
 have hrl := ht.2.2.2.len
 unfold go124 Sp.iterm
 refine callB_of (loop124 t b f d k h0) ?_
 cases t.to.all (fun e => Sp.iedge f k e b) with
 | false => rfl
 | true =>
  rw [if_pos rfl, sumO_inl, Bool.true_and]
  by_cases h1 : t.kind = 1
  ·by_cases a : (t.to.length : Int) = 1 <;> by_cases c : t.cond = -1 <;> simp [h1, a, c]
  by_cases h2 : t.kind = 2
  ·simp only [h2, decide_true, cond_true, if_true, show ¬ ((2 : Int) = 1) by decide, decide_false, cond_false, if_false, grd_ok (And.intro hb (show 1 <= LEN by rw [lenVal]; decide)), callB_some, Bool.and_true, grd_true]
   by_cases a : (t.to.length : Int) = 2
   rotate_left
   ·simp [a]
   by_cases c : (t.rets.length : Int) = 0
   rotate_left
   ·simp only [a, c, decide_true, decide_false, cond_true, cond_false, Bool.true_and, Bool.false_and]
   simp only [a, c, decide_true, cond_true, Bool.true_and]
   cases h3 : Sp.iuses k [t.cond] b with
   | false => rfl
   | true =>
    obtain ⟨w1, w2⟩ := (iuses_W (f := f) hk (by rw [lenVal]; simp) h3).2 0 (by simp)
    simp only [List.getD_cons_zero] at w1 w2
    simp only [cond_true, Bool.true_and]
    rw [grd_ok ⟨w1, w2⟩]
  by_cases h3 : t.kind = 3
  ·simp only [h3, decide_true, cond_true, if_true, show ¬ ((3 : Int) = 1) by decide, show ¬ ((3 : Int) = 2) by decide, decide_false, cond_false, if_false, grd_ok (And.intro hb hrl), callB_some, Bool.and_true, grd_true]
   by_cases a : (t.to.length : Int) = 0
   rotate_left
   ·simp only [a, decide_false, cond_false, Bool.false_and]
   by_cases c : t.cond = -1
   rotate_left
   ·simp only [a, c, decide_true, decide_false, cond_true, cond_false, Bool.true_and, Bool.false_and]
   simp only [a, c, decide_true, cond_true, Bool.true_and]
   cases h4 : Sp.iuses k t.rets b with
   | false => rfl
   | true =>
    have hw := iuses_W (f := f) hk hrl h4
    simp only [cond_true, Bool.true_and, grd_ok (show Fn.allW (mkF (pkF f)) t.rets from hw), callB_some]
    simp only [decide_true, Bool.and_true, grd_true]
  simp [h1, h2, h3]
def c124 : Ctr Try.prog := mkCtr 124 Try.f124 Try.func124 [c122, c135, cQ136] ann124 [(0, (.ptr 0 0)), (1, (.st 2)), (2, (.i .i64))] [(.cells 107 [.s, (.fz (.int .i64)), (.fz (.st 4)), (.fz (.st 5)), (.fz (.int .i64)), (.fz (.st 3)), (.full 1), (.full 2)]), (.lst 4 .bool), (.lst 3 (.int .i64))] .b [(.cells 107 [.s, (.fz (.int .i64)), (.fz (.st 4)), (.fz (.st 5)), (.fz (.int .i64)), (.fz (.st 3)), (.full 1), (.full 2)]), (.lst 4 .bool), (.lst 3 (.int .i64))] (fun x y => grd (okB (Sp.itPre (mkF y.1) y.2.2.1 x.2.1 x.2.2.1)) (some (Sp.iterm (mkF y.1) y.2.2.1 x.2.1 x.2.2.1, y.1, y.2.1, y.2.2.1, ())))
 (fun x y r h => FO (run124 x.2.1 x.2.2.1 y.1 y.2.1 y.2.2.1) (ok124 x.2.1 x.2.2.1 (mkF y.1) y.2.1 y.2.2.1) h)
end
end Go.Abs
namespace Go.Abs
open Go Go.Proofs
noncomputable section
def ann85 : Ann := (.seq .o (.join ⟨[(0, (.ptr 0 0)), (2, (.i .i64)), (4, (.ptr 3 0))], [(.cells 107 [.s, (.fz (.int .i64)), (.fz (.st 4)), (.fz (.st 5)), (.fz (.int .i64)), (.fz (.st 3)), (.full 1), (.full 2)]), (.lst 4 .bool), (.lst 3 (.int .i64)), (.box 41 (.st 3))]⟩ (.seq .o (.cond (.seq .o .o) .o)) (.join ⟨[(0, (.ptr 0 0)), (2, (.i .i64)), (4, (.ptr 3 0))], [(.cells 107 [.s, (.fz (.int .i64)), (.fz (.st 4)), (.fz (.st 5)), (.fz (.int .i64)), (.fz (.st 3)), (.full 1), (.full 2)]), (.lst 4 .bool), (.lst 3 (.int .i64)), (.box 41 (.st 3))]⟩ (.seq .o (.block (.loop ⟨[(0, (.ptr 0 0)), (2, (.i .i64)), (4, (.ptr 3 0)), (46, (.fz (.int .i64))), (47, (.i .i64)), (48, (.i .i64))], [(.cells 107 [.s, (.fz (.int .i64)), (.fz (.st 4)), (.fz (.st 5)), (.fz (.int .i64)), (.fz (.st 3)), (.full 1), (.full 2)]), (.lst 4 .bool), (.lst 3 (.int .i64)), (.box 41 (.st 3))]⟩ [((.exit 0), ⟨[(0, (.ptr 0 0)), (2, (.i .i64)), (4, (.ptr 3 0))], [(.cells 107 [.s, (.fz (.int .i64)), (.fz (.st 4)), (.fz (.st 5)), (.fz (.int .i64)), (.fz (.st 3)), (.full 1), (.full 2)]), (.lst 4 .bool), (.lst 3 (.int .i64)), (.box 41 (.st 3))]⟩), (.ret, ⟨[(6, .b)], [(.cells 107 [.s, (.fz (.int .i64)), (.fz (.st 4)), (.fz (.st 5)), (.fz (.int .i64)), (.fz (.st 3)), (.full 1), (.full 2)]), (.lst 4 .bool), (.lst 3 (.int .i64))]⟩)] (.seq .o (.join ⟨[(0, (.ptr 0 0)), (2, (.i .i64)), (4, (.ptr 3 0)), (46, (.fz (.int .i64))), (47, (.i .i64)), (48, (.i .i64))], [(.cells 107 [.s, (.fz (.int .i64)), (.fz (.st 4)), (.fz (.st 5)), (.fz (.int .i64)), (.fz (.st 3)), (.full 1), (.full 2)]), (.lst 4 .bool), (.lst 3 (.int .i64)), (.box 41 (.st 3))]⟩ (.cond .o .o) (.join ⟨[(0, (.ptr 0 0)), (2, (.i .i64)), (4, (.ptr 3 0)), (46, (.fz (.int .i64))), (47, (.i .i64)), (48, (.i .i64))], [(.cells 107 [.s, (.fz (.int .i64)), (.fz (.st 4)), (.fz (.st 5)), (.fz (.int .i64)), (.fz (.st 3)), (.full 1), (.full 2)]), (.lst 4 .bool), (.lst 3 (.int .i64)), (.box 41 (.st 3))]⟩ (.block (.seq .o (.seq .o (.cond (.seq .o .o) .o)))) .o)))))) (.join ⟨[(0, (.ptr 0 0)), (2, (.i .i64)), (4, (.ptr 3 0))], [(.cells 107 [.s, (.fz (.int .i64)), (.fz (.st 4)), (.fz (.st 5)), (.fz (.int .i64)), (.fz (.st 3)), (.full 1), (.full 2)]), (.lst 4 .bool), (.lst 3 (.int .i64)), (.box 41 (.st 3))]⟩ (.seq .o (.block (.loop ⟨[(0, (.ptr 0 0)), (2, (.i .i64)), (4, (.ptr 3 0)), (59, (.fz (.st 0))), (60, (.i .i64)), (61, (.i .i64))], [(.cells 107 [.s, (.fz (.int .i64)), (.fz (.st 4)), (.fz (.st 5)), (.fz (.int .i64)), (.fz (.st 3)), (.full 1), (.full 2)]), (.lst 4 .bool), (.lst 3 (.int .i64)), (.box 41 (.st 3))]⟩ [((.exit 2), ⟨[(0, (.ptr 0 0)), (2, (.i .i64)), (4, (.ptr 3 0))], [(.cells 107 [.s, (.fz (.int .i64)), (.fz (.st 4)), (.fz (.st 5)), (.fz (.int .i64)), (.fz (.st 3)), (.full 1), (.full 2)]), (.lst 4 .bool), (.lst 3 (.int .i64)), (.box 41 (.st 3))]⟩), (.ret, ⟨[(6, .b)], [(.cells 107 [.s, (.fz (.int .i64)), (.fz (.st 4)), (.fz (.st 5)), (.fz (.int .i64)), (.fz (.st 3)), (.full 1), (.full 2)]), (.lst 4 .bool), (.lst 3 (.int .i64))]⟩)] (.seq .o (.join ⟨[(0, (.ptr 0 0)), (2, (.i .i64)), (4, (.ptr 3 0)), (59, (.fz (.st 0))), (60, (.i .i64)), (61, (.i .i64))], [(.cells 107 [.s, (.fz (.int .i64)), (.fz (.st 4)), (.fz (.st 5)), (.fz (.int .i64)), (.fz (.st 3)), (.full 1), (.full 2)]), (.lst 4 .bool), (.lst 3 (.int .i64)), (.box 41 (.st 3))]⟩ (.cond .o .o) (.join ⟨[(0, (.ptr 0 0)), (2, (.i .i64)), (4, (.ptr 3 0)), (59, (.fz (.st 0))), (60, (.i .i64)), (61, (.i .i64))], [(.cells 107 [.s, (.fz (.int .i64)), (.fz (.st 4)), (.fz (.st 5)), (.fz (.int .i64)), (.fz (.st 3)), (.full 1), (.full 2)]), (.lst 4 .bool), (.lst 3 (.int .i64)), (.box 41 (.st 3))]⟩ (.block (.seq .o (.seq .o (.cond (.seq .o .o) .o)))) .o)))))) (.seq .o .o)))))
def go85_j1 : ((Unit × (Int × (Unit × ((List Inst) × (Int × (Int × Unit)))))) × ((ByteArray × ((List Int) × ((List Arr) × ((List Strm) × ((List Int) × ((List Block) × (Unit × (Unit × Unit)))))))) × ((List Bool) × ((List Int) × (Block × Unit))))) -> Option (((Unit × (Int × (Unit × ((List Inst) × (Int × (Int × Unit)))))) × ((ByteArray × ((List Int) × ((List Arr) × ((List Strm) × ((List Int) × ((List Block) × (Unit × (Unit × Unit)))))))) × ((List Bool) × ((List Int) × (Block × Unit))))) ⊕ (((Unit × (Int × (Unit × Unit))) × ((ByteArray × ((List Int) × ((List Arr) × ((List Strm) × ((List Int) × ((List Block) × (Unit × (Unit × Unit)))))))) × ((List Bool) × ((List Int) × (Block × Unit))))) ⊕ ((Bool × Unit) × ((ByteArray × ((List Int) × ((List Arr) × ((List Strm) × ((List Int) × ((List Block) × (Unit × (Unit × Unit)))))))) × ((List Bool) × ((List Int) × Unit)))))) := (fun (z2 : ((Unit × (Int × (Unit × ((List Inst) × (Int × (Int × Unit)))))) × ((ByteArray × ((List Int) × ((List Arr) × ((List Strm) × ((List Int) × ((List Block) × (Unit × (Unit × Unit)))))))) × ((List Bool) × ((List Int) × (Block × Unit)))))) => (grd (okB (((-(9223372036854775808 : Int)) <= (z2.1.2.2.2.2.2.1 + (1 : Int))) /\ ((z2.1.2.2.2.2.2.1 + (1 : Int)) <= (9223372036854775807 : Int))))
   (some (Sum.inl (((), (z2.1.2.1, ((), (z2.1.2.2.2.1, (z2.1.2.2.2.2.1, ((z2.1.2.2.2.2.2.1 + (1 : Int)), ())))))), ((z2.2.1.1, (z2.2.1.2.1, (z2.2.1.2.2.1, (z2.2.1.2.2.2.1, (z2.2.1.2.2.2.2.1, (z2.2.1.2.2.2.2.2.1, ((), ((), ())))))))), (z2.2.2.1, (z2.2.2.2.1, (z2.2.2.2.2.1, ())))))))))
def go85_l2 : ((Unit × (Int × (Unit × ((List Inst) × (Int × (Int × Unit)))))) × ((ByteArray × ((List Int) × ((List Arr) × ((List Strm) × ((List Int) × ((List Block) × (Unit × (Unit × Unit)))))))) × ((List Bool) × ((List Int) × (Block × Unit))))) -> Option (((Unit × (Int × (Unit × ((List Inst) × (Int × (Int × Unit)))))) × ((ByteArray × ((List Int) × ((List Arr) × ((List Strm) × ((List Int) × ((List Block) × (Unit × (Unit × Unit)))))))) × ((List Bool) × ((List Int) × (Block × Unit))))) ⊕ (((Unit × (Int × (Unit × Unit))) × ((ByteArray × ((List Int) × ((List Arr) × ((List Strm) × ((List Int) × ((List Block) × (Unit × (Unit × Unit)))))))) × ((List Bool) × ((List Int) × (Block × Unit))))) ⊕ ((Bool × Unit) × ((ByteArray × ((List Int) × ((List Arr) × ((List Strm) × ((List Int) × ((List Block) × (Unit × (Unit × Unit)))))))) × ((List Bool) × ((List Int) × Unit)))))) := (fun (r0 : ((Unit × (Int × (Unit × ((List Inst) × (Int × (Int × Unit)))))) × ((ByteArray × ((List Int) × ((List Arr) × ((List Strm) × ((List Int) × ((List Block) × (Unit × (Unit × Unit)))))))) × ((List Bool) × ((List Int) × (Block × Unit)))))) => (bif (decide (r0.1.2.2.2.2.2.1 < r0.1.2.2.2.2.1)) then
   (jpO (go85_j1)
    (fun (j0 : (((Unit × (Int × (Unit × ((List Inst) × (Int × (Int × Unit)))))) × ((ByteArray × ((List Int) × ((List Arr) × ((List Strm) × ((List Int) × ((List Block) × (Unit × (Unit × Unit)))))))) × ((List Bool) × ((List Int) × (Block × Unit))))) -> (Option (((Unit × (Int × (Unit × ((List Inst) × (Int × (Int × Unit)))))) × ((ByteArray × ((List Int) × ((List Arr) × ((List Strm) × ((List Int) × ((List Block) × (Unit × (Unit × Unit)))))))) × ((List Bool) × ((List Int) × (Block × Unit))))) ⊕ (((Unit × (Int × (Unit × Unit))) × ((ByteArray × ((List Int) × ((List Arr) × ((List Strm) × ((List Int) × ((List Block) × (Unit × (Unit × Unit)))))))) × ((List Bool) × ((List Int) × (Block × Unit))))) ⊕ ((Bool × Unit) × ((ByteArray × ((List Int) × ((List Arr) × ((List Strm) × ((List Int) × ((List Block) × (Unit × (Unit × Unit)))))))) × ((List Bool) × ((List Int) × Unit))))))))) => (grd (okB (((0 : Int) <= r0.1.2.2.2.2.2.1) /\ (r0.1.2.2.2.2.2.1 < ((r0.1.2.2.2.1.length : Nat) : Int))))
      (bif (!(decide ((Sp.arity (r0.1.2.2.2.1.getD r0.1.2.2.2.2.2.1.toNat Inst.z).op) = (((r0.1.2.2.2.1.getD r0.1.2.2.2.2.2.1.toNat Inst.z).args.length : Nat) : Int)))) then
       (some (Sum.inr (Sum.inr ((false, ()), ((r0.2.1.1, (r0.2.1.2.1, (r0.2.1.2.2.1, (r0.2.1.2.2.2.1, (r0.2.1.2.2.2.2.1, (r0.2.1.2.2.2.2.2.1, ((), ((), ())))))))), (r0.2.2.1, (r0.2.2.2.1, ())))))))
       else
       (callB (grd (okB ((Bk r0.1.2.1) /\ ((r0.1.2.2.2.1.getD r0.1.2.2.2.2.2.1.toNat Inst.z).args.length <= LEN)))
         (some ((Sp.iuses r0.2.2.2.1 (r0.1.2.2.2.1.getD r0.1.2.2.2.2.2.1.toNat Inst.z).args r0.1.2.1), ((r0.2.1.1, (r0.2.1.2.1, (r0.2.1.2.2.1, (r0.2.1.2.2.2.1, (r0.2.1.2.2.2.2.1, (r0.2.1.2.2.2.2.2.1, ((), ((), ())))))))), (r0.2.2.1, (r0.2.2.2.1, ()))))))
        (fun (r1 : (Bool × ((ByteArray × ((List Int) × ((List Arr) × ((List Strm) × ((List Int) × ((List Block) × (Unit × (Unit × Unit)))))))) × ((List Bool) × ((List Int) × Unit))))) => (grd ((decide ((1 : Nat) = (1 : Nat))) && ((decide (r1.2.2.1.length = r0.2.2.1.length)) && ((decide (r1.2.2.2.1.length = r0.2.2.2.1.length)) && true)))
          (bif (!r1.1) then
           (some (Sum.inr (Sum.inr ((false, ()), ((r1.2.1.1, (r1.2.1.2.1, (r1.2.1.2.2.1, (r1.2.1.2.2.2.1, (r1.2.1.2.2.2.2.1, (r1.2.1.2.2.2.2.2.1, ((), ((), ())))))))), (r1.2.2.1, (r1.2.2.2.1, ())))))))
           else
           (callB (grd (okB (Sp.iwPre (mkF (r1.2.1.1, (r1.2.1.2.1, (r1.2.1.2.2.1, (r1.2.1.2.2.2.1, (r1.2.1.2.2.2.2.1, (r1.2.1.2.2.2.2.2.1, ((), ((), ()))))))))) (r0.1.2.2.2.1.getD r0.1.2.2.2.2.2.1.toNat Inst.z)))
             (some ((Sp.iwid (mkF (r1.2.1.1, (r1.2.1.2.1, (r1.2.1.2.2.1, (r1.2.1.2.2.2.1, (r1.2.1.2.2.2.2.1, (r1.2.1.2.2.2.2.2.1, ((), ((), ()))))))))) (r0.1.2.2.2.1.getD r0.1.2.2.2.2.2.1.toNat Inst.z)), ((r1.2.1.1, (r1.2.1.2.1, (r1.2.1.2.2.1, (r1.2.1.2.2.2.1, (r1.2.1.2.2.2.2.1, (r1.2.1.2.2.2.2.2.1, ((), ((), ())))))))), (r1.2.2.1, (r1.2.2.2.1, ()))))))
            (fun (r2 : (Bool × ((ByteArray × ((List Int) × ((List Arr) × ((List Strm) × ((List Int) × ((List Block) × (Unit × (Unit × Unit)))))))) × ((List Bool) × ((List Int) × Unit))))) => (grd ((decide ((1 : Nat) = (1 : Nat))) && ((decide (r2.2.2.1.length = r1.2.2.1.length)) && ((decide (r2.2.2.2.1.length = r1.2.2.2.1.length)) && true)))
              (bif (!r2.1) then
               (some (Sum.inr (Sum.inr ((false, ()), ((r2.2.1.1, (r2.2.1.2.1, (r2.2.1.2.2.1, (r2.2.1.2.2.2.1, (r2.2.1.2.2.2.2.1, (r2.2.1.2.2.2.2.2.1, ((), ((), ())))))))), (r2.2.2.1, (r2.2.2.2.1, ())))))))
               else
               (bif (Sp.named (r0.1.2.2.2.1.getD r0.1.2.2.2.2.2.1.toNat Inst.z).op) then
                (callB (grd (okB ((Bk r0.1.2.1) /\ (r2.2.2.2.1.length = r2.2.2.1.length)))
                  (some ((Sp.idefOk r2.2.2.1 (r0.1.2.2.2.1.getD r0.1.2.2.2.2.2.1.toNat Inst.z).dest), ((r2.2.1.1, (r2.2.1.2.1, (r2.2.1.2.2.1, (r2.2.1.2.2.2.1, (r2.2.1.2.2.2.2.1, (r2.2.1.2.2.2.2.2.1, ((), ((), ())))))))), ((Sp.idefD r2.2.2.1 (r0.1.2.2.2.1.getD r0.1.2.2.2.2.2.1.toNat Inst.z).dest), ((Sp.idefK r2.2.2.1 r2.2.2.2.1 (r0.1.2.2.2.1.getD r0.1.2.2.2.2.2.1.toNat Inst.z).dest r0.1.2.1), ()))))))
                 (fun (r3 : (Bool × ((ByteArray × ((List Int) × ((List Arr) × ((List Strm) × ((List Int) × ((List Block) × (Unit × (Unit × Unit)))))))) × ((List Bool) × ((List Int) × Unit))))) => (grd ((decide ((1 : Nat) = (1 : Nat))) && ((decide (r3.2.2.1.length = r2.2.2.1.length)) && ((decide (r3.2.2.2.1.length = r2.2.2.2.1.length)) && true)))
                   (bif (!r3.1) then
                    (some (Sum.inr (Sum.inr ((false, ()), ((r3.2.1.1, (r3.2.1.2.1, (r3.2.1.2.2.1, (r3.2.1.2.2.2.1, (r3.2.1.2.2.2.2.1, (r3.2.1.2.2.2.2.2.1, ((), ((), ())))))))), (r3.2.2.1, (r3.2.2.2.1, ())))))))
                    else
                    (j0 (((), (r0.1.2.1, ((), (r0.1.2.2.2.1, (r0.1.2.2.2.2.1, (r0.1.2.2.2.2.2.1, ())))))), ((r3.2.1.1, (r3.2.1.2.1, (r3.2.1.2.2.1, (r3.2.1.2.2.2.1, (r3.2.1.2.2.2.2.1, (r3.2.1.2.2.2.2.2.1, ((), ((), ())))))))), (r3.2.2.1, (r3.2.2.2.1, (r0.2.2.2.2.1, ()))))))))))
                else
                (j0 (((), (r0.1.2.1, ((), (r0.1.2.2.2.1, (r0.1.2.2.2.2.1, (r0.1.2.2.2.2.2.1, ())))))), ((r2.2.1.1, (r2.2.1.2.1, (r2.2.1.2.2.1, (r2.2.1.2.2.2.1, (r2.2.1.2.2.2.2.1, (r2.2.1.2.2.2.2.2.1, ((), ((), ())))))))), (r2.2.2.1, (r2.2.2.2.1, (r0.2.2.2.2.1, ())))))))))))))))))))
   else
   (some (Sum.inr (Sum.inl (((), (r0.1.2.1, ((), ()))), ((r0.2.1.1, (r0.2.1.2.1, (r0.2.1.2.2.1, (r0.2.1.2.2.2.1, (r0.2.1.2.2.2.2.1, (r0.2.1.2.2.2.2.2.1, ((), ((), ())))))))), (r0.2.2.1, (r0.2.2.2.1, (r0.2.2.2.2.1, ()))))))))))
def go85_l1 : ((Unit × (Int × (Unit × ((List Int) × (Int × (Int × Unit)))))) × ((ByteArray × ((List Int) × ((List Arr) × ((List Strm) × ((List Int) × ((List Block) × (Unit × (Unit × Unit)))))))) × ((List Bool) × ((List Int) × (Block × Unit))))) -> Option (((Unit × (Int × (Unit × ((List Int) × (Int × (Int × Unit)))))) × ((ByteArray × ((List Int) × ((List Arr) × ((List Strm) × ((List Int) × ((List Block) × (Unit × (Unit × Unit)))))))) × ((List Bool) × ((List Int) × (Block × Unit))))) ⊕ (((Unit × (Int × (Unit × Unit))) × ((ByteArray × ((List Int) × ((List Arr) × ((List Strm) × ((List Int) × ((List Block) × (Unit × (Unit × Unit)))))))) × ((List Bool) × ((List Int) × (Block × Unit))))) ⊕ ((Bool × Unit) × ((ByteArray × ((List Int) × ((List Arr) × ((List Strm) × ((List Int) × ((List Block) × (Unit × (Unit × Unit)))))))) × ((List Bool) × ((List Int) × Unit)))))) := (fun (r0 : ((Unit × (Int × (Unit × ((List Int) × (Int × (Int × Unit)))))) × ((ByteArray × ((List Int) × ((List Arr) × ((List Strm) × ((List Int) × ((List Block) × (Unit × (Unit × Unit)))))))) × ((List Bool) × ((List Int) × (Block × Unit)))))) => (bif (decide (r0.1.2.2.2.2.2.1 < r0.1.2.2.2.2.1)) then
   (grd (okB (((0 : Int) <= r0.1.2.2.2.2.2.1) /\ (r0.1.2.2.2.2.2.1 < ((r0.1.2.2.2.1.length : Nat) : Int))))
    (callB (grd (okB ((Bk r0.1.2.1) /\ (r0.2.2.2.1.length = r0.2.2.1.length)))
      (some ((Sp.idefOk r0.2.2.1 (r0.1.2.2.2.1.getD r0.1.2.2.2.2.2.1.toNat (0 : Int))), ((r0.2.1.1, (r0.2.1.2.1, (r0.2.1.2.2.1, (r0.2.1.2.2.2.1, (r0.2.1.2.2.2.2.1, (r0.2.1.2.2.2.2.2.1, ((), ((), ())))))))), ((Sp.idefD r0.2.2.1 (r0.1.2.2.2.1.getD r0.1.2.2.2.2.2.1.toNat (0 : Int))), ((Sp.idefK r0.2.2.1 r0.2.2.2.1 (r0.1.2.2.2.1.getD r0.1.2.2.2.2.2.1.toNat (0 : Int)) r0.1.2.1), ()))))))
     (fun (r1 : (Bool × ((ByteArray × ((List Int) × ((List Arr) × ((List Strm) × ((List Int) × ((List Block) × (Unit × (Unit × Unit)))))))) × ((List Bool) × ((List Int) × Unit))))) => (grd ((decide ((1 : Nat) = (1 : Nat))) && ((decide (r1.2.2.1.length = r0.2.2.1.length)) && ((decide (r1.2.2.2.1.length = r0.2.2.2.1.length)) && true)))
       (bif (!r1.1) then
        (some (Sum.inr (Sum.inr ((false, ()), ((r1.2.1.1, (r1.2.1.2.1, (r1.2.1.2.2.1, (r1.2.1.2.2.2.1, (r1.2.1.2.2.2.2.1, (r1.2.1.2.2.2.2.2.1, ((), ((), ())))))))), (r1.2.2.1, (r1.2.2.2.1, ())))))))
        else
        (grd (okB (((-(9223372036854775808 : Int)) <= (r0.1.2.2.2.2.2.1 + (1 : Int))) /\ ((r0.1.2.2.2.2.2.1 + (1 : Int)) <= (9223372036854775807 : Int))))
         (some (Sum.inl (((), (r0.1.2.1, ((), (r0.1.2.2.2.1, (r0.1.2.2.2.2.1, ((r0.1.2.2.2.2.2.1 + (1 : Int)), ())))))), ((r1.2.1.1, (r1.2.1.2.1, (r1.2.1.2.2.1, (r1.2.1.2.2.2.1, (r1.2.1.2.2.2.2.1, (r1.2.1.2.2.2.2.2.1, ((), ((), ())))))))), (r1.2.2.1, (r1.2.2.2.1, (r0.2.2.2.2.1, ())))))))))))))
   else
   (some (Sum.inr (Sum.inl (((), (r0.1.2.1, ((), ()))), ((r0.2.1.1, (r0.2.1.2.1, (r0.2.1.2.2.1, (r0.2.1.2.2.2.1, (r0.2.1.2.2.2.2.1, (r0.2.1.2.2.2.2.2.1, ((), ((), ())))))))), (r0.2.2.1, (r0.2.2.2.1, (r0.2.2.2.2.1, ()))))))))))
def go85 (x1 : Block) (x2 : Int) (y0 : (ByteArray × ((List Int) × ((List Arr) × ((List Strm) × ((List Int) × ((List Block) × (Unit × (Unit × Unit))))))))) (y1 : (List Bool)) (y2 : (List Int)) : (Option (Bool × ((ByteArray × ((List Int) × ((List Arr) × ((List Strm) × ((List Int) × ((List Block) × (Unit × (Unit × Unit)))))))) × ((List Bool) × ((List Int) × Unit))))) :=
 (bif (decide ((4096 : Int) < ((x1.insts.length : Nat) : Int))) then
  (some (false, ((y0.1, (y0.2.1, (y0.2.2.1, (y0.2.2.2.1, (y0.2.2.2.2.1, (y0.2.2.2.2.2.1, ((), ((), ())))))))), (y1, (y2, ())))))
  else
  (bif (decide (x1.pipeline < (0 : Int))) then
   (some (false, ((y0.1, (y0.2.1, (y0.2.2.1, (y0.2.2.2.1, (y0.2.2.2.2.1, (y0.2.2.2.2.2.1, ((), ((), ())))))))), (y1, (y2, ())))))
   else
   (bif (decide ((256 : Int) < x1.pipeline)) then
    (some (false, ((y0.1, (y0.2.1, (y0.2.2.1, (y0.2.2.2.1, (y0.2.2.2.2.1, (y0.2.2.2.2.2.1, ((), ((), ())))))))), (y1, (y2, ())))))
    else
    (bif (decide (x1.unroll < (0 : Int))) then
     (some (false, ((y0.1, (y0.2.1, (y0.2.2.1, (y0.2.2.2.1, (y0.2.2.2.2.1, (y0.2.2.2.2.2.1, ((), ((), ())))))))), (y1, (y2, ())))))
     else
     (bif (decide ((64 : Int) < x1.unroll)) then
      (some (false, ((y0.1, (y0.2.1, (y0.2.2.1, (y0.2.2.2.1, (y0.2.2.2.2.1, (y0.2.2.2.2.2.1, ((), ((), ())))))))), (y1, (y2, ())))))
      else
      (bif (decide (x1.line < (0 : Int))) then
       (some (false, ((y0.1, (y0.2.1, (y0.2.2.1, (y0.2.2.2.1, (y0.2.2.2.2.1, (y0.2.2.2.2.2.1, ((), ((), ())))))))), (y1, (y2, ())))))
       else
       (bif (decide ((2147483647 : Int) < x1.line)) then
        (some (false, ((y0.1, (y0.2.1, (y0.2.2.1, (y0.2.2.2.1, (y0.2.2.2.2.1, (y0.2.2.2.2.2.1, ((), ((), ())))))))), (y1, (y2, ())))))
        else
        (callB (whileO (go85_l1) (((), (x2, ((), (x1.params, (((x1.params.length : Nat) : Int), ((0 : Int), ())))))), ((y0.1, (y0.2.1, (y0.2.2.1, (y0.2.2.2.1, (y0.2.2.2.2.1, (y0.2.2.2.2.2.1, ((), ((), ())))))))), (y1, (y2, (x1, ()))))))
         (fun (z0 : (((Unit × (Int × (Unit × Unit))) × ((ByteArray × ((List Int) × ((List Arr) × ((List Strm) × ((List Int) × ((List Block) × (Unit × (Unit × Unit)))))))) × ((List Bool) × ((List Int) × (Block × Unit))))) ⊕ ((Bool × Unit) × ((ByteArray × ((List Int) × ((List Arr) × ((List Strm) × ((List Int) × ((List Block) × (Unit × (Unit × Unit)))))))) × ((List Bool) × ((List Int) × Unit)))))) => (sumO (fun (z1 : ((Unit × (Int × (Unit × Unit))) × ((ByteArray × ((List Int) × ((List Arr) × ((List Strm) × ((List Int) × ((List Block) × (Unit × (Unit × Unit)))))))) × ((List Bool) × ((List Int) × (Block × Unit)))))) => (callB (whileO (go85_l2) (((), (z1.1.2.1, ((), (z1.2.2.2.2.1.insts, (((z1.2.2.2.2.1.insts.length : Nat) : Int), ((0 : Int), ())))))), ((z1.2.1.1, (z1.2.1.2.1, (z1.2.1.2.2.1, (z1.2.1.2.2.2.1, (z1.2.1.2.2.2.2.1, (z1.2.1.2.2.2.2.2.1, ((), ((), ())))))))), (z1.2.2.1, (z1.2.2.2.1, (z1.2.2.2.2.1, ()))))))
             (fun (z2 : (((Unit × (Int × (Unit × Unit))) × ((ByteArray × ((List Int) × ((List Arr) × ((List Strm) × ((List Int) × ((List Block) × (Unit × (Unit × Unit)))))))) × ((List Bool) × ((List Int) × (Block × Unit))))) ⊕ ((Bool × Unit) × ((ByteArray × ((List Int) × ((List Arr) × ((List Strm) × ((List Int) × ((List Block) × (Unit × (Unit × Unit)))))))) × ((List Bool) × ((List Int) × Unit)))))) => (sumO (fun (z3 : ((Unit × (Int × (Unit × Unit))) × ((ByteArray × ((List Int) × ((List Arr) × ((List Strm) × ((List Int) × ((List Block) × (Unit × (Unit × Unit)))))))) × ((List Bool) × ((List Int) × (Block × Unit)))))) => (callB (grd (okB (Sp.itPre (mkF (z3.2.1.1, (z3.2.1.2.1, (z3.2.1.2.2.1, (z3.2.1.2.2.2.1, (z3.2.1.2.2.2.2.1, (z3.2.1.2.2.2.2.2.1, ((), ((), ()))))))))) z3.2.2.2.1 (Term.mk z3.2.2.2.2.1.term.kind z3.2.2.2.2.1.term.cond z3.2.2.2.2.1.term.to z3.2.2.2.2.1.term.rets) z3.1.2.1))
                  (some ((Sp.iterm (mkF (z3.2.1.1, (z3.2.1.2.1, (z3.2.1.2.2.1, (z3.2.1.2.2.2.1, (z3.2.1.2.2.2.2.1, (z3.2.1.2.2.2.2.2.1, ((), ((), ()))))))))) z3.2.2.2.1 (Term.mk z3.2.2.2.2.1.term.kind z3.2.2.2.2.1.term.cond z3.2.2.2.2.1.term.to z3.2.2.2.2.1.term.rets) z3.1.2.1), ((z3.2.1.1, (z3.2.1.2.1, (z3.2.1.2.2.1, (z3.2.1.2.2.2.1, (z3.2.1.2.2.2.2.1, (z3.2.1.2.2.2.2.2.1, ((), ((), ())))))))), (z3.2.2.1, (z3.2.2.2.1, ()))))))
                 (fun (r0 : (Bool × ((ByteArray × ((List Int) × ((List Arr) × ((List Strm) × ((List Int) × ((List Block) × (Unit × (Unit × Unit)))))))) × ((List Bool) × ((List Int) × Unit))))) => (grd ((decide ((1 : Nat) = (1 : Nat))) && ((decide (r0.2.2.1.length = z3.2.2.1.length)) && ((decide (r0.2.2.2.1.length = z3.2.2.2.1.length)) && true)))
                   (some (r0.1, ((r0.2.1.1, (r0.2.1.2.1, (r0.2.1.2.2.1, (r0.2.1.2.2.2.1, (r0.2.1.2.2.2.2.1, (r0.2.1.2.2.2.2.2.1, ((), ((), ())))))))), (r0.2.2.1, (r0.2.2.2.1, ())))))))))
               (fun (z3 : ((Bool × Unit) × ((ByteArray × ((List Int) × ((List Arr) × ((List Strm) × ((List Int) × ((List Block) × (Unit × (Unit × Unit)))))))) × ((List Bool) × ((List Int) × Unit))))) => (some (z3.1.1, ((z3.2.1.1, (z3.2.1.2.1, (z3.2.1.2.2.1, (z3.2.1.2.2.2.1, (z3.2.1.2.2.2.2.1, (z3.2.1.2.2.2.2.2.1, ((), ((), ())))))))), (z3.2.2.1, (z3.2.2.2.1, ())))))) z2))))
           (fun (z1 : ((Bool × Unit) × ((ByteArray × ((List Int) × ((List Arr) × ((List Strm) × ((List Int) × ((List Block) × (Unit × (Unit × Unit)))))))) × ((List Bool) × ((List Int) × Unit))))) => (some (z1.1.1, ((z1.2.1.1, (z1.2.1.2.1, (z1.2.1.2.2.1, (z1.2.1.2.2.2.1, (z1.2.1.2.2.2.2.1, (z1.2.1.2.2.2.2.2.1, ((), ((), ())))))))), (z1.2.2.1, (z1.2.2.2.1, ())))))) z0))))))))))
theorem run85 (x1 : Block) (x2 : Int) (y0 : (ByteArray × ((List Int) × ((List Arr) × ((List Strm) × ((List Int) × ((List Block) × (Unit × (Unit × Unit))))))))) (y1 : (List Bool)) (y2 : (List Int)) : runF (P := Try.prog) [c13, c53, c121, c122, c123, c124] Try.f85 ann85 [(0, (.ptr 0 0)), (1, (.st 3)), (2, (.i .i64))] [(.cells 107 [.s, (.fz (.int .i64)), (.fz (.st 4)), (.fz (.st 5)), (.fz (.int .i64)), (.fz (.st 3)), (.full 1), (.full 2)]), (.lst 4 .bool), (.lst 3 (.int .i64))] .b [(.cells 107 [.s, (.fz (.int .i64)), (.fz (.st 4)), (.fz (.st 5)), (.fz (.int .i64)), (.fz (.st 3)), (.full 1), (.full 2)]), (.lst 4 .bool), (.lst 3 (.int .i64))] ((), (x1, (x2, ()))) (y0, (y1, (y2, ()))) = go85 x1 x2 y0 y1 y2 := by kernel_rfl
def foldB {σ α : Type} (g : σ -> α -> Option σ) : List α -> σ -> Bool × σ
 | [], s => (true, s)
 | a :: l, s => match g s a with
  | some s' => foldB g l s'
  | none => (false, s)
theorem foldB_O {σ α : Type} (g : σ -> α -> Option σ) : ∀ (l : List α) (s : σ), foldO g l s = bif (foldB g l s).1 then some (foldB g l s).2 else none
 | [], s => rfl
 | a :: l, s => by
  simp only [foldO, foldB]
  cases g s a with
  | none => rfl
  | some s' => exact foldB_O g l s'
theorem foldB_inv {σ α : Type} {g : σ -> α -> Option σ} {I : σ -> Prop} (hI : ∀ s a s', I s -> g s a = some s' -> I s') : ∀ (l : List α) (s : σ), I s -> I (foldB g l s).2
 | [], s, h => h
 | a :: l, s, h => by
  simp only [foldB]
  cases hg : g s a with
  | none => exact h
  | some s' => exact foldB_inv hI l s' (hI s a s' h hg)
theorem whileO_foldB {σ β D X : Type} {f : D -> Option (D ⊕ X)} {l : List β} {y0 : D} (z : β) (g : σ -> β -> Option σ) (I : σ -> Prop) {st : Nat -> σ -> D} {s0 : σ} (hy : y0 = st 0 s0) (h0 : I s0) (hI : ∀ s a s', I s -> g s a = some s' -> I s') (A B : σ -> X)
  (h1 : ∀ i s, i < l.length -> I s -> f (st i s) = some (elimO (g s (l.getD i z)) (fun s' => .inl (st (i + 1) s')) (.inr (B s)))) (h2 : ∀ s, I s -> f (st l.length s) = some (.inr (A s))) :
  whileO f y0 = some (bif (foldB g l s0).1 then A (foldB g l s0).2 else B (foldB g l s0).2) := by
 subst hy
 have key : ∀ (r : List β) (i : Nat) (s : σ), l.drop i = r -> i + r.length = l.length -> I s -> whileO f (st i s) = some (bif (foldB g r s).1 then A (foldB g r s).2 else B (foldB g r s).2) := by
  intro r
  induction r with
  | nil =>
   intro i s hd hi hs
   rw [whileO_eq, show i = l.length by simpa using hi, h2 s hs]
   rfl
  | cons a r ih =>
   intro i s hd hi hs
   have hlt : i < l.length := by simp at hi; omega
   have ha : l.getD i z = a := by
    have := congrArg (·[0]?) hd
    simp only [List.getElem?_drop, Nat.add_zero, List.getElem?_cons_zero] at this
    rw [List.getD_eq_getElem?_getD, this]; rfl
   have hdrop : l.drop (i + 1) = r := by
    have := congrArg (·.drop 1) hd
    simpa [List.drop_drop, Nat.add_comm] using this
   rw [whileO_eq, h1 i s hlt hs, ha]
   simp only [foldB]
   cases hg : g s a with
   | none => rfl
   | some s' => exact ih (i + 1) s' hdrop (by simp at hi; omega) (hI s a s' hs hg)
 exact key l 0 s0 rfl (by simp) h0
def Sp.iblkB (f : Fn) (b : Int) (s : DI) (x : Block) : Bool × DI :=
 if Sp.limOk x = true then (bif (foldB (Sp.idef b) x.params s).1 then (bif (foldB (Sp.iins f b) x.insts (foldB (Sp.idef b) x.params s).2).1
  then (Sp.iterm f (foldB (Sp.iins f b) x.insts (foldB (Sp.idef b) x.params s).2).2.2 x.term b, (foldB (Sp.iins f b) x.insts (foldB (Sp.idef b) x.params s).2).2)
  else (false, (foldB (Sp.iins f b) x.insts (foldB (Sp.idef b) x.params s).2).2)) else (false, (foldB (Sp.idef b) x.params s).2)) else (false, s)
theorem iblk_B (f : Fn) (b : Int) (s : DI) (x : Block) : Sp.iblk f b s x = bif (Sp.iblkB f b s x).1 then some (Sp.iblkB f b s x).2 else none := by
 unfold Sp.iblk Sp.iblkB
 by_cases h : Sp.limOk x = true
 rotate_left
 ·rw [if_neg h, if_neg h]; rfl
 rw [if_pos h, if_pos h, foldB_O]
 cases (foldB (Sp.idef b) x.params s).1 with
 | false => rfl
 | true =>
  simp only [cond_true, foldB_O]
  cases (foldB (Sp.iins f b) x.insts (foldB (Sp.idef b) x.params s).2).1 with
  | false => rfl
  | true =>
   simp only [cond_true]
   cases Sp.iterm f (foldB (Sp.iins f b) x.insts (foldB (Sp.idef b) x.params s).2).2.2 x.term b <;> rfl
def DIn (n : Nat) (s : DI) : Prop := s.1.length = n /\ s.2.length = n
theorem idef_in {n : Nat} {b : Int} : ∀ (s : DI) (v : Int) (s' : DI), DIn n s -> Sp.idef b s v = some s' -> DIn n s' := fun s v s' h e => by
 unfold Sp.idef at e
 split at e
 ·injection e with e; subst e; exact ⟨by simpa using h.1, by simpa using h.2⟩
 ·cases e
theorem iins_in {f : Fn} {n : Nat} {b : Int} : ∀ (s : DI) (x : Inst) (s' : DI), DIn n s -> Sp.iins f b s x = some s' -> DIn n s' := fun s x s' h e => by
 unfold Sp.iins at e
 repeat' split at e
 all_goals first | (cases e; done) | (injection e with e; exact e ▸ h) | exact idef_in s _ s' h e
section
variable {f : Fn} {b : Int} {d : List Bool} {k : List Int} {x : Block}
theorem loop851 (hx : x.ok) (hb : Bk b) (h : DIn f.widths.length (d, k)) : whileO go85_l1 (((), b, (), x.params, ((x.params.length : Nat) : Int), (0 : Int), ()), pkF f, d, k, x, ()) =
  some (bif (foldB (Sp.idef b) x.params (d, k)).1 then Sum.inl (((), b, (), ()), pkF f, (foldB (Sp.idef b) x.params (d, k)).2.1, (foldB (Sp.idef b) x.params (d, k)).2.2, x, ()) else Sum.inr ((false, ()), pkF f, (foldB (Sp.idef b) x.params (d, k)).2.1, (foldB (Sp.idef b) x.params (d, k)).2.2, ())) := by
 have hl := hx.1.len
 rw [lenVal] at hl
 unfold go85_l1
 refine whileO_foldB (l := x.params) 0 (Sp.idef b) (DIn f.widths.length) (st := fun i (s : DI) => (((), b, (), x.params, ((x.params.length : Nat) : Int), (i : Int), ()), pkF f, s.1, s.2, x, ())) (s0 := (d, k)) rfl h idef_in (fun s => Sum.inl (((), b, (), ()), pkF f, s.1, s.2, x, ())) (fun s => Sum.inr ((false, ()), pkF f, s.1, s.2, ())) (fun i s hi hs => ?_) (fun s hs => ?_)
 ·have hs' : s.2.length = s.1.length := by rw [hs.1, hs.2]
  simp only [Int.toNat_natCast, grd_ok (And.intro hb hs'), callB_some]
  unfold Sp.idef Sp.idefD Sp.idefK
  cases hq : Sp.idefOk s.1 (x.params.getD i 0) with
  | false =>
   simp only [Bool.false_eq_true, if_false, decide_true, Bool.and_true, grd_true]
   simp (maxSteps := 1000000) (disch := ((try dsimp only); omega)) only [↓gsA, gsB]
   rfl
  | true =>
   simp only [if_true, List.length_set, decide_true, Bool.and_true, grd_true]
   simp (maxSteps := 1000000) (disch := ((try dsimp only); omega)) only [↓gsA, gsB]
   rfl
 ·simp (maxSteps := 1000000) (disch := ((try dsimp only); omega)) only [↓gsA, gsB]
theorem loop852 (hx : x.ok) (hb : Bk b) (h : DIn f.widths.length (d, k)) : whileO go85_l2 (((), b, (), x.insts, ((x.insts.length : Nat) : Int), (0 : Int), ()), pkF f, d, k, x, ()) =
  some (bif (foldB (Sp.iins f b) x.insts (d, k)).1 then Sum.inl (((), b, (), ()), pkF f, (foldB (Sp.iins f b) x.insts (d, k)).2.1, (foldB (Sp.iins f b) x.insts (d, k)).2.2, x, ()) else Sum.inr ((false, ()), pkF f, (foldB (Sp.iins f b) x.insts (d, k)).2.1, (foldB (Sp.iins f b) x.insts (d, k)).2.2, ())) := by
 have hl := hx.2.1.len
 rw [lenVal] at hl
 unfold go85_l2 go85_j1
 refine whileO_foldB (l := x.insts) Inst.z (Sp.iins f b) (DIn f.widths.length) (st := fun i (s : DI) => (((), b, (), x.insts, ((x.insts.length : Nat) : Int), (i : Int), ()), pkF f, s.1, s.2, x, ())) (s0 := (d, k)) rfl h iins_in (fun s => Sum.inl (((), b, (), ()), pkF f, s.1, s.2, x, ())) (fun s => Sum.inr ((false, ()), pkF f, s.1, s.2, ())) (fun i s hi hs => ?_) (fun s hs => ?_)
 ·have hs' : s.2.length = s.1.length := by rw [hs.1, hs.2]
  have hy : (x.insts.getD i Inst.z).ok := getD_ok hx.2.1 _ hi
  dsimp only
  rw [Int.toNat_natCast]
  generalize x.insts.getD i Inst.z = y at hy ⊢
  have hal := hy.2.2.1.len
  simp only [grd_ok (And.intro hb hal), grd_ok (And.intro hb hs'), callB_some]
  unfold Sp.iins
  by_cases ha : Sp.arity y.op = (y.args.length : Int)
  rotate_left
  ·simp only [jpO_eq, if_neg ha, decide_eq_false ha]
   simp (maxSteps := 1000000) (disch := ((try dsimp only); omega)) only [↓gsA, gsB]
   rfl
  simp only [jpO_eq, if_pos ha, decide_eq_true ha]
  cases hu : Sp.iuses s.2 y.args b with
  | false =>
   simp (maxSteps := 1000000) (disch := ((try dsimp only); omega)) only [↓gsA, gsB]
   simp only [decide_true, Bool.and_true, grd_true]
   rfl
  | true =>
   have hw := iuses_W (f := f) hs.2 hal hu
   have pre : Sp.iwPre (mkF (pkF f)) y := ⟨by have := arity_le y.op; omega, hw.2, hy.2.2.2.1⟩
   simp only [grd_ok pre, callB_some, decide_true, Bool.and_true, grd_true, if_true]
   cases hq : Sp.iwid f y with
   | false =>
    simp (maxSteps := 1000000) (disch := ((try dsimp only); omega)) only [↓gsA, gsB]
    rfl
   | true =>
    cases hn : Sp.named y.op with
    | false =>
     simp (maxSteps := 1000000) (disch := ((try dsimp only); omega)) only [↓gsA, gsB]
     rfl
    | true =>
     unfold Sp.idef Sp.idefD Sp.idefK
     cases ho : Sp.idefOk s.1 y.dest with
     | false =>
      simp only [cond_true, cond_false, callB_some, Bool.not_true, grd_ok (And.intro hb hs'), Bool.false_eq_true, if_false, decide_true, Bool.and_true, grd_true]
      simp (maxSteps := 1000000) (disch := ((try dsimp only); omega)) only [↓gsA, gsB]
      rfl
     | true =>
      simp only [cond_true, cond_false, callB_some, Bool.not_true, grd_ok (And.intro hb hs'), if_true, List.length_set, decide_true, Bool.and_true, grd_true]
      simp (maxSteps := 1000000) (disch := ((try dsimp only); omega)) only [↓gsA, gsB]
      rfl
 ·simp (maxSteps := 1000000) (disch := ((try dsimp only); omega)) only [↓gsA, gsB]
theorem ok85 (x : Block) (b : Int) (f : Fn) (d : List Bool) (k : List Int) (h : x.ok /\ Bk b /\ DIn f.widths.length (d, k)) : go85 x b (pkF f) d k = some ((Sp.iblkB f b (d, k) x).1, pkF f, (Sp.iblkB f b (d, k) x).2.1, (Sp.iblkB f b (d, k) x).2.2, ()) := by
 obtain ⟨hx, hb, hd⟩ := h
 unfold go85 Sp.iblkB Sp.limOk
 by_cases a1 : 4096 < (x.insts.length : Int)
 ·simp [a1]
 by_cases a2 : x.pipeline < 0
 ·simp [a2, a1]
 by_cases a3 : 256 < x.pipeline
 ·simp [a3, a1, a2]
 by_cases a4 : x.unroll < 0
 ·simp [a4, a1, a2, a3]
 by_cases a5 : 64 < x.unroll
 ·simp [a5, a1, a2, a3, a4]
 by_cases a6 : x.line < 0
 ·simp [a6, a1, a2, a3, a4, a5]
 by_cases a7 : 2147483647 < x.line
 ·simp [a7, a1, a2, a3, a4, a5, a6]
 simp only [decide_eq_false a1, decide_eq_false a2, decide_eq_false a3, decide_eq_false a4, decide_eq_false a5, decide_eq_false a6, decide_eq_false a7, cond_false, Bool.not_false, Bool.and_self, if_true]
 refine callB_of (loop851 hx hb hd) ?_
 have i1 := foldB_inv (idef_in (b := b)) x.params (d, k) hd
 generalize foldB (Sp.idef b) x.params (d, k) = r1 at i1 ⊢
 obtain ⟨r, d1, k1⟩ := r1
 cases r with
 | false => rfl
 | true =>
  simp only [cond_true, sumO_inl]
  refine callB_of (loop852 hx hb i1) ?_
  have i2 := foldB_inv (iins_in (f := f) (b := b)) x.insts (d1, k1) i1
  generalize foldB (Sp.iins f b) x.insts (d1, k1) = r2 at i2 ⊢
  obtain ⟨r, d2, k2⟩ := r2
  cases r with
  | false => rfl
  | true =>
   simp only [cond_true, sumO_inl]
   have pre : Sp.itPre (mkF (pkF f)) k2 (Term.mk x.term.kind x.term.cond x.term.to x.term.rets) b := ⟨hx.2.2.1, hb, i2.2⟩
   rw [grd_ok pre]
   simp only [callB_some, decide_true, Bool.and_true, grd_true]
end
def c85 : Ctr Try.prog := mkCtr 85 Try.f85 Try.func85 [c13, c53, c121, c122, c123, c124] ann85 [(0, (.ptr 0 0)), (1, (.st 3)), (2, (.i .i64))] [(.cells 107 [.s, (.fz (.int .i64)), (.fz (.st 4)), (.fz (.st 5)), (.fz (.int .i64)), (.fz (.st 3)), (.full 1), (.full 2)]), (.lst 4 .bool), (.lst 3 (.int .i64))] .b [(.cells 107 [.s, (.fz (.int .i64)), (.fz (.st 4)), (.fz (.st 5)), (.fz (.int .i64)), (.fz (.st 3)), (.full 1), (.full 2)]), (.lst 4 .bool), (.lst 3 (.int .i64))] (fun x y => grd (okB (x.2.1.ok /\ Bk x.2.2.1 /\ DIn (mkF y.1).widths.length (y.2.1, y.2.2.1))) (some ((Sp.iblkB (mkF y.1) x.2.2.1 (y.2.1, y.2.2.1) x.2.1).1, y.1, (Sp.iblkB (mkF y.1) x.2.2.1 (y.2.1, y.2.2.1) x.2.1).2.1, (Sp.iblkB (mkF y.1) x.2.2.1 (y.2.1, y.2.2.1) x.2.1).2.2, ())))
 (fun x y r h => FO (run85 x.2.1 x.2.2.1 y.1 y.2.1 y.2.2.1) (ok85 x.2.1 x.2.2.1 (mkF y.1) y.2.1 y.2.2.1) h)
end
end Go.Abs
namespace Go.Abs
open Go Go.Proofs
noncomputable section
def Sp.bit (b : Bool) : Int := if b = true then 1 else 0
def Sp.bitsN (y n : Nat) : List Int := (List.range n).map fun i => Sp.bit (y.testBit i)
theorem bitsN_len (y n : Nat) : (Sp.bitsN y n).length = n := by simp [Sp.bitsN]
theorem bitsN_get {y n i : Nat} (h : i < n) : (Sp.bitsN y n).getD i 0 = Sp.bit (y.testBit i) := by simp [Sp.bitsN, List.getD_eq_getElem?_getD, h]
theorem bit_nat (y i : Nat) : Sp.bit (y.testBit i) = ((y / 2 ^ i % 2 : Nat) : Int) := by
 rw [Nat.testBit_eq_decide_div_mod_eq]
 rcases Nat.mod_two_eq_zero_or_one (y / 2 ^ i) with h | h <;> simp [Sp.bit, h]
theorem half_nat {m : Nat} (h : m < 18446744073709551616) : ∀ k, Sp.half m k = ((m / 2 ^ k : Nat) : Int)
 | 0 => by simp [Sp.half]
 | k + 1 => by
  have h1 : m / 2 ^ k / 2 <= m := Nat.le_trans (Nat.div_le_self _ _) (Nat.div_le_self _ _)
  simp only [Sp.half, half_nat h k]
  rw [Nat.pow_succ, <- Nat.div_div_eq_div_mul]
  generalize m / 2 ^ k = q at *
  rw [Int.tdiv_eq_ediv_of_nonneg (by omega), wrap64]
  omega
theorem bitsL_nat {x : Int} (hx : U64 x) (n : Nat) : Sp.bitsL x n = Sp.bitsN x.toNat n := by
 obtain ⟨m, rfl⟩ := Int.eq_ofNat_of_zero_le hx.1
 have hm : m < 18446744073709551616 := by have := hx.2; omega
 simp only [Sp.bitsL, Sp.bitsN, Int.toNat_natCast]
 refine List.map_congr_left fun i _ => ?_
 rw [half_nat hm, bit_nat, Int.tmod_eq_emod_of_nonneg (Int.natCast_nonneg _)]
 exact (Int.natCast_emod _ _).symm
theorem wd_bits {y n : Nat} (hn : n <= 64) : ∀ k, k <= n -> Sp.wd (Sp.bitsN y n) k = (((y % 2 ^ n) / 2 ^ (n - k) : Nat) : Int)
 | 0, _ => by
  have : y % 2 ^ n / 2 ^ n = 0 := Nat.div_eq_of_lt (Nat.mod_lt _ (Nat.two_pow_pos n))
  simp [Sp.wd, this]
 | k + 1, h => by
  have ih := wd_bits (y := y) hn k (by omega)
  simp only [Sp.wd, ih, bitsN_len]
  rw [bitsN_get (by omega), show n - 1 - k = n - (k + 1) by omega]
  have e1 : y.testBit (n - (k + 1)) = (y % 2 ^ n).testBit (n - (k + 1)) := by rw [Nat.testBit_mod_two_pow]; simp; omega
  rw [e1, bit_nat]
  have h1 : y % 2 ^ n < 2 ^ 64 := Nat.lt_of_lt_of_le (Nat.mod_lt _ (Nat.two_pow_pos n)) (Nat.pow_le_pow_right (by decide) hn)
  generalize y % 2 ^ n = z at *
  have e2 : z / 2 ^ (n - k) = z / 2 ^ (n - (k + 1)) / 2 := by
   rw [Nat.div_div_eq_div_mul, <- Nat.pow_succ, show (n - (k + 1)).succ = n - k by omega]
  rw [e2]
  have h2 : z / 2 ^ (n - (k + 1)) <= z := Nat.div_le_self _ _
  generalize z / 2 ^ (n - (k + 1)) = q at *
  rw [wrap64, wrap64, wrap64]
  omega
theorem wd_word {y n : Nat} (hn : n <= 64) : Sp.wd (Sp.bitsN y n) n = ((y % 2 ^ n : Nat) : Int) := by
 rw [wd_bits hn n (Nat.le_refl _)]; simp
theorem low_nat (w : Int) (m : Nat) : Sp.low w m = ((m % 2 ^ Sp.wn w : Nat) : Int) := by unfold Sp.low Sp.pw; exact (Int.natCast_emod _ _).symm
theorem fit_low {w x : Int} (hx : U64 x) : Sp.fit w x = Sp.low w x := by
 unfold Sp.fit
 rw [bitsL_len, bitsL_nat hx]
 show Sp.wd (Sp.bitsN x.toNat (Sp.wn w)) (Sp.wn w) = _
 rw [wd_word (wn_le w), <- low_nat]
 congr 1
 have := hx.1; omega
end
end Go.Abs
