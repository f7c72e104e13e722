/-
What functions compute: memories.
No statement of the program is proved here.
-/
import Derived.Test.YtlcholjffgaemaaV3
set_option linter.unusedVariables false
set_option linter.unusedSectionVars false
set_option linter.unusedSimpArgs false
set_option maxHeartbeats 1000000
namespace Go.Abs
open Go Go.Proofs
noncomputable section
def ann45 : Ann := (.seq .o (.seq .o (.join ⟨[(1, (.ptr 0 0)), (3, (.full 1))], [(.box 30 (.st 6)), (.lst 9 .str)]⟩ (.seq .o (.block (.loop ⟨[(1, (.ptr 0 0)), (3, (.full 1)), (4, (.i .i64))], [(.box 30 (.st 6)), (.lst 9 .str)]⟩ [((.exit 0), ⟨[(1, (.ptr 0 0)), (3, (.full 1))], [(.box 30 (.st 6)), (.lst 9 .str)]⟩), (.ret, ⟨[(2, .b)], []⟩)] (.join ⟨[(1, (.ptr 0 0)), (3, (.full 1)), (4, (.i .i64))], [(.box 30 (.st 6)), (.lst 9 .str)]⟩ (.seq .o (.cond .o .o)) (.join ⟨[(1, (.ptr 0 0)), (3, (.full 1)), (4, (.i .i64))], [(.box 30 (.st 6)), (.lst 9 .str)]⟩ (.block (.seq .o (.seq .o (.join ⟨[(1, (.ptr 0 0)), (3, (.full 1)), (4, (.i .i64)), (5, (.ptr 2 0))], [(.box 30 (.st 6)), (.lst 9 .str), (.box 53 (.st 4))]⟩ (.seq .o (.cond (.seq .o .o) .o)) (.seq .o (.block (.join ⟨[(1, (.ptr 0 0)), (3, (.full 1)), (4, (.i .i64)), (5, (.ptr 2 0)), (41, (.i .i64)), (42, .b)], [(.box 30 (.st 6)), (.lst 9 .str), (.box 53 (.st 4))]⟩ (.seq .o (.cond .o .o)) (.cond (.seq .o (.cond (.seq .o .o) .o)) (.join ⟨[(1, (.ptr 0 0)), (3, (.full 1)), (4, (.i .i64)), (5, (.ptr 2 0)), (58, .b)], [(.box 30 (.st 6)), (.lst 9 .str), (.box 53 (.st 4))]⟩ (.seq .o (.cond .o .o)) (.cond (.seq .o (.cond (.seq .o .o) .o)) (.seq .o .o))))))))))) .o))))) (.join ⟨[(1, (.ptr 0 0)), (3, (.full 1))], [(.box 30 (.st 6)), (.lst 9 .str)]⟩ (.seq .o (.block (.loop ⟨[(1, (.ptr 0 0)), (3, (.full 1)), (6, (.i .i64))], [(.box 30 (.st 6)), (.lst 9 .str)]⟩ [((.exit 3), ⟨[(1, (.ptr 0 0)), (3, (.full 1))], [(.box 30 (.st 6)), (.lst 9 .str)]⟩), (.ret, ⟨[(2, .b)], []⟩)] (.join ⟨[(1, (.ptr 0 0)), (3, (.full 1)), (6, (.i .i64))], [(.box 30 (.st 6)), (.lst 9 .str)]⟩ (.seq .o (.cond .o .o)) (.join ⟨[(1, (.ptr 0 0)), (3, (.full 1)), (6, (.i .i64))], [(.box 30 (.st 6)), (.lst 9 .str)]⟩ (.block (.seq .o (.seq .o (.cond (.seq .o .o) .o)))) .o))))) (.join ⟨[(1, (.ptr 0 0))], [(.box 30 (.st 6))]⟩ (.seq .o (.block (.loop ⟨[(1, (.ptr 0 0)), (3, (.full 1)), (7, (.i .i64))], [(.box 30 (.st 6)), (.lst 9 .str)]⟩ [((.exit 5), ⟨[(1, (.ptr 0 0))], [(.box 30 (.st 6))]⟩), (.ret, ⟨[(2, .b)], []⟩)] (.join ⟨[(1, (.ptr 0 0)), (3, (.full 1)), (7, (.i .i64))], [(.box 30 (.st 6)), (.lst 9 .str)]⟩ (.seq .o (.cond .o .o)) (.join ⟨[(1, (.ptr 0 0)), (3, (.full 1)), (7, (.i .i64))], [(.box 30 (.st 6)), (.lst 9 .str)]⟩ (.block (.join ⟨[(1, (.ptr 0 0)), (3, (.full 1)), (7, (.i .i64))], [(.box 30 (.st 6)), (.lst 9 .str)]⟩ (.seq .o (.cond (.seq .o .o) .o)) (.seq .o (.block (.loop ⟨[(1, (.ptr 0 0)), (3, (.full 1)), (7, (.i .i64)), (8, (.i .i64))], [(.box 30 (.st 6)), (.lst 9 .str)]⟩ [((.exit 7), ⟨[(1, (.ptr 0 0)), (3, (.full 1)), (7, (.i .i64))], [(.box 30 (.st 6)), (.lst 9 .str)]⟩), (.ret, ⟨[(2, .b)], []⟩)] (.join ⟨[(1, (.ptr 0 0)), (3, (.full 1)), (7, (.i .i64)), (8, (.i .i64))], [(.box 30 (.st 6)), (.lst 9 .str)]⟩ (.seq .o (.cond .o .o)) (.join ⟨[(1, (.ptr 0 0)), (3, (.full 1)), (7, (.i .i64)), (8, (.i .i64))], [(.box 30 (.st 6)), (.lst 9 .str)]⟩ (.block (.seq .o (.cond (.seq .o .o) .o))) .o))))))) .o))))) (.seq .o .o))))))
def go45_l4 : ((Unit × (Unit × (Int × (Int × Unit)))) × (Fn × ((List ByteArray) × Unit))) → Option (((Unit × (Unit × (Int × (Int × Unit)))) × (Fn × ((List ByteArray) × Unit))) ⊕ (((Unit × (Unit × (Int × Unit))) × (Fn × ((List ByteArray) × Unit))) ⊕ ((Bool × Unit) × Unit))) := (fun (r2 : ((Unit × (Unit × (Int × (Int × Unit)))) × (Fn × ((List ByteArray) × Unit)))) => (bif (decide (r2.1.2.2.2.1 < r2.1.2.2.1)) then
      (grd (okB (((0 : Int) ≤ r2.1.2.2.2.1) ∧ (r2.1.2.2.2.1 < ((r2.2.2.1.length : Nat) : Int))))
        (grd (Nat.blt r2.1.2.2.2.1.toNat r2.2.2.1.length)
          (grd (okB (((0 : Int) ≤ r2.1.2.2.1) ∧ (r2.1.2.2.1 < ((r2.2.2.1.length : Nat) : Int))))
            (grd (Nat.blt r2.1.2.2.1.toNat r2.2.2.1.length)
              (bif ((ByteArray.toList (r2.2.2.1.getD r2.1.2.2.2.1.toNat ByteArray.empty)) == (ByteArray.toList (r2.2.2.1.getD r2.1.2.2.1.toNat ByteArray.empty))) then
                (some (Sum.inr (Sum.inr ((false, ()), ()))))
                else
                (grd (okB (((-(9223372036854775808 : Int)) ≤ (r2.1.2.2.2.1 + (1 : Int))) ∧ ((r2.1.2.2.2.1 + (1 : Int)) ≤ (9223372036854775807 : Int))))
                  (some (Sum.inl (((), ((), (r2.1.2.2.1, ((r2.1.2.2.2.1 + (1 : Int)), ())))), (r2.2.1, (r2.2.2.1, ())))))))))))
      else
      (some (Sum.inr (Sum.inl (((), ((), (r2.1.2.2.1, ()))), (r2.2.1, (r2.2.2.1, ()))))))))
def go45_l3 : ((Unit × (Unit × (Int × Unit))) × (Fn × ((List ByteArray) × Unit))) → Option (((Unit × (Unit × (Int × Unit))) × (Fn × ((List ByteArray) × Unit))) ⊕ (((Unit × Unit) × (Fn × Unit)) ⊕ ((Bool × Unit) × Unit))) := (fun (r0 : ((Unit × (Unit × (Int × Unit))) × (Fn × ((List ByteArray) × Unit)))) => (bif (decide (r0.1.2.2.1 < ((r0.2.2.1.length : Nat) : Int))) then
      (grd (okB (((0 : Int) ≤ r0.1.2.2.1) ∧ (r0.1.2.2.1 < ((r0.2.2.1.length : Nat) : Int))))
        (grd (Nat.blt r0.1.2.2.1.toNat r0.2.2.1.length)
          (callB (grd (okB ((ByteArray.size (r0.2.2.1.getD r0.1.2.2.1.toNat ByteArray.empty)) ≤ (9223372036854775807 : Nat)))
              (some ((Sp.ident (r0.2.2.1.getD r0.1.2.2.1.toNat ByteArray.empty)), ())))
            (fun (r1 : (Bool × Unit)) => (bif (!r1.1) then
                (some (Sum.inr (Sum.inr ((false, ()), ()))))
                else
                (callB (whileO (go45_l4) (((), ((), (r0.1.2.2.1, ((0 : Int), ())))), (r0.2.1, (r0.2.2.1, ()))))
                  (fun (z4 : (((Unit × (Unit × (Int × Unit))) × (Fn × ((List ByteArray) × Unit))) ⊕ ((Bool × Unit) × Unit))) => (sumO (fun (z5 : ((Unit × (Unit × (Int × Unit))) × (Fn × ((List ByteArray) × Unit)))) => (grd (okB (((-(9223372036854775808 : Int)) ≤ (z5.1.2.2.1 + (1 : Int))) ∧ ((z5.1.2.2.1 + (1 : Int)) ≤ (9223372036854775807 : Int))))
                          (some (Sum.inl (((), ((), ((z5.1.2.2.1 + (1 : Int)), ()))), (z5.2.1, (z5.2.2.1, ())))))))
                      (fun (z5 : ((Bool × Unit) × Unit)) => (some (Sum.inr (Sum.inr ((z5.1.1, ()), ()))))) z4))))))))
      else
      (some (Sum.inr (Sum.inl (((), ()), (r0.2.1, ())))))))
def go45_l2 : ((Unit × (Unit × (Int × Unit))) × (Fn × ((List ByteArray) × Unit))) → Option (((Unit × (Unit × (Int × Unit))) × (Fn × ((List ByteArray) × Unit))) ⊕ (((Unit × (Unit × Unit)) × (Fn × ((List ByteArray) × Unit))) ⊕ ((Bool × Unit) × Unit))) := (fun (r0 : ((Unit × (Unit × (Int × Unit))) × (Fn × ((List ByteArray) × Unit)))) => (bif (decide (r0.1.2.2.1 < ((r0.2.1.streams.length : Nat) : Int))) then
      (grd (okB (((0 : Int) ≤ r0.1.2.2.1) ∧ (r0.1.2.2.1 < ((r0.2.1.streams.length : Nat) : Int))))
        (grd (okB ((((r0.2.2.1.length + 1) * (16 : Nat)) ≤ (140737488355328 : Nat)) ∧ ((r0.2.2.1.length + 1) ≤ (281474976710656 : Nat))))
          (grd (okB (((0 : Int) ≤ r0.1.2.2.1) ∧ (r0.1.2.2.1 < ((r0.2.1.streams.length : Nat) : Int))))
            (bif (!(Sp.right (r0.2.1.streams.getD r0.1.2.2.1.toNat Strm.z).width)) then
              (some (Sum.inr (Sum.inr ((false, ()), ()))))
              else
              (grd (okB (((-(9223372036854775808 : Int)) ≤ (r0.1.2.2.1 + (1 : Int))) ∧ ((r0.1.2.2.1 + (1 : Int)) ≤ (9223372036854775807 : Int))))
                (some (Sum.inl (((), ((), ((r0.1.2.2.1 + (1 : Int)), ()))), (r0.2.1, ((r0.2.2.1 ++ ((r0.2.1.streams.getD r0.1.2.2.1.toNat Strm.z).name :: ([] : List ByteArray))), ()))))))))))
      else
      (some (Sum.inr (Sum.inl (((), ((), ())), (r0.2.1, (r0.2.2.1, ()))))))))
def go45_j3 (j0 : (((Unit × (Unit × (Int × Unit))) × (Fn × ((List ByteArray) × Unit))) → (Option (((Unit × (Unit × (Int × Unit))) × (Fn × ((List ByteArray) × Unit))) ⊕ (((Unit × (Unit × Unit)) × (Fn × ((List ByteArray) × Unit))) ⊕ ((Bool × Unit) × Unit)))))) : ((Unit × (Unit × (Int × (Unit × (Bool × Unit))))) × (Fn × ((List ByteArray) × (Arr × Unit)))) → Option (((Unit × (Unit × (Int × Unit))) × (Fn × ((List ByteArray) × Unit))) ⊕ (((Unit × (Unit × Unit)) × (Fn × ((List ByteArray) × Unit))) ⊕ ((Bool × Unit) × Unit))) := (fun (z1 : ((Unit × (Unit × (Int × (Unit × (Bool × Unit))))) × (Fn × ((List ByteArray) × (Arr × Unit))))) => (bif z1.1.2.2.2.2.1 then
      (bif (decide (z1.2.2.2.1.factor < (1 : Int))) then
        (some (Sum.inr (Sum.inr ((false, ()), ()))))
        else
        (bif (decide ((if ((64 : Int) < z1.2.2.2.1.len) then (64 : Int) else z1.2.2.2.1.len) < z1.2.2.2.1.factor)) then
          (some (Sum.inr (Sum.inr ((false, ()), ()))))
          else
          (j0 (((), ((), (z1.1.2.2.1, ()))), (z1.2.1, (z1.2.2.1, ()))))))
      else
      (some (Sum.inr (Sum.inr ((false, ()), ()))))))
def go45_j2 (j0 : (((Unit × (Unit × (Int × Unit))) × (Fn × ((List ByteArray) × Unit))) → (Option (((Unit × (Unit × (Int × Unit))) × (Fn × ((List ByteArray) × Unit))) ⊕ (((Unit × (Unit × Unit)) × (Fn × ((List ByteArray) × Unit))) ⊕ ((Bool × Unit) × Unit)))))) : ((Unit × (Unit × (Int × (Unit × (Int × (Bool × Unit)))))) × (Fn × ((List ByteArray) × (Arr × Unit)))) → Option (((Unit × (Unit × (Int × Unit))) × (Fn × ((List ByteArray) × Unit))) ⊕ (((Unit × (Unit × Unit)) × (Fn × ((List ByteArray) × Unit))) ⊕ ((Bool × Unit) × Unit))) := (fun (z0 : ((Unit × (Unit × (Int × (Unit × (Int × (Bool × Unit)))))) × (Fn × ((List ByteArray) × (Arr × Unit))))) => (bif z0.1.2.2.2.2.2.1 then
      (bif (!(decide (z0.2.2.2.1.factor = (0 : Int)))) then
        (some (Sum.inr (Sum.inr ((false, ()), ()))))
        else
        (bif (decide (z0.2.2.2.1.kind = (3 : Int))) then
          (bif (decide ((64 : Int) < z0.2.2.2.1.len)) then
            (some (Sum.inr (Sum.inr ((false, ()), ()))))
            else
            (j0 (((), ((), (z0.1.2.2.1, ()))), (z0.2.1, (z0.2.2.1, ())))))
          else
          (j0 (((), ((), (z0.1.2.2.1, ()))), (z0.2.1, (z0.2.2.1, ()))))))
      else
      (jpO (go45_j3 j0)
        (fun (j1 : (((Unit × (Unit × (Int × (Unit × (Bool × Unit))))) × (Fn × ((List ByteArray) × (Arr × Unit)))) → (Option (((Unit × (Unit × (Int × Unit))) × (Fn × ((List ByteArray) × Unit))) ⊕ (((Unit × (Unit × Unit)) × (Fn × ((List ByteArray) × Unit))) ⊕ ((Bool × Unit) × Unit)))))) => (bif (decide (z0.1.2.2.2.2.1 = (1 : Int))) then
            (j1 (((), ((), (z0.1.2.2.1, ((), (true, ()))))), (z0.2.1, (z0.2.2.1, (z0.2.2.2.1, ())))))
            else
            (j1 (((), ((), (z0.1.2.2.1, ((), ((decide (z0.1.2.2.2.2.1 = (2 : Int))), ()))))), (z0.2.1, (z0.2.2.1, (z0.2.2.2.1, ()))))))))))
def go45_j1 : ((Unit × (Unit × (Int × Unit))) × (Fn × ((List ByteArray) × Unit))) → Option (((Unit × (Unit × (Int × Unit))) × (Fn × ((List ByteArray) × Unit))) ⊕ (((Unit × (Unit × Unit)) × (Fn × ((List ByteArray) × Unit))) ⊕ ((Bool × Unit) × Unit))) := (fun (z0 : ((Unit × (Unit × (Int × Unit))) × (Fn × ((List ByteArray) × Unit)))) => (grd (okB (((-(9223372036854775808 : Int)) ≤ (z0.1.2.2.1 + (1 : Int))) ∧ ((z0.1.2.2.1 + (1 : Int)) ≤ (9223372036854775807 : Int))))
      (some (Sum.inl (((), ((), ((z0.1.2.2.1 + (1 : Int)), ()))), (z0.2.1, (z0.2.2.1, ())))))))
def go45_l1 : ((Unit × (Unit × (Int × Unit))) × (Fn × ((List ByteArray) × Unit))) → Option (((Unit × (Unit × (Int × Unit))) × (Fn × ((List ByteArray) × Unit))) ⊕ (((Unit × (Unit × Unit)) × (Fn × ((List ByteArray) × Unit))) ⊕ ((Bool × Unit) × Unit))) := (fun (r0 : ((Unit × (Unit × (Int × Unit))) × (Fn × ((List ByteArray) × Unit)))) => (bif (decide (r0.1.2.2.1 < ((r0.2.1.arrays.length : Nat) : Int))) then
      (jpO (go45_j1)
        (fun (j0 : (((Unit × (Unit × (Int × Unit))) × (Fn × ((List ByteArray) × Unit))) → (Option (((Unit × (Unit × (Int × Unit))) × (Fn × ((List ByteArray) × Unit))) ⊕ (((Unit × (Unit × Unit)) × (Fn × ((List ByteArray) × Unit))) ⊕ ((Bool × Unit) × Unit)))))) => (grd (okB (((0 : Int) ≤ r0.1.2.2.1) ∧ (r0.1.2.2.1 < ((r0.2.1.arrays.length : Nat) : Int))))
            (grd (okB ((((r0.2.2.1.length + 1) * (16 : Nat)) ≤ (140737488355328 : Nat)) ∧ ((r0.2.2.1.length + 1) ≤ (281474976710656 : Nat))))
              (bif (!(Sp.right (r0.2.1.arrays.getD r0.1.2.2.1.toNat Arr.z).width)) then
                (some (Sum.inr (Sum.inr ((false, ()), ()))))
                else
                (bif (decide ((r0.2.1.arrays.getD r0.1.2.2.1.toNat Arr.z).len < (1 : Int))) then
                  (some (Sum.inr (Sum.inr ((false, ()), ()))))
                  else
                  (bif (decide ((4096 : Int) < (r0.2.1.arrays.getD r0.1.2.2.1.toNat Arr.z).len)) then
                    (some (Sum.inr (Sum.inr ((false, ()), ()))))
                    else
                    (jpO (go45_j2 j0)
                      (fun (j1 : (((Unit × (Unit × (Int × (Unit × (Int × (Bool × Unit)))))) × (Fn × ((List ByteArray) × (Arr × Unit)))) → (Option (((Unit × (Unit × (Int × Unit))) × (Fn × ((List ByteArray) × Unit))) ⊕ (((Unit × (Unit × Unit)) × (Fn × ((List ByteArray) × Unit))) ⊕ ((Bool × Unit) × Unit)))))) => (bif (decide ((r0.2.1.arrays.getD r0.1.2.2.1.toNat Arr.z).kind = (0 : Int))) then
                          (j1 (((), ((), (r0.1.2.2.1, ((), ((r0.2.1.arrays.getD r0.1.2.2.1.toNat Arr.z).kind, (true, ())))))), (r0.2.1, ((r0.2.2.1 ++ ((r0.2.1.arrays.getD r0.1.2.2.1.toNat Arr.z).name :: ([] : List ByteArray))), ((r0.2.1.arrays.getD r0.1.2.2.1.toNat Arr.z), ())))))
                          else
                          (j1 (((), ((), (r0.1.2.2.1, ((), ((r0.2.1.arrays.getD r0.1.2.2.1.toNat Arr.z).kind, ((decide ((r0.2.1.arrays.getD r0.1.2.2.1.toNat Arr.z).kind = (3 : Int))), ())))))), (r0.2.1, ((r0.2.2.1 ++ ((r0.2.1.arrays.getD r0.1.2.2.1.toNat Arr.z).name :: ([] : List ByteArray))), ((r0.2.1.arrays.getD r0.1.2.2.1.toNat Arr.z), ())))))))))))))))
      else
      (some (Sum.inr (Sum.inl (((), ((), ())), (r0.2.1, (r0.2.2.1, ()))))))))
def go45 (x0 : Fn) : (Option (Bool × Unit)) :=
  (callB (whileO (go45_l1) (((), ((), ((0 : Int), ()))), (x0, (([] : List ByteArray), ()))))
    (fun (z0 : (((Unit × (Unit × Unit)) × (Fn × ((List ByteArray) × Unit))) ⊕ ((Bool × Unit) × Unit))) => (sumO (fun (z1 : ((Unit × (Unit × Unit)) × (Fn × ((List ByteArray) × Unit)))) => (callB (whileO (go45_l2) (((), ((), ((0 : Int), ()))), (z1.2.1, (z1.2.2.1, ()))))
            (fun (z2 : (((Unit × (Unit × Unit)) × (Fn × ((List ByteArray) × Unit))) ⊕ ((Bool × Unit) × Unit))) => (sumO (fun (z3 : ((Unit × (Unit × Unit)) × (Fn × ((List ByteArray) × Unit)))) => (callB (whileO (go45_l3) (((), ((), ((0 : Int), ()))), (z3.2.1, (z3.2.2.1, ()))))
                    (fun (z4 : (((Unit × Unit) × (Fn × Unit)) ⊕ ((Bool × Unit) × Unit))) => (sumO (fun (z5 : ((Unit × Unit) × (Fn × Unit))) => (bif (decide (((z5.2.1.arrays.length : Nat) : Int) ≤ (64 : Int))) then
                            (some ((decide (((z5.2.1.streams.length : Nat) : Int) ≤ (64 : Int))), ()))
                            else
                            (some (false, ()))))
                        (fun (z5 : ((Bool × Unit) × Unit)) => (some (z5.1.1, ()))) z4))))
                (fun (z3 : ((Bool × Unit) × Unit)) => (some (z3.1.1, ()))) z2))))
        (fun (z1 : ((Bool × Unit) × Unit)) => (some (z1.1.1, ()))) z0)))
theorem run45 (x0 : Fn) : runF (P := Try.prog) [c44, c92] Try.f45 ann45 [(0, (.st 6))] [] .b [] (x0, ()) () = go45 x0 := by kernel_rfl
def Sp.kindsOk (a : Arr) : Bool :=
  if a.kind = 0 ∨ a.kind = 3 then decide (a.factor = 0) && !(decide (a.kind = 3) && decide (64 < a.len))
  else if a.kind = 1 ∨ a.kind = 2 then !decide (a.factor < 1) && !decide ((if 64 < a.len then 64 else a.len) < a.factor) else false
def Sp.arrOk (a : Arr) : Bool := (Sp.right a.width && !decide (a.len < 1) && !decide (4096 < a.len)) && Sp.kindsOk a
def Fn.names (f : Fn) : List ByteArray := f.arrays.map Arr.name ++ f.streams.map Strm.name
def nameAt (l : List ByteArray) (i : Nat) : ByteArray := l.getD i ByteArray.empty
def Sp.nameOk (l : List ByteArray) (i : Nat) : Bool := Sp.ident (nameAt l i) && (List.range i).all fun k => !((nameAt l k).toList == (nameAt l i).toList)
def Sp.memOk (f : Fn) : Bool := f.arrays.all Sp.arrOk && (f.streams.all (fun s => Sp.right s.width) && ((List.range f.names.length).all (Sp.nameOk f.names) && (decide ((f.arrays.length : Int) ≤ 64) && decide ((f.streams.length : Int) ≤ 64))))
abbrev aNames (f : Fn) (i : Nat) : List ByteArray := (f.arrays.take i).map Arr.name
abbrev sNames (f : Fn) (i : Nat) : List ByteArray := f.arrays.map Arr.name ++ (f.streams.take i).map Strm.name
theorem arr_cases {β : Type} (a : Arr) (A B : β) : (bif Sp.right a.width then if a.len < 1 then B else if 4096 < a.len then B else if a.kind = 0 then (if a.factor = 0 then A else B) else if a.kind = 3 then (if a.factor = 0 then if 64 < a.len then B else A else B)
      else if a.kind = 1 then (if a.factor < 1 then B else if (if 64 < a.len then 64 else a.len) < a.factor then B else A) else if a.kind = 2 then (if a.factor < 1 then B else if (if 64 < a.len then 64 else a.len) < a.factor then B else A) else B else B) = if Sp.arrOk a = true then A else B := by
  unfold Sp.arrOk Sp.kindsOk
  cases Sp.right a.width
  · simp
  · simp only [cond_true, Bool.true_and]
    grind
theorem names_loop {f : Fn} {i : Nat} (hi : i < f.names.length) (hnl : f.names.length ≤ 281474976710656) : whileO go45_l4
    (((), (), (i : Int), 0, ()), f, f.names, ()) = some (if (List.range i).all (fun k => !((f.names.getD k ByteArray.empty).toList == (f.names.getD i ByteArray.empty).toList)) then .inl (((), (), (i : Int), ()), f, f.names, ()) else .inr ((false, ()), ())) := by
  unfold go45_l4
  refine whileO_all (l := List.range i) (st := fun k => (((), (), (i : Int), (k : Int), ()), f, f.names, ())) rfl 0 (fun k => !((f.names.getD k ByteArray.empty).toList == (f.names.getD i ByteArray.empty).toList)) (fun k hk hp => ?_) (fun k hk hp => ?_) (fun _ => ?_)
  · rw [List.length_range] at hk
    rw [range_getD hk] at hp
    simp (maxSteps := 1000000) (disch := ((try dsimp only); omega)) only [↓grd_dec, ↓grd_blt, ↓grd_true, ↓jpO_eq, ↓callB_some, ↓callB_grd, ↓bif_decide, ↓sumO_inl, ↓sumO_inr, ↓if_pos, ↓if_neg, ↓cond_true, ↓cond_false, ↓bif_not, Int.toNat_natCast, Bool.not_true, Bool.not_false, decide_true, decide_false, Bool.false_eq_true, ↓if_true, ↓if_false, Int.natCast_add, Int.cast_ofNat_Int, Bool.not_eq_true', decide_eq_false_iff_not, not_true_eq_false, not_false_eq_true]
    rw [Bool.not_eq_true'] at hp
    rw [hp]
    simp (maxSteps := 1000000) (disch := ((try dsimp only); omega)) only [↓grd_dec, ↓grd_blt, ↓grd_true, ↓jpO_eq, ↓callB_some, ↓callB_grd, ↓bif_decide, ↓sumO_inl, ↓sumO_inr, ↓if_pos, ↓if_neg, ↓cond_true, ↓cond_false, ↓bif_not, Int.toNat_natCast, Bool.not_true, Bool.not_false, decide_true, decide_false, Bool.false_eq_true, ↓if_true, ↓if_false, Int.natCast_add, Int.cast_ofNat_Int, Bool.not_eq_true', decide_eq_false_iff_not, not_true_eq_false, not_false_eq_true]
  · rw [List.length_range] at hk
    rw [range_getD hk] at hp
    simp (maxSteps := 1000000) (disch := ((try dsimp only); omega)) only [↓grd_dec, ↓grd_blt, ↓grd_true, ↓jpO_eq, ↓callB_some, ↓callB_grd, ↓bif_decide, ↓sumO_inl, ↓sumO_inr, ↓if_pos, ↓if_neg, ↓cond_true, ↓cond_false, ↓bif_not, Int.toNat_natCast, Bool.not_true, Bool.not_false, decide_true, decide_false, Bool.false_eq_true, ↓if_true, ↓if_false, Int.natCast_add, Int.cast_ofNat_Int, Bool.not_eq_true', decide_eq_false_iff_not, not_true_eq_false, not_false_eq_true]
    rw [Bool.not_eq_false'] at hp
    rw [hp]
    simp (maxSteps := 1000000) (disch := ((try dsimp only); omega)) only [↓grd_dec, ↓grd_blt, ↓grd_true, ↓jpO_eq, ↓callB_some, ↓callB_grd, ↓bif_decide, ↓sumO_inl, ↓sumO_inr, ↓if_pos, ↓if_neg, ↓cond_true, ↓cond_false, ↓bif_not, Int.toNat_natCast, Bool.not_true, Bool.not_false, decide_true, decide_false, Bool.false_eq_true, ↓if_true, ↓if_false, Int.natCast_add, Int.cast_ofNat_Int, Bool.not_eq_true', decide_eq_false_iff_not, not_true_eq_false, not_false_eq_true]
  · rw [List.length_range]; simp (maxSteps := 1000000) (disch := ((try dsimp only); omega)) only [↓grd_dec, ↓grd_blt, ↓grd_true, ↓jpO_eq, ↓callB_some, ↓callB_grd, ↓bif_decide, ↓sumO_inl, ↓sumO_inr, ↓if_pos, ↓if_neg, ↓cond_true, ↓cond_false, ↓bif_not, Int.toNat_natCast, Bool.not_true, Bool.not_false, decide_true, decide_false, Bool.false_eq_true, ↓if_true, ↓if_false, Int.natCast_add, Int.cast_ofNat_Int, Bool.not_eq_true', decide_eq_false_iff_not, not_true_eq_false, not_false_eq_true]
theorem arrays_loop (f : Fn) (hf : f.ok) : whileO go45_l1 (((), (), 0, ()), f, [], ()) = some (if f.arrays.all Sp.arrOk then .inl (((), (), ()), f, aNames f f.arrays.length, ()) else .inr ((false, ()), ())) := by
  have ha : f.arrays.length * 48 ≤ 140737488351232 := hf.2.2.1.1
  unfold go45_l1 go45_j1 go45_j2 go45_j3
  refine whileO_all (l := f.arrays) (st := fun i => (((), (), (i : Int), ()), f, aNames f i, ())) rfl Arr.z Sp.arrOk (fun i hi hp => ?_) (fun i hi hp => ?_) (fun _ => ?_)
  · have hlen : (aNames f i).length = i := by simp only [aNames, List.length_map, List.length_take]; omega
    have hnx : aNames f (i + 1) = aNames f i ++ [(f.arrays.getD i Arr.z).name] := by
      simp only [aNames]
      rw [List.take_succ_eq_append_getElem hi, List.map_append]
      simp [hi]
    simp (maxSteps := 1000000) (disch := ((try dsimp only); omega)) only [↓grd_dec, ↓grd_blt, ↓grd_true, ↓jpO_eq, ↓callB_some, ↓callB_grd, ↓bif_decide, ↓sumO_inl, ↓sumO_inr, ↓if_pos, ↓if_neg, ↓cond_true, ↓cond_false, ↓bif_not, Int.toNat_natCast, Bool.not_true, Bool.not_false, decide_true, decide_false, Bool.false_eq_true, ↓if_true, ↓if_false, Int.natCast_add, Int.cast_ofNat_Int, Bool.not_eq_true', decide_eq_false_iff_not, not_true_eq_false, not_false_eq_true]
    rw [hnx]
    exact (arr_cases _ _ _).trans (if_pos hp)
  · have hlen : (aNames f i).length = i := by simp only [aNames, List.length_map, List.length_take]; omega
    simp (maxSteps := 1000000) (disch := ((try dsimp only); omega)) only [↓grd_dec, ↓grd_blt, ↓grd_true, ↓jpO_eq, ↓callB_some, ↓callB_grd, ↓bif_decide, ↓sumO_inl, ↓sumO_inr, ↓if_pos, ↓if_neg, ↓cond_true, ↓cond_false, ↓bif_not, Int.toNat_natCast, Bool.not_true, Bool.not_false, decide_true, decide_false, Bool.false_eq_true, ↓if_true, ↓if_false, Int.natCast_add, Int.cast_ofNat_Int, Bool.not_eq_true', decide_eq_false_iff_not, not_true_eq_false, not_false_eq_true]
    exact (arr_cases _ _ _).trans (if_neg (by rw [hp]; simp))
  · simp (maxSteps := 1000000) (disch := ((try dsimp only); omega)) only [↓grd_dec, ↓grd_blt, ↓grd_true, ↓jpO_eq, ↓callB_some, ↓callB_grd, ↓bif_decide, ↓sumO_inl, ↓sumO_inr, ↓if_pos, ↓if_neg, ↓cond_true, ↓cond_false, ↓bif_not, Int.toNat_natCast, Bool.not_true, Bool.not_false, decide_true, decide_false, Bool.false_eq_true, ↓if_true, ↓if_false, Int.natCast_add, Int.cast_ofNat_Int, Bool.not_eq_true', decide_eq_false_iff_not, not_true_eq_false, not_false_eq_true]
theorem streams_loop (f : Fn) (hf : f.ok) : whileO go45_l2 (((), (), 0, ()), f, sNames f 0, ()) = some (if f.streams.all (fun s => Sp.right s.width) then .inl (((), (), ()), f, sNames f f.streams.length, ()) else .inr ((false, ()), ())) := by
  have ha : f.arrays.length * 48 ≤ 140737488351232 := hf.2.2.1.1
  have hs : f.streams.length * 32 ≤ 140737488351232 := hf.2.2.2.1.1
  unfold go45_l2
  refine whileO_all (l := f.streams) (st := fun i => (((), (), (i : Int), ()), f, sNames f i, ())) rfl Strm.z (fun s => Sp.right s.width) (fun i hi hp => ?_) (fun i hi hp => ?_) (fun _ => ?_)
  · have hlen : (sNames f i).length = f.arrays.length + i := by simp only [sNames, List.length_append, List.length_map, List.length_take]; omega
    have hnx : sNames f (i + 1) = sNames f i ++ [(f.streams.getD i Strm.z).name] := by
      simp only [sNames]
      rw [show f.streams.take (i + 1) = f.streams.take i ++ [f.streams.getD i Strm.z] by rw [List.take_succ_eq_append_getElem hi]; simp [List.getD_eq_getElem?_getD, hi], List.map_append, List.append_assoc]
      rfl
    simp (maxSteps := 1000000) (disch := ((try dsimp only); omega)) only [↓grd_dec, ↓grd_blt, ↓grd_true, ↓jpO_eq, ↓callB_some, ↓callB_grd, ↓bif_decide, ↓sumO_inl, ↓sumO_inr, ↓if_pos, ↓if_neg, ↓cond_true, ↓cond_false, ↓bif_not, Int.toNat_natCast, Bool.not_true, Bool.not_false, decide_true, decide_false, Bool.false_eq_true, ↓if_true, ↓if_false, Int.natCast_add, Int.cast_ofNat_Int, Bool.not_eq_true', decide_eq_false_iff_not, not_true_eq_false, not_false_eq_true]
    rw [hp, hnx]
    simp (maxSteps := 1000000) (disch := ((try dsimp only); omega)) only [↓grd_dec, ↓grd_blt, ↓grd_true, ↓jpO_eq, ↓callB_some, ↓callB_grd, ↓bif_decide, ↓sumO_inl, ↓sumO_inr, ↓if_pos, ↓if_neg, ↓cond_true, ↓cond_false, ↓bif_not, Int.toNat_natCast, Bool.not_true, Bool.not_false, decide_true, decide_false, Bool.false_eq_true, ↓if_true, ↓if_false, Int.natCast_add, Int.cast_ofNat_Int, Bool.not_eq_true', decide_eq_false_iff_not, not_true_eq_false, not_false_eq_true]
  · have hlen : (sNames f i).length = f.arrays.length + i := by simp only [sNames, List.length_append, List.length_map, List.length_take]; omega
    simp (maxSteps := 1000000) (disch := ((try dsimp only); omega)) only [↓grd_dec, ↓grd_blt, ↓grd_true, ↓jpO_eq, ↓callB_some, ↓callB_grd, ↓bif_decide, ↓sumO_inl, ↓sumO_inr, ↓if_pos, ↓if_neg, ↓cond_true, ↓cond_false, ↓bif_not, Int.toNat_natCast, Bool.not_true, Bool.not_false, decide_true, decide_false, Bool.false_eq_true, ↓if_true, ↓if_false, Int.natCast_add, Int.cast_ofNat_Int, Bool.not_eq_true', decide_eq_false_iff_not, not_true_eq_false, not_false_eq_true]
    rw [hp]; rfl
  · simp (maxSteps := 1000000) (disch := ((try dsimp only); omega)) only [↓grd_dec, ↓grd_blt, ↓grd_true, ↓jpO_eq, ↓callB_some, ↓callB_grd, ↓bif_decide, ↓sumO_inl, ↓sumO_inr, ↓if_pos, ↓if_neg, ↓cond_true, ↓cond_false, ↓bif_not, Int.toNat_natCast, Bool.not_true, Bool.not_false, decide_true, decide_false, Bool.false_eq_true, ↓if_true, ↓if_false, Int.natCast_add, Int.cast_ofNat_Int, Bool.not_eq_true', decide_eq_false_iff_not, not_true_eq_false, not_false_eq_true]
theorem names_ok {f : Fn} (hf : f.ok) : f.names.length ≤ 281474976710656 ∧ ∀ i, i < f.names.length → (f.names.getD i ByteArray.empty).size ≤ 9223372036854775807 := by
  have ha : f.arrays.length * 48 ≤ 140737488351232 := hf.2.2.1.1
  have hs : f.streams.length * 32 ≤ 140737488351232 := hf.2.2.2.1.1
  refine ⟨by simp only [Fn.names, List.length_append, List.length_map]; omega, fun i hi => ?_⟩
  have hm : f.names.getD i ByteArray.empty ∈ f.names := by simp [List.getD_eq_getElem?_getD, hi]
  rcases List.mem_append.1 (show f.names.getD i ByteArray.empty ∈ f.arrays.map Arr.name ++ f.streams.map Strm.name from hm) with h | h
  all_goals obtain ⟨x, hx, e⟩ := List.mem_map.1 h
  · rw [← e]; exact (hf.2.2.1.2 x hx).1
  · rw [← e]; exact (hf.2.2.2.1.2 x hx).1
theorem all_names_loop (f : Fn) (hf : f.ok) : whileO go45_l3 (((), (), 0, ()), f, f.names, ()) = some (if (List.range f.names.length).all (Sp.nameOk f.names) then .inl (((), ()), f, ()) else .inr ((false, ()), ())) := by
  obtain ⟨hnl, hstr⟩ := names_ok hf
  unfold go45_l3
  refine whileO_all (l := List.range f.names.length) (st := fun i => (((), (), (i : Int), ()), f, f.names, ())) rfl 0 (Sp.nameOk f.names) (fun i hi hp => ?_) (fun i hi hp => ?_) (fun _ => ?_)
  · rw [List.length_range] at hi
    rw [range_getD hi] at hp
    simp only [Sp.nameOk, nameAt, Bool.and_eq_true] at hp
    simp (maxSteps := 1000000) (disch := ((try dsimp only); omega)) only [↓grd_dec, ↓grd_blt, ↓grd_true, ↓jpO_eq, ↓callB_some, ↓callB_grd, ↓bif_decide, ↓sumO_inl, ↓sumO_inr, ↓if_pos, ↓if_neg, ↓cond_true, ↓cond_false, ↓bif_not, Int.toNat_natCast, Bool.not_true, Bool.not_false, decide_true, decide_false, Bool.false_eq_true, ↓if_true, ↓if_false, Int.natCast_add, Int.cast_ofNat_Int, Bool.not_eq_true', decide_eq_false_iff_not, not_true_eq_false, not_false_eq_true]
    rw [grd_ok (hstr i hi), hp.1]
    simp (maxSteps := 1000000) (disch := ((try dsimp only); omega)) only [↓grd_dec, ↓grd_blt, ↓grd_true, ↓jpO_eq, ↓callB_some, ↓callB_grd, ↓bif_decide, ↓sumO_inl, ↓sumO_inr, ↓if_pos, ↓if_neg, ↓cond_true, ↓cond_false, ↓bif_not, Int.toNat_natCast, Bool.not_true, Bool.not_false, decide_true, decide_false, Bool.false_eq_true, ↓if_true, ↓if_false, Int.natCast_add, Int.cast_ofNat_Int, Bool.not_eq_true', decide_eq_false_iff_not, not_true_eq_false, not_false_eq_true]
    refine callB_of (names_loop hi hnl) ?_
    rw [if_pos hp.2]
    simp (maxSteps := 1000000) (disch := ((try dsimp only); omega)) only [↓grd_dec, ↓grd_blt, ↓grd_true, ↓jpO_eq, ↓callB_some, ↓callB_grd, ↓bif_decide, ↓sumO_inl, ↓sumO_inr, ↓if_pos, ↓if_neg, ↓cond_true, ↓cond_false, ↓bif_not, Int.toNat_natCast, Bool.not_true, Bool.not_false, decide_true, decide_false, Bool.false_eq_true, ↓if_true, ↓if_false, Int.natCast_add, Int.cast_ofNat_Int, Bool.not_eq_true', decide_eq_false_iff_not, not_true_eq_false, not_false_eq_true]
  · rw [List.length_range] at hi
    rw [range_getD hi] at hp
    simp only [Sp.nameOk, nameAt, Bool.and_eq_false_iff] at hp
    simp (maxSteps := 1000000) (disch := ((try dsimp only); omega)) only [↓grd_dec, ↓grd_blt, ↓grd_true, ↓jpO_eq, ↓callB_some, ↓callB_grd, ↓bif_decide, ↓sumO_inl, ↓sumO_inr, ↓if_pos, ↓if_neg, ↓cond_true, ↓cond_false, ↓bif_not, Int.toNat_natCast, Bool.not_true, Bool.not_false, decide_true, decide_false, Bool.false_eq_true, ↓if_true, ↓if_false, Int.natCast_add, Int.cast_ofNat_Int, Bool.not_eq_true', decide_eq_false_iff_not, not_true_eq_false, not_false_eq_true]
    rw [grd_ok (hstr i hi)]
    cases hid : Sp.ident (f.names.getD i ByteArray.empty) with
    | false => rfl
    | true =>
      rw [hid] at hp
      have hp := hp.resolve_left (by simp)
      simp (maxSteps := 1000000) (disch := ((try dsimp only); omega)) only [↓grd_dec, ↓grd_blt, ↓grd_true, ↓jpO_eq, ↓callB_some, ↓callB_grd, ↓bif_decide, ↓sumO_inl, ↓sumO_inr, ↓if_pos, ↓if_neg, ↓cond_true, ↓cond_false, ↓bif_not, Int.toNat_natCast, Bool.not_true, Bool.not_false, decide_true, decide_false, Bool.false_eq_true, ↓if_true, ↓if_false, Int.natCast_add, Int.cast_ofNat_Int, Bool.not_eq_true', decide_eq_false_iff_not, not_true_eq_false, not_false_eq_true]
      refine callB_of (names_loop hi hnl) ?_
      rw [if_neg (by rw [hp]; simp)]
      simp (maxSteps := 1000000) (disch := ((try dsimp only); omega)) only [↓grd_dec, ↓grd_blt, ↓grd_true, ↓jpO_eq, ↓callB_some, ↓callB_grd, ↓bif_decide, ↓sumO_inl, ↓sumO_inr, ↓if_pos, ↓if_neg, ↓cond_true, ↓cond_false, ↓bif_not, Int.toNat_natCast, Bool.not_true, Bool.not_false, decide_true, decide_false, Bool.false_eq_true, ↓if_true, ↓if_false, Int.natCast_add, Int.cast_ofNat_Int, Bool.not_eq_true', decide_eq_false_iff_not, not_true_eq_false, not_false_eq_true]
  · rw [List.length_range]; simp (maxSteps := 1000000) (disch := ((try dsimp only); omega)) only [↓grd_dec, ↓grd_blt, ↓grd_true, ↓jpO_eq, ↓callB_some, ↓callB_grd, ↓bif_decide, ↓sumO_inl, ↓sumO_inr, ↓if_pos, ↓if_neg, ↓cond_true, ↓cond_false, ↓bif_not, Int.toNat_natCast, Bool.not_true, Bool.not_false, decide_true, decide_false, Bool.false_eq_true, ↓if_true, ↓if_false, Int.natCast_add, Int.cast_ofNat_Int, Bool.not_eq_true', decide_eq_false_iff_not, not_true_eq_false, not_false_eq_true]
theorem ok45 (f : Fn) (hf : f.ok) : go45 f = some (Sp.memOk f, ()) := by
  unfold go45
  refine callB_of (arrays_loop f hf) ?_
  cases hall : f.arrays.all Sp.arrOk with
  | false => simp [Sp.memOk, hall]
  | true =>
    rw [if_pos rfl]
    simp (maxSteps := 1000000) (disch := ((try dsimp only); omega)) only [↓grd_dec, ↓grd_blt, ↓grd_true, ↓jpO_eq, ↓callB_some, ↓callB_grd, ↓bif_decide, ↓sumO_inl, ↓sumO_inr, ↓if_pos, ↓if_neg, ↓cond_true, ↓cond_false, ↓bif_not, Int.toNat_natCast, Bool.not_true, Bool.not_false, decide_true, decide_false, Bool.false_eq_true, ↓if_true, ↓if_false, Int.natCast_add, Int.cast_ofNat_Int, Bool.not_eq_true', decide_eq_false_iff_not, not_true_eq_false, not_false_eq_true]
    rw [show aNames f f.arrays.length = sNames f 0 by simp [aNames, sNames]]
    refine callB_of (streams_loop f hf) ?_
    cases hall2 : f.streams.all (fun s => Sp.right s.width) with
    | false => simp [Sp.memOk, hall2]
    | true =>
      rw [if_pos rfl]
      simp (maxSteps := 1000000) (disch := ((try dsimp only); omega)) only [↓grd_dec, ↓grd_blt, ↓grd_true, ↓jpO_eq, ↓callB_some, ↓callB_grd, ↓bif_decide, ↓sumO_inl, ↓sumO_inr, ↓if_pos, ↓if_neg, ↓cond_true, ↓cond_false, ↓bif_not, Int.toNat_natCast, Bool.not_true, Bool.not_false, decide_true, decide_false, Bool.false_eq_true, ↓if_true, ↓if_false, Int.natCast_add, Int.cast_ofNat_Int, Bool.not_eq_true', decide_eq_false_iff_not, not_true_eq_false, not_false_eq_true]
      rw [show sNames f f.streams.length = f.names by simp [Fn.names, sNames]]
      refine callB_of (all_names_loop f hf) ?_
      cases hall3 : (List.range f.names.length).all (Sp.nameOk f.names) with
      | false => simp [Sp.memOk, hall3]
      | true =>
        rw [if_pos rfl]
        simp (maxSteps := 1000000) (disch := ((try dsimp only); omega)) only [↓grd_dec, ↓grd_blt, ↓grd_true, ↓jpO_eq, ↓callB_some, ↓callB_grd, ↓bif_decide, ↓sumO_inl, ↓sumO_inr, ↓if_pos, ↓if_neg, ↓cond_true, ↓cond_false, ↓bif_not, Int.toNat_natCast, Bool.not_true, Bool.not_false, decide_true, decide_false, Bool.false_eq_true, ↓if_true, ↓if_false, Int.natCast_add, Int.cast_ofNat_Int, Bool.not_eq_true', decide_eq_false_iff_not, not_true_eq_false, not_false_eq_true]
        simp only [Sp.memOk, hall, hall2, hall3, Bool.true_and]
        by_cases h : (f.arrays.length : Int) ≤ 64 <;> simp [h]
def c45 : Ctr Try.prog := mkCtr 45 Try.f45 Try.func45 [c44, c92] ann45 [(0, (.st 6))] [] .b [] (fun x _ => grd (okB x.1.ok) (some (Sp.memOk x.1, ()))) (fun x _ r h => FO (run45 x.1) (ok45 x.1) h)
end
end Go.Abs
