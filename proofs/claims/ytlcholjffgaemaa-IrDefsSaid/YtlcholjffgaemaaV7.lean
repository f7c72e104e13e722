/-
What functions compute: Valid.
No statement of the program is proved here.
-/
import Derived.Test.YtlcholjffgaemaaV6
set_option linter.unusedVariables false
set_option linter.unusedSectionVars false
set_option linter.unusedSimpArgs false
set_option maxHeartbeats 1000000
namespace Go.Abs
open Go Go.Proofs
noncomputable section
def ann18 : Ann := (.seq .o (.join ⟨[(1, (.ptr 0 0))], [(.box 30 (.st 6))]⟩ (.seq .o (.cond (.seq .o .o) .o)) (.seq .o (.join ⟨[(1, (.ptr 0 0)), (3, (.full 1))], [(.box 30 (.st 6)), (.lst 4 .bool)]⟩ (.seq .o (.block (.loop ⟨[(1, (.ptr 0 0)), (3, (.full 1)), (46, (.i .i64)), (47, (.i .i64))], [(.box 30 (.st 6)), (.lst 4 .bool)]⟩ [((.exit 0), ⟨[(1, (.ptr 0 0)), (3, (.full 1))], [(.box 30 (.st 6)), (.lst 4 .bool)]⟩)] (.seq .o (.join ⟨[(1, (.ptr 0 0)), (3, (.full 1)), (46, (.i .i64)), (47, (.i .i64))], [(.box 30 (.st 6)), (.lst 4 .bool)]⟩ (.cond .o .o) (.join ⟨[(1, (.ptr 0 0)), (3, (.full 1)), (46, (.i .i64)), (47, (.i .i64))], [(.box 30 (.st 6)), (.lst 4 .bool)]⟩ (.block .o) .o)))))) (.join ⟨[], []⟩ (.seq .o (.block (.loop ⟨[(1, (.ptr 0 0)), (3, (.full 1)), (4, (.i .i64))], [(.box 30 (.st 6)), (.lst 4 .bool)]⟩ [((.exit 2), ⟨[], []⟩), (.ret, ⟨[(2, .b)], []⟩)] (.join ⟨[(1, (.ptr 0 0)), (3, (.full 1)), (4, (.i .i64))], [(.box 30 (.st 6)), (.lst 4 .bool)]⟩ (.seq .o (.cond .o .o)) (.join ⟨[(1, (.ptr 0 0)), (3, (.full 1)), (4, (.i .i64))], [(.box 30 (.st 6)), (.lst 4 .bool)]⟩ (.block (.seq .o (.join ⟨[(1, (.ptr 0 0)), (3, (.full 1)), (4, (.i .i64)), (5, (.ptr 2 0))], [(.box 30 (.st 6)), (.lst 4 .bool), (.box 41 (.st 3))]⟩ (.seq .o (.cond (.seq .o .o) .o)) (.seq .o (.join ⟨[(1, (.ptr 0 0)), (3, (.full 1)), (4, (.i .i64)), (5, (.ptr 2 0)), (6, (.full 3))], [(.box 30 (.st 6)), (.lst 4 .bool), (.box 41 (.st 3)), (.lst 4 .bool)]⟩ (.seq .o (.block (.loop ⟨[(1, (.ptr 0 0)), (3, (.full 1)), (4, (.i .i64)), (5, (.ptr 2 0)), (6, (.full 3)), (101, (.i .i64)), (102, (.i .i64))], [(.box 30 (.st 6)), (.lst 4 .bool), (.box 41 (.st 3)), (.lst 4 .bool)]⟩ [((.exit 4), ⟨[(1, (.ptr 0 0)), (3, (.full 1)), (4, (.i .i64)), (5, (.ptr 2 0)), (6, (.full 3))], [(.box 30 (.st 6)), (.lst 4 .bool), (.box 41 (.st 3)), (.lst 4 .bool)]⟩)] (.seq .o (.join ⟨[(1, (.ptr 0 0)), (3, (.full 1)), (4, (.i .i64)), (5, (.ptr 2 0)), (6, (.full 3)), (101, (.i .i64)), (102, (.i .i64))], [(.box 30 (.st 6)), (.lst 4 .bool), (.box 41 (.st 3)), (.lst 4 .bool)]⟩ (.cond .o .o) (.join ⟨[(1, (.ptr 0 0)), (3, (.full 1)), (4, (.i .i64)), (5, (.ptr 2 0)), (6, (.full 3)), (101, (.i .i64)), (102, (.i .i64))], [(.box 30 (.st 6)), (.lst 4 .bool), (.box 41 (.st 3)), (.lst 4 .bool)]⟩ (.block .o) .o)))))) (.join ⟨[(1, (.ptr 0 0)), (3, (.full 1)), (4, (.i .i64)), (5, (.ptr 2 0)), (6, (.full 3))], [(.box 30 (.st 6)), (.lst 4 .bool), (.box 41 (.st 3)), (.lst 4 .bool)]⟩ (.seq .o (.block (.loop ⟨[(1, (.ptr 0 0)), (3, (.full 1)), (4, (.i .i64)), (5, (.ptr 2 0)), (6, (.full 3)), (7, (.i .i64))], [(.box 30 (.st 6)), (.lst 4 .bool), (.box 41 (.st 3)), (.lst 4 .bool)]⟩ [((.exit 6), ⟨[(1, (.ptr 0 0)), (3, (.full 1)), (4, (.i .i64)), (5, (.ptr 2 0)), (6, (.full 3))], [(.box 30 (.st 6)), (.lst 4 .bool), (.box 41 (.st 3)), (.lst 4 .bool)]⟩), (.ret, ⟨[(2, .b)], []⟩)] (.join ⟨[(1, (.ptr 0 0)), (3, (.full 1)), (4, (.i .i64)), (5, (.ptr 2 0)), (6, (.full 3)), (7, (.i .i64))], [(.box 30 (.st 6)), (.lst 4 .bool), (.box 41 (.st 3)), (.lst 4 .bool)]⟩ (.seq .o (.cond .o .o)) (.join ⟨[(1, (.ptr 0 0)), (3, (.full 1)), (4, (.i .i64)), (5, (.ptr 2 0)), (6, (.full 3)), (7, (.i .i64))], [(.box 30 (.st 6)), (.lst 4 .bool), (.box 41 (.st 3)), (.lst 4 .bool)]⟩ (.block (.seq .o (.join ⟨[(1, (.ptr 0 0)), (3, (.full 1)), (4, (.i .i64)), (5, (.ptr 2 0)), (6, (.full 3)), (7, (.i .i64)), (8, (.i .i64))], [(.box 30 (.st 6)), (.lst 4 .bool), (.box 41 (.st 3)), (.lst 4 .bool)]⟩ (.seq .o (.cond (.seq .o .o) .o)) (.seq .o .o)))) .o))))) (.join ⟨[(1, (.ptr 0 0)), (3, (.full 1)), (4, (.i .i64)), (5, (.ptr 2 0)), (6, (.full 3))], [(.box 30 (.st 6)), (.lst 4 .bool), (.box 41 (.st 3)), (.lst 4 .bool)]⟩ (.seq .o (.block (.loop ⟨[(1, (.ptr 0 0)), (3, (.full 1)), (4, (.i .i64)), (5, (.ptr 2 0)), (6, (.full 3)), (9, (.i .i64))], [(.box 30 (.st 6)), (.lst 4 .bool), (.box 41 (.st 3)), (.lst 4 .bool)]⟩ [((.exit 8), ⟨[(1, (.ptr 0 0)), (3, (.full 1)), (4, (.i .i64)), (5, (.ptr 2 0)), (6, (.full 3))], [(.box 30 (.st 6)), (.lst 4 .bool), (.box 41 (.st 3)), (.lst 4 .bool)]⟩), (.ret, ⟨[(2, .b)], []⟩)] (.join ⟨[(1, (.ptr 0 0)), (3, (.full 1)), (4, (.i .i64)), (5, (.ptr 2 0)), (6, (.full 3)), (9, (.i .i64))], [(.box 30 (.st 6)), (.lst 4 .bool), (.box 41 (.st 3)), (.lst 4 .bool)]⟩ (.seq .o (.cond .o .o)) (.join ⟨[(1, (.ptr 0 0)), (3, (.full 1)), (4, (.i .i64)), (5, (.ptr 2 0)), (6, (.full 3)), (9, (.i .i64))], [(.box 30 (.st 6)), (.lst 4 .bool), (.box 41 (.st 3)), (.lst 4 .bool)]⟩ (.block (.seq .o (.join ⟨[(1, (.ptr 0 0)), (3, (.full 1)), (4, (.i .i64)), (5, (.ptr 2 0)), (6, (.full 3)), (9, (.i .i64)), (10, (.ptr 4 0))], [(.box 30 (.st 6)), (.lst 4 .bool), (.box 41 (.st 3)), (.lst 4 .bool), (.box 46 (.st 0))]⟩ (.seq .o (.cond (.seq .o .o) .o)) (.join ⟨[(1, (.ptr 0 0)), (3, (.full 1)), (4, (.i .i64)), (5, (.ptr 2 0)), (6, (.full 3)), (9, (.i .i64)), (10, (.ptr 4 0))], [(.box 30 (.st 6)), (.lst 4 .bool), (.box 41 (.st 3)), (.lst 4 .bool), (.box 46 (.st 0))]⟩ (.seq .o (.cond (.seq .o (.cond (.seq .o .o) .o)) (.seq .o (.cond (.seq .o .o) .o)))) (.join ⟨[(1, (.ptr 0 0)), (3, (.full 1)), (4, (.i .i64)), (5, (.ptr 2 0)), (6, (.full 3)), (9, (.i .i64)), (10, (.ptr 4 0))], [(.box 30 (.st 6)), (.lst 4 .bool), (.box 41 (.st 3)), (.lst 4 .bool), (.box 46 (.st 0))]⟩ (.seq .o (.cond (.seq .o .o) .o)) (.seq .o (.cond (.seq .o .o) .o))))))) .o))))) (.seq .o (.cond (.seq .o .o) .o))))))))) .o))))) (.seq .o .o))))))
def go18_j2 (j0 : (((Unit × (Unit × (Int × (Unit × (Unit × (Int × Unit)))))) × (Fn × ((List Bool) × (Block × ((List Bool) × Unit))))) → (Option (((Unit × (Unit × (Int × (Unit × (Unit × (Int × Unit)))))) × (Fn × ((List Bool) × (Block × ((List Bool) × Unit))))) ⊕ (((Unit × (Unit × (Int × (Unit × (Unit × Unit))))) × (Fn × ((List Bool) × (Block × ((List Bool) × Unit))))) ⊕ ((Bool × Unit) × Unit)))))) : ((Unit × (Unit × (Int × (Unit × (Unit × (Int × (Unit × Unit))))))) × (Fn × ((List Bool) × (Block × ((List Bool) × (Inst × Unit)))))) → Option (((Unit × (Unit × (Int × (Unit × (Unit × (Int × Unit)))))) × (Fn × ((List Bool) × (Block × ((List Bool) × Unit))))) ⊕ (((Unit × (Unit × (Int × (Unit × (Unit × Unit))))) × (Fn × ((List Bool) × (Block × ((List Bool) × Unit))))) ⊕ ((Bool × Unit) × Unit))) := (fun (z4 : ((Unit × (Unit × (Int × (Unit × (Unit × (Int × (Unit × Unit))))))) × (Fn × ((List Bool) × (Block × ((List Bool) × (Inst × Unit))))))) => (callB (grd (okB (Sp.instPre z4.2.1 z4.2.2.2.2.2.1))
        (some ((Sp.instrOk z4.2.1 z4.2.2.2.2.2.1), ())))
      (fun (r7 : (Bool × Unit)) => (bif (!r7.1) then
          (some (Sum.inr (Sum.inr ((false, ()), ()))))
          else
          (bif (Sp.result z4.2.2.2.2.2.1.op) then
            (grd (okB (((0 : Int) ≤ z4.2.2.2.2.2.1.dest) ∧ (z4.2.2.2.2.2.1.dest < ((z4.2.2.1.length : Nat) : Int))))
              (grd (Nat.blt z4.2.2.2.2.2.1.dest.toNat z4.2.2.1.length)
                (grd (okB (((0 : Int) ≤ z4.2.2.2.2.2.1.dest) ∧ (z4.2.2.2.2.2.1.dest < ((z4.2.2.2.2.1.length : Nat) : Int))))
                  (grd (Nat.blt z4.2.2.2.2.2.1.dest.toNat z4.2.2.2.2.1.length)
                    (j0 (((), ((), (z4.1.2.2.1, ((), ((), (z4.1.2.2.2.2.2.1, ())))))), (z4.2.1, ((z4.2.2.1.set z4.2.2.2.2.2.1.dest.toNat true), (z4.2.2.2.1, ((z4.2.2.2.2.1.set z4.2.2.2.2.2.1.dest.toNat true), ()))))))))))
            else
            (j0 (((), ((), (z4.1.2.2.1, ((), ((), (z4.1.2.2.2.2.2.1, ())))))), (z4.2.1, (z4.2.2.1, (z4.2.2.2.1, (z4.2.2.2.2.1, ())))))))))))
def go18_j1 : ((Unit × (Unit × (Int × (Unit × (Unit × (Int × Unit)))))) × (Fn × ((List Bool) × (Block × ((List Bool) × Unit))))) → Option (((Unit × (Unit × (Int × (Unit × (Unit × (Int × Unit)))))) × (Fn × ((List Bool) × (Block × ((List Bool) × Unit))))) ⊕ (((Unit × (Unit × (Int × (Unit × (Unit × Unit))))) × (Fn × ((List Bool) × (Block × ((List Bool) × Unit))))) ⊕ ((Bool × Unit) × Unit))) := (fun (z4 : ((Unit × (Unit × (Int × (Unit × (Unit × (Int × Unit)))))) × (Fn × ((List Bool) × (Block × ((List Bool) × Unit)))))) => (grd (okB (((-(9223372036854775808 : Int)) ≤ (z4.1.2.2.2.2.2.1 + (1 : Int))) ∧ ((z4.1.2.2.2.2.2.1 + (1 : Int)) ≤ (9223372036854775807 : Int))))
      (some (Sum.inl (((), ((), (z4.1.2.2.1, ((), ((), ((z4.1.2.2.2.2.2.1 + (1 : Int)), ())))))), (z4.2.1, (z4.2.2.1, (z4.2.2.2.1, (z4.2.2.2.2.1, ())))))))))
def go18_l5 : ((Unit × (Unit × (Int × (Unit × (Unit × (Int × Unit)))))) × (Fn × ((List Bool) × (Block × ((List Bool) × Unit))))) → Option (((Unit × (Unit × (Int × (Unit × (Unit × (Int × Unit)))))) × (Fn × ((List Bool) × (Block × ((List Bool) × Unit))))) ⊕ (((Unit × (Unit × (Int × (Unit × (Unit × Unit))))) × (Fn × ((List Bool) × (Block × ((List Bool) × Unit))))) ⊕ ((Bool × Unit) × Unit))) := (fun (r5 : ((Unit × (Unit × (Int × (Unit × (Unit × (Int × Unit)))))) × (Fn × ((List Bool) × (Block × ((List Bool) × Unit)))))) => (bif (decide (r5.1.2.2.2.2.2.1 < ((r5.2.2.2.1.insts.length : Nat) : Int))) then
      (jpO (go18_j1)
        (fun (j0 : (((Unit × (Unit × (Int × (Unit × (Unit × (Int × Unit)))))) × (Fn × ((List Bool) × (Block × ((List Bool) × Unit))))) → (Option (((Unit × (Unit × (Int × (Unit × (Unit × (Int × Unit)))))) × (Fn × ((List Bool) × (Block × ((List Bool) × Unit))))) ⊕ (((Unit × (Unit × (Int × (Unit × (Unit × Unit))))) × (Fn × ((List Bool) × (Block × ((List Bool) × Unit))))) ⊕ ((Bool × Unit) × Unit)))))) => (grd (okB (((0 : Int) ≤ r5.1.2.2.2.2.2.1) ∧ (r5.1.2.2.2.2.2.1 < ((r5.2.2.2.1.insts.length : Nat) : Int))))
            (bif (!(decide ((Sp.arity (r5.2.2.2.1.insts.getD r5.1.2.2.2.2.2.1.toNat Inst.z).op) = (((r5.2.2.2.1.insts.getD r5.1.2.2.2.2.2.1.toNat Inst.z).args.length : Nat) : Int)))) then
              (some (Sum.inr (Sum.inr ((false, ()), ()))))
              else
              (callB (grd (okB (((r5.2.2.2.1.insts.getD r5.1.2.2.2.2.2.1.toNat Inst.z).args.length ≤ LEN) ∧ (r5.2.2.2.2.1.length = r5.2.1.widths.length)))
                  (some ((Sp.used r5.2.1 (r5.2.2.2.1.insts.getD r5.1.2.2.2.2.2.1.toNat Inst.z).args r5.2.2.2.2.1), ())))
                (fun (r6 : (Bool × Unit)) => (bif (!r6.1) then
                    (some (Sum.inr (Sum.inr ((false, ()), ()))))
                    else
                    (jpO (go18_j2 j0)
                      (fun (j1 : (((Unit × (Unit × (Int × (Unit × (Unit × (Int × (Unit × Unit))))))) × (Fn × ((List Bool) × (Block × ((List Bool) × (Inst × Unit)))))) → (Option (((Unit × (Unit × (Int × (Unit × (Unit × (Int × Unit)))))) × (Fn × ((List Bool) × (Block × ((List Bool) × Unit))))) ⊕ (((Unit × (Unit × (Int × (Unit × (Unit × Unit))))) × (Fn × ((List Bool) × (Block × ((List Bool) × Unit))))) ⊕ ((Bool × Unit) × Unit)))))) => (bif (Sp.result (r5.2.2.2.1.insts.getD r5.1.2.2.2.2.2.1.toNat Inst.z).op) then
                          (bif (!(Sp.within r5.2.1 (r5.2.2.2.1.insts.getD r5.1.2.2.2.2.2.1.toNat Inst.z).dest)) then
                            (some (Sum.inr (Sum.inr ((false, ()), ()))))
                            else
                            (grd (okB (((0 : Int) ≤ (r5.2.2.2.1.insts.getD r5.1.2.2.2.2.2.1.toNat Inst.z).dest) ∧ ((r5.2.2.2.1.insts.getD r5.1.2.2.2.2.2.1.toNat Inst.z).dest < ((r5.2.2.1.length : Nat) : Int))))
                              (grd (Nat.blt (r5.2.2.2.1.insts.getD r5.1.2.2.2.2.2.1.toNat Inst.z).dest.toNat r5.2.2.1.length)
                                (bif (r5.2.2.1.getD (r5.2.2.2.1.insts.getD r5.1.2.2.2.2.2.1.toNat Inst.z).dest.toNat false) then
                                  (some (Sum.inr (Sum.inr ((false, ()), ()))))
                                  else
                                  (j1 (((), ((), (r5.1.2.2.1, ((), ((), (r5.1.2.2.2.2.2.1, ((), ()))))))), (r5.2.1, (r5.2.2.1, (r5.2.2.2.1, (r5.2.2.2.2.1, ((r5.2.2.2.1.insts.getD r5.1.2.2.2.2.2.1.toNat Inst.z), ())))))))))))
                          else
                          (bif (!(decide ((r5.2.2.2.1.insts.getD r5.1.2.2.2.2.2.1.toNat Inst.z).dest = (-(1 : Int))))) then
                            (some (Sum.inr (Sum.inr ((false, ()), ()))))
                            else
                            (j1 (((), ((), (r5.1.2.2.1, ((), ((), (r5.1.2.2.2.2.2.1, ((), ()))))))), (r5.2.1, (r5.2.2.1, (r5.2.2.2.1, (r5.2.2.2.2.1, ((r5.2.2.2.1.insts.getD r5.1.2.2.2.2.2.1.toNat Inst.z), ()))))))))))))))))))
      else
      (some (Sum.inr (Sum.inl (((), ((), (r5.1.2.2.1, ((), ((), ()))))), (r5.2.1, (r5.2.2.1, (r5.2.2.2.1, (r5.2.2.2.2.1, ()))))))))))
def go18_l4 : ((Unit × (Unit × (Int × (Unit × (Unit × (Int × Unit)))))) × (Fn × ((List Bool) × (Block × ((List Bool) × Unit))))) → Option (((Unit × (Unit × (Int × (Unit × (Unit × (Int × Unit)))))) × (Fn × ((List Bool) × (Block × ((List Bool) × Unit))))) ⊕ (((Unit × (Unit × (Int × (Unit × (Unit × Unit))))) × (Fn × ((List Bool) × (Block × ((List Bool) × Unit))))) ⊕ ((Bool × Unit) × Unit))) := (fun (r5 : ((Unit × (Unit × (Int × (Unit × (Unit × (Int × Unit)))))) × (Fn × ((List Bool) × (Block × ((List Bool) × Unit)))))) => (bif (decide (r5.1.2.2.2.2.2.1 < ((r5.2.2.2.1.params.length : Nat) : Int))) then
      (grd (okB (((0 : Int) ≤ r5.1.2.2.2.2.2.1) ∧ (r5.1.2.2.2.2.2.1 < ((r5.2.2.2.1.params.length : Nat) : Int))))
        (bif (!(Sp.within r5.2.1 (r5.2.2.2.1.params.getD r5.1.2.2.2.2.2.1.toNat (0 : Int)))) then
          (some (Sum.inr (Sum.inr ((false, ()), ()))))
          else
          (grd (okB (((0 : Int) ≤ (r5.2.2.2.1.params.getD r5.1.2.2.2.2.2.1.toNat (0 : Int))) ∧ ((r5.2.2.2.1.params.getD r5.1.2.2.2.2.2.1.toNat (0 : Int)) < ((r5.2.2.1.length : Nat) : Int))))
            (grd (Nat.blt (r5.2.2.2.1.params.getD r5.1.2.2.2.2.2.1.toNat (0 : Int)).toNat r5.2.2.1.length)
              (bif (r5.2.2.1.getD (r5.2.2.2.1.params.getD r5.1.2.2.2.2.2.1.toNat (0 : Int)).toNat false) then
                (some (Sum.inr (Sum.inr ((false, ()), ()))))
                else
                (grd (okB (((0 : Int) ≤ (r5.2.2.2.1.params.getD r5.1.2.2.2.2.2.1.toNat (0 : Int))) ∧ ((r5.2.2.2.1.params.getD r5.1.2.2.2.2.2.1.toNat (0 : Int)) < ((r5.2.2.1.length : Nat) : Int))))
                  (grd (Nat.blt (r5.2.2.2.1.params.getD r5.1.2.2.2.2.2.1.toNat (0 : Int)).toNat r5.2.2.1.length)
                    (grd (okB (((0 : Int) ≤ (r5.2.2.2.1.params.getD r5.1.2.2.2.2.2.1.toNat (0 : Int))) ∧ ((r5.2.2.2.1.params.getD r5.1.2.2.2.2.2.1.toNat (0 : Int)) < ((r5.2.2.2.2.1.length : Nat) : Int))))
                      (grd (Nat.blt (r5.2.2.2.1.params.getD r5.1.2.2.2.2.2.1.toNat (0 : Int)).toNat r5.2.2.2.2.1.length)
                        (grd (okB (((-(9223372036854775808 : Int)) ≤ (r5.1.2.2.2.2.2.1 + (1 : Int))) ∧ ((r5.1.2.2.2.2.2.1 + (1 : Int)) ≤ (9223372036854775807 : Int))))
                          (some (Sum.inl (((), ((), (r5.1.2.2.1, ((), ((), ((r5.1.2.2.2.2.2.1 + (1 : Int)), ())))))), (r5.2.1, ((r5.2.2.1.set (r5.2.2.2.1.params.getD r5.1.2.2.2.2.2.1.toNat (0 : Int)).toNat true), (r5.2.2.2.1, ((r5.2.2.2.2.1.set (r5.2.2.2.1.params.getD r5.1.2.2.2.2.2.1.toNat (0 : Int)).toNat true), ())))))))))))))))))
      else
      (some (Sum.inr (Sum.inl (((), ((), (r5.1.2.2.1, ((), ((), ()))))), (r5.2.1, (r5.2.2.1, (r5.2.2.2.1, (r5.2.2.2.2.1, ()))))))))))
def go18_l3 : ((Unit × (Unit × (Int × (Unit × (Unit × (Int × (Int × Unit))))))) × (Fn × ((List Bool) × (Block × ((List Bool) × Unit))))) → Option (((Unit × (Unit × (Int × (Unit × (Unit × (Int × (Int × Unit))))))) × (Fn × ((List Bool) × (Block × ((List Bool) × Unit))))) ⊕ ((Unit × (Unit × (Int × (Unit × (Unit × Unit))))) × (Fn × ((List Bool) × (Block × ((List Bool) × Unit)))))) := (fun (r5 : ((Unit × (Unit × (Int × (Unit × (Unit × (Int × (Int × Unit))))))) × (Fn × ((List Bool) × (Block × ((List Bool) × Unit)))))) => (bif (decide (r5.1.2.2.2.2.2.2.1 < r5.1.2.2.2.2.2.1)) then
      (grd (okB ((((r5.2.2.2.2.1.length + 1) * (1 : Nat)) ≤ (140737488355328 : Nat)) ∧ ((r5.2.2.2.2.1.length + 1) ≤ (281474976710656 : Nat))))
        (grd (okB (((-(9223372036854775808 : Int)) ≤ (r5.1.2.2.2.2.2.2.1 + (1 : Int))) ∧ ((r5.1.2.2.2.2.2.2.1 + (1 : Int)) ≤ (9223372036854775807 : Int))))
          (some (Sum.inl (((), ((), (r5.1.2.2.1, ((), ((), (r5.1.2.2.2.2.2.1, ((r5.1.2.2.2.2.2.2.1 + (1 : Int)), ()))))))), (r5.2.1, (r5.2.2.1, (r5.2.2.2.1, ((r5.2.2.2.2.1 ++ (false :: ([] : List Bool))), ())))))))))
      else
      (some (Sum.inr (((), ((), (r5.1.2.2.1, ((), ((), ()))))), (r5.2.1, (r5.2.2.1, (r5.2.2.2.1, (r5.2.2.2.2.1, ())))))))))
def go18_l2 : ((Unit × (Unit × (Int × Unit))) × (Fn × ((List Bool) × Unit))) → Option (((Unit × (Unit × (Int × Unit))) × (Fn × ((List Bool) × Unit))) ⊕ ((Unit × Unit) ⊕ ((Bool × Unit) × Unit))) := (fun (r4 : ((Unit × (Unit × (Int × Unit))) × (Fn × ((List Bool) × Unit)))) => (bif (decide (r4.1.2.2.1 < ((r4.2.1.blocks.length : Nat) : Int))) then
      (grd (okB (((0 : Int) ≤ r4.1.2.2.1) ∧ (r4.1.2.2.1 < ((r4.2.1.blocks.length : Nat) : Int))))
        (bif (decide ((4096 : Int) < (((r4.2.1.blocks.getD r4.1.2.2.1.toNat Block.z).insts.length : Nat) : Int))) then
          (some (Sum.inr (Sum.inr ((false, ()), ()))))
          else
          (bif (decide ((r4.2.1.blocks.getD r4.1.2.2.1.toNat Block.z).pipeline < (0 : Int))) then
            (some (Sum.inr (Sum.inr ((false, ()), ()))))
            else
            (bif (decide ((256 : Int) < (r4.2.1.blocks.getD r4.1.2.2.1.toNat Block.z).pipeline)) then
              (some (Sum.inr (Sum.inr ((false, ()), ()))))
              else
              (bif (decide ((r4.2.1.blocks.getD r4.1.2.2.1.toNat Block.z).unroll < (0 : Int))) then
                (some (Sum.inr (Sum.inr ((false, ()), ()))))
                else
                (bif (decide ((64 : Int) < (r4.2.1.blocks.getD r4.1.2.2.1.toNat Block.z).unroll)) then
                  (some (Sum.inr (Sum.inr ((false, ()), ()))))
                  else
                  (bif (decide ((r4.2.1.blocks.getD r4.1.2.2.1.toNat Block.z).line < (0 : Int))) then
                    (some (Sum.inr (Sum.inr ((false, ()), ()))))
                    else
                    (bif (decide ((2147483647 : Int) < (r4.2.1.blocks.getD r4.1.2.2.1.toNat Block.z).line)) then
                      (some (Sum.inr (Sum.inr ((false, ()), ()))))
                      else
                      (callB (whileO (go18_l3) (((), ((), (r4.1.2.2.1, ((), ((), (((r4.2.1.widths.length : Nat) : Int), ((0 : Int), ()))))))), (r4.2.1, (r4.2.2.1, ((r4.2.1.blocks.getD r4.1.2.2.1.toNat Block.z), (([] : List Bool), ()))))))
                        (fun (z1 : ((Unit × (Unit × (Int × (Unit × (Unit × Unit))))) × (Fn × ((List Bool) × (Block × ((List Bool) × Unit)))))) => (callB (whileO (go18_l4) (((), ((), (z1.1.2.2.1, ((), ((), ((0 : Int), ())))))), (z1.2.1, (z1.2.2.1, (z1.2.2.2.1, (z1.2.2.2.2.1, ()))))))
                            (fun (z2 : (((Unit × (Unit × (Int × (Unit × (Unit × Unit))))) × (Fn × ((List Bool) × (Block × ((List Bool) × Unit))))) ⊕ ((Bool × Unit) × Unit))) => (sumO (fun (z3 : ((Unit × (Unit × (Int × (Unit × (Unit × Unit))))) × (Fn × ((List Bool) × (Block × ((List Bool) × Unit)))))) => (callB (whileO (go18_l5) (((), ((), (z3.1.2.2.1, ((), ((), ((0 : Int), ())))))), (z3.2.1, (z3.2.2.1, (z3.2.2.2.1, (z3.2.2.2.2.1, ()))))))
                                    (fun (z4 : (((Unit × (Unit × (Int × (Unit × (Unit × Unit))))) × (Fn × ((List Bool) × (Block × ((List Bool) × Unit))))) ⊕ ((Bool × Unit) × Unit))) => (sumO (fun (z5 : ((Unit × (Unit × (Int × (Unit × (Unit × Unit))))) × (Fn × ((List Bool) × (Block × ((List Bool) × Unit)))))) => (callB (grd (okB ((Fn.ok z5.2.1) ∧ ((Term.ok (Term.mk z5.2.2.2.1.term.kind z5.2.2.2.1.term.cond z5.2.2.2.1.term.to z5.2.2.2.1.term.rets)) ∧ (z5.2.2.2.2.1.length = z5.2.1.widths.length))))
                                              (some ((Sp.termOk z5.2.1 (Term.mk z5.2.2.2.1.term.kind z5.2.2.2.1.term.cond z5.2.2.2.1.term.to z5.2.2.2.1.term.rets) z5.2.2.2.2.1), ())))
                                            (fun (r5 : (Bool × Unit)) => (bif (!r5.1) then
                                                (some (Sum.inr (Sum.inr ((false, ()), ()))))
                                                else
                                                (grd (okB (((-(9223372036854775808 : Int)) ≤ (z5.1.2.2.1 + (1 : Int))) ∧ ((z5.1.2.2.1 + (1 : Int)) ≤ (9223372036854775807 : Int))))
                                                  (some (Sum.inl (((), ((), ((z5.1.2.2.1 + (1 : Int)), ()))), (z5.2.1, (z5.2.2.1, ()))))))))))
                                        (fun (z5 : ((Bool × Unit) × Unit)) => (some (Sum.inr (Sum.inr ((z5.1.1, ()), ()))))) z4))))
                                (fun (z3 : ((Bool × Unit) × Unit)) => (some (Sum.inr (Sum.inr ((z3.1.1, ()), ()))))) z2)))))))))))))
      else
      (some (Sum.inr (Sum.inl ((), ()))))))
def go18_l1 : ((Unit × (Unit × (Int × (Int × Unit)))) × (Fn × ((List Bool) × Unit))) → Option (((Unit × (Unit × (Int × (Int × Unit)))) × (Fn × ((List Bool) × Unit))) ⊕ ((Unit × (Unit × Unit)) × (Fn × ((List Bool) × Unit)))) := (fun (r4 : ((Unit × (Unit × (Int × (Int × Unit)))) × (Fn × ((List Bool) × Unit)))) => (bif (decide (r4.1.2.2.2.1 < r4.1.2.2.1)) then
      (grd (okB ((((r4.2.2.1.length + 1) * (1 : Nat)) ≤ (140737488355328 : Nat)) ∧ ((r4.2.2.1.length + 1) ≤ (281474976710656 : Nat))))
        (grd (okB (((-(9223372036854775808 : Int)) ≤ (r4.1.2.2.2.1 + (1 : Int))) ∧ ((r4.1.2.2.2.1 + (1 : Int)) ≤ (9223372036854775807 : Int))))
          (some (Sum.inl (((), ((), (r4.1.2.2.1, ((r4.1.2.2.2.1 + (1 : Int)), ())))), (r4.2.1, ((r4.2.2.1 ++ (false :: ([] : List Bool))), ())))))))
      else
      (some (Sum.inr (((), ((), ())), (r4.2.1, (r4.2.2.1, ())))))))
def go18 (x0 : Fn) : (Option (Bool × Unit)) :=
  (callB (grd (okB ((ByteArray.size x0.name) ≤ (9223372036854775807 : Nat)))
      (some ((Sp.ident x0.name), ())))
    (fun (r0 : (Bool × Unit)) => (bif (!r0.1) then
        (some (false, ()))
        else
        (callB (grd (okB (Fn.ok x0))
            (some ((Sp.memOk x0), ())))
          (fun (r1 : (Bool × Unit)) => (bif (!r1.1) then
              (some (false, ()))
              else
              (callB (grd (okB (x0.widths.length ≤ LEN))
                  (some ((Sp.widths x0.widths (65536 : Int)), ())))
                (fun (r2 : (Bool × Unit)) => (bif (!r2.1) then
                    (some (false, ()))
                    else
                    (callB (grd (okB (x0.rets.length ≤ LEN))
                        (some ((Sp.widths x0.rets (64 : Int)), ())))
                      (fun (r3 : (Bool × Unit)) => (bif (!r3.1) then
                          (some (false, ()))
                          else
                          (bif (decide (((x0.blocks.length : Nat) : Int) < (1 : Int))) then
                            (some (false, ()))
                            else
                            (bif (decide ((1024 : Int) < ((x0.blocks.length : Nat) : Int))) then
                              (some (false, ()))
                              else
                              (callB (whileO (go18_l1) (((), ((), (((x0.widths.length : Nat) : Int), ((0 : Int), ())))), (x0, (([] : List Bool), ()))))
                                (fun (z0 : ((Unit × (Unit × Unit)) × (Fn × ((List Bool) × Unit)))) => (callB (whileO (go18_l2) (((), ((), ((0 : Int), ()))), (z0.2.1, (z0.2.2.1, ()))))
                                    (fun (z1 : ((Unit × Unit) ⊕ ((Bool × Unit) × Unit))) => (sumO (fun (z2 : (Unit × Unit)) => (some (true, ())))
                                        (fun (z2 : ((Bool × Unit) × Unit)) => (some (z2.1.1, ()))) z1)))))))))))))))))))
theorem run18 (x0 : Fn) : runF (P := Try.prog) [c14, c44, c45, c46, c47, c48, c49, c50, c51] Try.f18 ann18 [(0, (.st 6))] [] .b [] (x0, ()) () = go18 x0 := by kernel_rfl

def elimO {σ X : Type} (x : Option σ) (A : σ → X) (B : X) : X := match x with
  | some s => A s
  | none => B
/-- A loop that carries a state, and may break off. -/
def foldO {σ α : Type} (g : σ → α → Option σ) : List α → σ → Option σ
  | [], s => some s
  | a :: l, s => match g s a with
    | some s' => foldO g l s'
    | none => none
theorem whileO_fold {σ β D X : Type} {f : D → Option (D ⊕ X)} {l : List β} {y0 : D} (z : β) (g : σ → β → Option σ) (I : σ → Prop) {st : Nat → σ → D} {s0 : σ} (hy : y0 = st 0 s0) (h0 : I s0) (hI : ∀ s a s', I s → g s a = some s' → I s') (A : σ → X) (B : X)
    (h1 : ∀ i s, i < l.length → I s → f (st i s) = some (elimO (g s (l.getD i z)) (fun s' => .inl (st (i + 1) s')) (.inr B))) (h2 : ∀ s, I s → f (st l.length s) = some (.inr (A s))) :
    whileO f y0 = some (elimO (foldO g l s0) A B) := by
  subst hy
  have key : ∀ (r : List β) (i : Nat) (s : σ), l.drop i = r → i + r.length = l.length → I s → whileO f (st i s) = some (elimO (foldO g r s) A B) := by
    intro r
    induction r with
    | nil =>
      intro i s hd hi hs
      rw [whileO_eq, show i = l.length by simpa using hi, h2 s hs]
      rfl
    | cons a r ih =>
      intro i s hd hi hs
      have hlt : i < l.length := by simp at hi; omega
      have ha : l.getD i z = a := by
        have := congrArg (·[0]?) hd
        simp only [List.getElem?_drop, Nat.add_zero, List.getElem?_cons_zero] at this
        rw [List.getD_eq_getElem?_getD, this]; rfl
      have hdrop : l.drop (i + 1) = r := by
        have := congrArg (·.drop 1) hd
        simpa [List.drop_drop, Nat.add_comm] using this
      rw [whileO_eq, h1 i s hlt hs, ha]
      simp only [foldO]
      cases hg : g s a with
      | none => rfl
      | some s' => exact ih (i + 1) s' hdrop (by simp at hi; omega) (hI s a s' hs hg)
  exact key l 0 s0 rfl (by simp) h0

/-! What Valid asks. -/
abbrev DK := List Bool × List Bool
def Sp.parStep (f : Fn) (s : DK) (v : Int) : Option DK := if Sp.within f v = true ∧ s.1.getD v.toNat false = false then some (s.1.set v.toNat true, s.2.set v.toNat true) else none
def Sp.destOk (f : Fn) (d : List Bool) (x : Inst) : Bool := if Sp.result x.op = true then Sp.within f x.dest && !(d.getD x.dest.toNat false) else decide (x.dest = -1)
def Sp.mark (s : DK) (x : Inst) : DK := if Sp.result x.op = true then (s.1.set x.dest.toNat true, s.2.set x.dest.toNat true) else s
def Sp.insStep (f : Fn) (s : DK) (x : Inst) : Option DK :=
  if Sp.arity x.op = x.args.length ∧ Sp.used f x.args s.2 = true ∧ Sp.destOk f s.1 x = true ∧ Sp.instrOk f x = true then some (Sp.mark s x) else none
def Sp.limOk (b : Block) : Bool :=
  !decide (4096 < (b.insts.length : Int)) && !decide (b.pipeline < 0) && !decide (256 < b.pipeline) && !decide (b.unroll < 0) && !decide (64 < b.unroll) && !decide (b.line < 0) && !decide (2147483647 < b.line)
def Sp.blkStep (f : Fn) (d : List Bool) (b : Block) : Option (List Bool) :=
  if Sp.limOk b = true then (match foldO (Sp.parStep f) b.params (d, List.replicate f.widths.length false) with
    | some s => match foldO (Sp.insStep f) b.insts s with
      | some s' => if Sp.termOk f b.term s'.2 = true then some s'.1 else none
      | none => none
    | none => none) else none
def Sp.headOk (f : Fn) : Bool := Sp.ident f.name && Sp.memOk f && Sp.widths f.widths 65536 && Sp.widths f.rets 64 && !decide ((f.blocks.length : Int) < 1) && !decide (1024 < (f.blocks.length : Int))
def Sp.valid (f : Fn) : Bool := Sp.headOk f && (foldO (Sp.blkStep f) f.blocks (List.replicate f.widths.length false)).isSome
theorem parStep_len (f : Fn) : ∀ s a s', (s.1.length = f.widths.length ∧ s.2.length = f.widths.length) → Sp.parStep f s a = some s' → (s'.1.length = f.widths.length ∧ s'.2.length = f.widths.length) := by
  intro s a s' hs h
  simp only [Sp.parStep] at h
  split at h
  · injection h with h; subst h; simpa using hs
  · cases h
theorem insStep_len (f : Fn) : ∀ s a s', (s.1.length = f.widths.length ∧ s.2.length = f.widths.length) → Sp.insStep f s a = some s' → (s'.1.length = f.widths.length ∧ s'.2.length = f.widths.length) := by
  intro s a s' hs h
  simp only [Sp.insStep] at h
  split at h
  · injection h with h; subst h; unfold Sp.mark; split <;> simpa using hs
  · cases h
theorem foldO_inv {σ α : Type} {g : σ → α → Option σ} {I : σ → Prop} (h : ∀ s a s', I s → g s a = some s' → I s') : ∀ (l : List α) (s s' : σ), I s → foldO g l s = some s' → I s'
  | [], s, s', hi, e => by injection e with e; exact e ▸ hi
  | a :: l, s, s', hi, e => by
    simp only [foldO] at e
    cases hg : g s a with
    | none => rw [hg] at e; cases e
    | some s1 => rw [hg] at e; exact foldO_inv h l s1 s' (h s a s1 hi hg) e
theorem arity_le (op : Int) : Sp.arity op ≤ 3 := by
  unfold Sp.arity
  repeat' split
  all_goals decide
section
variable {f : Fn} {b : Block} {d k : List Bool} {i : Int}
theorem fill_d (f : Fn) (hw : f.widths.length ≤ 65536) : whileO go18_l1 (((), (), (f.widths.length : Int), 0, ()), f, [], ()) = some (((), (), ()), f, List.replicate f.widths.length false, ()) := by
  unfold go18_l1
  refine whileO_to (st := fun i => (((), (), (f.widths.length : Int), (i : Int), ()), f, List.replicate i false, ())) rfl f.widths.length (fun i hi => ?_) ?_
  · have hl : (List.replicate i false).length = i := List.length_replicate
    simp (maxSteps := 1000000) (disch := ((try dsimp only); omega)) only [↓grd_dec, ↓grd_blt, ↓grd_true, ↓jpO_eq, ↓callB_some, ↓callB_grd, ↓bif_decide, ↓sumO_inl, ↓sumO_inr, ↓if_pos, ↓if_neg, ↓cond_true, ↓cond_false, ↓bif_not, Int.toNat_natCast, Bool.not_true, Bool.not_false, decide_true, decide_false, Bool.false_eq_true, ↓if_true, ↓if_false, Int.natCast_add, Int.cast_ofNat_Int, Bool.not_eq_true', decide_eq_false_iff_not, not_true_eq_false, not_false_eq_true]
    rw [List.replicate_succ']
  · simp (maxSteps := 1000000) (disch := ((try dsimp only); omega)) only [↓grd_dec, ↓grd_blt, ↓grd_true, ↓jpO_eq, ↓callB_some, ↓callB_grd, ↓bif_decide, ↓sumO_inl, ↓sumO_inr, ↓if_pos, ↓if_neg, ↓cond_true, ↓cond_false, ↓bif_not, Int.toNat_natCast, Bool.not_true, Bool.not_false, decide_true, decide_false, Bool.false_eq_true, ↓if_true, ↓if_false, Int.natCast_add, Int.cast_ofNat_Int, Bool.not_eq_true', decide_eq_false_iff_not, not_true_eq_false, not_false_eq_true]
theorem fill_k (hw : f.widths.length ≤ 65536) : whileO go18_l3 (((), (), i, (), (), (f.widths.length : Int), 0, ()), f, d, b, [], ()) = some (((), (), i, (), (), ()), f, d, b, List.replicate f.widths.length false, ()) := by
  unfold go18_l3
  refine whileO_to (st := fun j => (((), (), i, (), (), (f.widths.length : Int), (j : Int), ()), f, d, b, List.replicate j false, ())) rfl f.widths.length (fun j hj => ?_) ?_
  · have hl : (List.replicate j false).length = j := List.length_replicate
    simp (maxSteps := 1000000) (disch := ((try dsimp only); omega)) only [↓grd_dec, ↓grd_blt, ↓grd_true, ↓jpO_eq, ↓callB_some, ↓callB_grd, ↓bif_decide, ↓sumO_inl, ↓sumO_inr, ↓if_pos, ↓if_neg, ↓cond_true, ↓cond_false, ↓bif_not, Int.toNat_natCast, Bool.not_true, Bool.not_false, decide_true, decide_false, Bool.false_eq_true, ↓if_true, ↓if_false, Int.natCast_add, Int.cast_ofNat_Int, Bool.not_eq_true', decide_eq_false_iff_not, not_true_eq_false, not_false_eq_true]
    rw [List.replicate_succ']
  · simp (maxSteps := 1000000) (disch := ((try dsimp only); omega)) only [↓grd_dec, ↓grd_blt, ↓grd_true, ↓jpO_eq, ↓callB_some, ↓callB_grd, ↓bif_decide, ↓sumO_inl, ↓sumO_inr, ↓if_pos, ↓if_neg, ↓cond_true, ↓cond_false, ↓bif_not, Int.toNat_natCast, Bool.not_true, Bool.not_false, decide_true, decide_false, Bool.false_eq_true, ↓if_true, ↓if_false, Int.natCast_add, Int.cast_ofNat_Int, Bool.not_eq_true', decide_eq_false_iff_not, not_true_eq_false, not_false_eq_true]
theorem pars_loop (hb : b.ok) (hd : d.length = f.widths.length) (hk : k.length = f.widths.length) : whileO go18_l4 (((), (), i, (), (), 0, ()), f, d, b, k, ()) =
    some (elimO (foldO (Sp.parStep f) b.params (d, k)) (fun s => .inl (((), (), i, (), (), ()), f, s.1, b, s.2, ())) (.inr ((false, ()), ()))) := by
  have hp : b.params.length ≤ LEN := hb.1.len
  rw [lenVal] at hp
  unfold go18_l4
  refine whileO_fold (l := b.params) 0 (Sp.parStep f) (fun s => s.1.length = f.widths.length ∧ s.2.length = f.widths.length) (st := fun j s => (((), (), i, (), (), (j : Int), ()), f, s.1, b, s.2, ())) (s0 := (d, k)) rfl ⟨hd, hk⟩ (parStep_len f) _ _ (fun j s hj hs => ?_) (fun s hs => ?_)
  · obtain ⟨h1, h2⟩ := hs
    unfold Sp.parStep
    simp (maxSteps := 1000000) (disch := ((try dsimp only); omega)) only [↓grd_dec, ↓grd_blt, ↓grd_true, ↓jpO_eq, ↓callB_some, ↓callB_grd, ↓bif_decide, ↓sumO_inl, ↓sumO_inr, ↓if_pos, ↓if_neg, ↓cond_true, ↓cond_false, ↓bif_not, Int.toNat_natCast, Bool.not_true, Bool.not_false, decide_true, decide_false, Bool.false_eq_true, ↓if_true, ↓if_false, Int.natCast_add, Int.cast_ofNat_Int, Bool.not_eq_true', decide_eq_false_iff_not, not_true_eq_false, not_false_eq_true]
    cases hw : Sp.within f (b.params.getD j 0) with
    | false => simp [elimO]
    | true =>
      obtain ⟨q1, q2⟩ := within_iff.1 hw
      simp (maxSteps := 1000000) (disch := ((try dsimp only); omega)) only [↓grd_dec, ↓grd_blt, ↓grd_true, ↓jpO_eq, ↓callB_some, ↓callB_grd, ↓bif_decide, ↓sumO_inl, ↓sumO_inr, ↓if_pos, ↓if_neg, ↓cond_true, ↓cond_false, ↓bif_not, Int.toNat_natCast, Bool.not_true, Bool.not_false, decide_true, decide_false, Bool.false_eq_true, ↓if_true, ↓if_false, Int.natCast_add, Int.cast_ofNat_Int, Bool.not_eq_true', decide_eq_false_iff_not, not_true_eq_false, not_false_eq_true]
      cases hx : s.1.getD (b.params.getD j 0).toNat false with
      | true => simp [elimO]
      | false =>
        simp (maxSteps := 1000000) (disch := ((try dsimp only); omega)) only [↓grd_dec, ↓grd_blt, ↓grd_true, ↓jpO_eq, ↓callB_some, ↓callB_grd, ↓bif_decide, ↓sumO_inl, ↓sumO_inr, ↓if_pos, ↓if_neg, ↓cond_true, ↓cond_false, ↓bif_not, Int.toNat_natCast, Bool.not_true, Bool.not_false, decide_true, decide_false, Bool.false_eq_true, ↓if_true, ↓if_false, Int.natCast_add, Int.cast_ofNat_Int, Bool.not_eq_true', decide_eq_false_iff_not, not_true_eq_false, not_false_eq_true]
        simp [elimO]
  · simp (maxSteps := 1000000) (disch := ((try dsimp only); omega)) only [↓grd_dec, ↓grd_blt, ↓grd_true, ↓jpO_eq, ↓callB_some, ↓callB_grd, ↓bif_decide, ↓sumO_inl, ↓sumO_inr, ↓if_pos, ↓if_neg, ↓cond_true, ↓cond_false, ↓bif_not, Int.toNat_natCast, Bool.not_true, Bool.not_false, decide_true, decide_false, Bool.false_eq_true, ↓if_true, ↓if_false, Int.natCast_add, Int.cast_ofNat_Int, Bool.not_eq_true', decide_eq_false_iff_not, not_true_eq_false, not_false_eq_true]
theorem j2_18 {x : Inst} {j : Nat} (hj : j ≤ 4096) (hd : d.length = f.widths.length) (hk : k.length = f.widths.length) (hp : Sp.instPre f x) : go18_j2 go18_j1 (((), (), i, (), (), (j : Int), (), ()), f, d, b, k, x, ()) =
    some (if Sp.instrOk f x = true then .inl (((), (), i, (), (), ((j + 1 : Nat) : Int), ()), f, (Sp.mark (d, k) x).1, b, (Sp.mark (d, k) x).2, ()) else .inr (.inr ((false, ()), ()))) := by
  unfold go18_j2 go18_j1
  rw [grd_ok hp]
  unfold Sp.mark
  simp (maxSteps := 1000000) (disch := ((try dsimp only); omega)) only [↓grd_dec, ↓grd_blt, ↓grd_true, ↓jpO_eq, ↓callB_some, ↓callB_grd, ↓bif_decide, ↓sumO_inl, ↓sumO_inr, ↓if_pos, ↓if_neg, ↓cond_true, ↓cond_false, ↓bif_not, Int.toNat_natCast, Bool.not_true, Bool.not_false, decide_true, decide_false, Bool.false_eq_true, ↓if_true, ↓if_false, Int.natCast_add, Int.cast_ofNat_Int, Bool.not_eq_true', decide_eq_false_iff_not, not_true_eq_false, not_false_eq_true]
  cases h1 : Sp.instrOk f x with
  | false => rfl
  | true =>
    cases h2 : Sp.result x.op with
    | false =>
      simp (maxSteps := 1000000) (disch := ((try dsimp only); omega)) only [↓grd_dec, ↓grd_blt, ↓grd_true, ↓jpO_eq, ↓callB_some, ↓callB_grd, ↓bif_decide, ↓sumO_inl, ↓sumO_inr, ↓if_pos, ↓if_neg, ↓cond_true, ↓cond_false, ↓bif_not, Int.toNat_natCast, Bool.not_true, Bool.not_false, decide_true, decide_false, Bool.false_eq_true, ↓if_true, ↓if_false, Int.natCast_add, Int.cast_ofNat_Int, Bool.not_eq_true', decide_eq_false_iff_not, not_true_eq_false, not_false_eq_true]
    | true =>
      obtain ⟨h3, h4⟩ := hp.2.2 h2
      simp (maxSteps := 1000000) (disch := ((try dsimp only); omega)) only [↓grd_dec, ↓grd_blt, ↓grd_true, ↓jpO_eq, ↓callB_some, ↓callB_grd, ↓bif_decide, ↓sumO_inl, ↓sumO_inr, ↓if_pos, ↓if_neg, ↓cond_true, ↓cond_false, ↓bif_not, Int.toNat_natCast, Bool.not_true, Bool.not_false, decide_true, decide_false, Bool.false_eq_true, ↓if_true, ↓if_false, Int.natCast_add, Int.cast_ofNat_Int, Bool.not_eq_true', decide_eq_false_iff_not, not_true_eq_false, not_false_eq_true]
theorem inss_loop (hf : f.ok) (hb : b.ok) (hlim : b.insts.length ≤ 4096) (hd : d.length = f.widths.length) (hk : k.length = f.widths.length) : whileO go18_l5 (((), (), i, (), (), 0, ()), f, d, b, k, ()) =
    some (elimO (foldO (Sp.insStep f) b.insts (d, k)) (fun s => .inl (((), (), i, (), (), ()), f, s.1, b, s.2, ())) (.inr ((false, ()), ()))) := by
  unfold go18_l5
  refine whileO_fold (l := b.insts) Inst.z (Sp.insStep f) (fun s => s.1.length = f.widths.length ∧ s.2.length = f.widths.length) (st := fun j s => (((), (), i, (), (), (j : Int), ()), f, s.1, b, s.2, ())) (s0 := (d, k)) rfl ⟨hd, hk⟩ (insStep_len f) _ _ (fun j s hj hs => ?_) (fun s hs => ?_)
  · obtain ⟨h1, h2⟩ := hs
    have hx : (b.insts.getD j Inst.z).ok := getD_ok hb.2.1 _ hj
    have hal : (b.insts.getD j Inst.z).args.length ≤ LEN := hx.2.2.1.len
    simp (maxSteps := 1000000) (disch := ((try dsimp only); omega)) only [↓grd_dec, ↓grd_blt, ↓grd_true, ↓jpO_eq, ↓callB_some, ↓callB_grd, ↓bif_decide, ↓sumO_inl, ↓sumO_inr, ↓if_pos, ↓if_neg, ↓cond_true, ↓cond_false, ↓bif_not, Int.toNat_natCast, Bool.not_true, Bool.not_false, decide_true, decide_false, Bool.false_eq_true, ↓if_true, ↓if_false, Int.natCast_add, Int.cast_ofNat_Int, Bool.not_eq_true', decide_eq_false_iff_not, not_true_eq_false, not_false_eq_true]
    generalize b.insts.getD j Inst.z = x at *
    unfold Sp.insStep
    by_cases h3 : Sp.arity x.op = x.args.length
    rotate_left
    · simp [h3, elimO]
    cases h4 : Sp.used f x.args s.2 with
    | false => simp [h3, elimO]
    | true =>
      simp (maxSteps := 1000000) (disch := ((try dsimp only); omega)) only [↓grd_dec, ↓grd_blt, ↓grd_true, ↓jpO_eq, ↓callB_some, ↓callB_grd, ↓bif_decide, ↓sumO_inl, ↓sumO_inr, ↓if_pos, ↓if_neg, ↓cond_true, ↓cond_false, ↓bif_not, Int.toNat_natCast, Bool.not_true, Bool.not_false, decide_true, decide_false, Bool.false_eq_true, ↓if_true, ↓if_false, Int.natCast_add, Int.cast_ofNat_Int, Bool.not_eq_true', decide_eq_false_iff_not, not_true_eq_false, not_false_eq_true]
      have pre : (Sp.result x.op = true → 0 ≤ x.dest ∧ x.dest < f.widths.length) → Sp.instPre f x := fun hr => ⟨by have := arity_le x.op; omega, fun n hn => ⟨(used_get h4 hn).1, (used_get h4 hn).2.1⟩, hr⟩
      cases h5 : Sp.result x.op with
      | false =>
        simp (maxSteps := 1000000) (disch := ((try dsimp only); omega)) only [↓grd_dec, ↓grd_blt, ↓grd_true, ↓jpO_eq, ↓callB_some, ↓callB_grd, ↓bif_decide, ↓sumO_inl, ↓sumO_inr, ↓if_pos, ↓if_neg, ↓cond_true, ↓cond_false, ↓bif_not, Int.toNat_natCast, Bool.not_true, Bool.not_false, decide_true, decide_false, Bool.false_eq_true, ↓if_true, ↓if_false, Int.natCast_add, Int.cast_ofNat_Int, Bool.not_eq_true', decide_eq_false_iff_not, not_true_eq_false, not_false_eq_true]
        rw [j2_18 (by omega) h1 h2 (pre (fun h => by rw [h5] at h; cases h))]
        by_cases h6 : x.dest = -1
        · cases h7 : Sp.instrOk f x <;> simp [Sp.destOk, h5, h6, h3, elimO, h7]
        · simp [Sp.destOk, h5, h6, elimO]
      | true =>
        cases h6 : Sp.within f x.dest with
        | false => simp [Sp.destOk, h5, h6, elimO]
        | true =>
          obtain ⟨q1, q2⟩ := within_iff.1 h6
          simp (maxSteps := 1000000) (disch := ((try dsimp only); omega)) only [↓grd_dec, ↓grd_blt, ↓grd_true, ↓jpO_eq, ↓callB_some, ↓callB_grd, ↓bif_decide, ↓sumO_inl, ↓sumO_inr, ↓if_pos, ↓if_neg, ↓cond_true, ↓cond_false, ↓bif_not, Int.toNat_natCast, Bool.not_true, Bool.not_false, decide_true, decide_false, Bool.false_eq_true, ↓if_true, ↓if_false, Int.natCast_add, Int.cast_ofNat_Int, Bool.not_eq_true', decide_eq_false_iff_not, not_true_eq_false, not_false_eq_true]
          rw [j2_18 (by omega) h1 h2 (pre (fun _ => ⟨q1, q2⟩))]
          cases h8 : s.1.getD x.dest.toNat false with
          | true =>
            rw [List.getD_eq_getElem?_getD] at h8
            simp [Sp.destOk, h5, h6, elimO, h8]
          | false =>
            rw [List.getD_eq_getElem?_getD] at h8
            cases h7 : Sp.instrOk f x <;> simp [Sp.destOk, h5, h6, h3, elimO, h7, h8]
  · simp (maxSteps := 1000000) (disch := ((try dsimp only); omega)) only [↓grd_dec, ↓grd_blt, ↓grd_true, ↓jpO_eq, ↓callB_some, ↓callB_grd, ↓bif_decide, ↓sumO_inl, ↓sumO_inr, ↓if_pos, ↓if_neg, ↓cond_true, ↓cond_false, ↓bif_not, Int.toNat_natCast, Bool.not_true, Bool.not_false, decide_true, decide_false, Bool.false_eq_true, ↓if_true, ↓if_false, Int.natCast_add, Int.cast_ofNat_Int, Bool.not_eq_true', decide_eq_false_iff_not, not_true_eq_false, not_false_eq_true]
theorem blkStep_len (f : Fn) : ∀ d b d', d.length = f.widths.length → Sp.blkStep f d b = some d' → d'.length = f.widths.length := by
  intro d b d' hd h
  simp only [Sp.blkStep] at h
  split at h
  · split at h
    · rename_i s1 h1
      have i1 := foldO_inv (parStep_len f) _ _ _ ⟨hd, List.length_replicate⟩ h1
      split at h
      · rename_i s2 h2
        have i2 := foldO_inv (insStep_len f) _ _ _ i1 h2
        split at h
        · injection h with h; subst h; exact i2.1
        · cases h
      · cases h
    · cases h
  · cases h
theorem blks_loop (hf : f.ok) (hw : f.widths.length ≤ 65536) (hbl : f.blocks.length ≤ 1024) : whileO go18_l2 (((), (), 0, ()), f, List.replicate f.widths.length false, ()) =
    some (elimO (foldO (Sp.blkStep f) f.blocks (List.replicate f.widths.length false)) (fun _ => .inl ((), ())) (.inr ((false, ()), ()))) := by
  unfold go18_l2
  refine whileO_fold (l := f.blocks) Block.z (Sp.blkStep f) (fun d => d.length = f.widths.length) (st := fun j d => (((), (), (j : Int), ()), f, d, ())) rfl List.length_replicate (blkStep_len f) _ _ (fun j d hj hd => ?_) (fun s hs => ?_)
  · have hbk : (f.blocks.getD j Block.z).ok := Fn.ok_blk hf hj
    simp (maxSteps := 1000000) (disch := ((try dsimp only); omega)) only [↓grd_dec, ↓grd_blt, ↓grd_true, ↓jpO_eq, ↓callB_some, ↓callB_grd, ↓bif_decide, ↓sumO_inl, ↓sumO_inr, ↓if_pos, ↓if_neg, ↓cond_true, ↓cond_false, ↓bif_not, Int.toNat_natCast, Bool.not_true, Bool.not_false, decide_true, decide_false, Bool.false_eq_true, ↓if_true, ↓if_false, Int.natCast_add, Int.cast_ofNat_Int, Bool.not_eq_true', decide_eq_false_iff_not, not_true_eq_false, not_false_eq_true]
    generalize f.blocks.getD j Block.z = b at *
    unfold Sp.blkStep Sp.limOk
    by_cases a1 : 4096 < (b.insts.length : Int)
    · simp [a1, elimO]
    by_cases a2 : b.pipeline < 0
    · simp [a2, elimO, a1]
    by_cases a3 : 256 < b.pipeline
    · simp [a3, elimO, a1, a2]
    by_cases a4 : b.unroll < 0
    · simp [a4, elimO, a1, a2, a3]
    by_cases a5 : 64 < b.unroll
    · simp [a5, elimO, a1, a2, a3, a4]
    by_cases a6 : b.line < 0
    · simp [a6, elimO, a1, a2, a3, a4, a5]
    by_cases a7 : 2147483647 < b.line
    · simp [a7, elimO, a1, a2, a3, a4, a5, a6]
    rw [if_neg a1, if_neg a2, if_neg a3, if_neg a4, if_neg a5, if_neg a6, if_neg a7]
    have hlim : (!decide (4096 < (b.insts.length : Int)) && !decide (b.pipeline < 0) && !decide (256 < b.pipeline) && !decide (b.unroll < 0) && !decide (64 < b.unroll) && !decide (b.line < 0) && !decide (2147483647 < b.line)) = true := by
      simp [a1, a2, a3, a4, a5, a6, a7]
    rw [if_pos hlim]
    refine callB_of (fill_k hw) ?_
    refine callB_of (pars_loop hbk hd List.length_replicate) ?_
    cases h1 : foldO (Sp.parStep f) b.params (d, List.replicate f.widths.length false) with
    | none => rfl
    | some s1 =>
      have i1 := foldO_inv (parStep_len f) _ _ _ ⟨hd, List.length_replicate⟩ h1
      show sumO _ _ (Sum.inl _) = _
      rw [sumO_inl]
      refine callB_of (inss_loop hf hbk (show b.insts.length ≤ 4096 by omega) i1.1 i1.2) ?_
      cases h2 : foldO (Sp.insStep f) b.insts s1 with
      | none => simp only [h2, elimO, sumO_inr]
      | some s2 =>
        have i2 := foldO_inv (insStep_len f) _ _ _ i1 h2
        simp only [h2, elimO, sumO_inl]
        rw [grd_ok ⟨hf, hbk.2.2.1, i2.2⟩]
        show (bif Sp.termOk f b.term s2.2 then _ else _) = _
        cases h3 : Sp.termOk f b.term s2.2 with
        | false => rfl
        | true =>
          simp (maxSteps := 1000000) (disch := ((try dsimp only); omega)) only [↓grd_dec, ↓grd_blt, ↓grd_true, ↓jpO_eq, ↓callB_some, ↓callB_grd, ↓bif_decide, ↓sumO_inl, ↓sumO_inr, ↓if_pos, ↓if_neg, ↓cond_true, ↓cond_false, ↓bif_not, Int.toNat_natCast, Bool.not_true, Bool.not_false, decide_true, decide_false, Bool.false_eq_true, ↓if_true, ↓if_false, Int.natCast_add, Int.cast_ofNat_Int, Bool.not_eq_true', decide_eq_false_iff_not, not_true_eq_false, not_false_eq_true]
  · simp (maxSteps := 1000000) (disch := ((try dsimp only); omega)) only [↓grd_dec, ↓grd_blt, ↓grd_true, ↓jpO_eq, ↓callB_some, ↓callB_grd, ↓bif_decide, ↓sumO_inl, ↓sumO_inr, ↓if_pos, ↓if_neg, ↓cond_true, ↓cond_false, ↓bif_not, Int.toNat_natCast, Bool.not_true, Bool.not_false, decide_true, decide_false, Bool.false_eq_true, ↓if_true, ↓if_false, Int.natCast_add, Int.cast_ofNat_Int, Bool.not_eq_true', decide_eq_false_iff_not, not_true_eq_false, not_false_eq_true]
theorem ok18 (f : Fn) (hf : f.ok) : go18 f = some (Sp.valid f, ()) := by
  have hwl : f.widths.length ≤ LEN := hf.2.1.len
  have hrl : f.rets.length ≤ LEN := hf.2.2.2.2.1.len
  have hns : f.name.size ≤ 9223372036854775807 := hf.1
  unfold go18
  rw [grd_ok hns, grd_ok hf, grd_ok hwl, grd_ok hrl]
  unfold Sp.valid Sp.headOk
  simp (maxSteps := 1000000) (disch := ((try dsimp only); omega)) only [↓grd_dec, ↓grd_blt, ↓grd_true, ↓jpO_eq, ↓callB_some, ↓callB_grd, ↓bif_decide, ↓sumO_inl, ↓sumO_inr, ↓if_pos, ↓if_neg, ↓cond_true, ↓cond_false, ↓bif_not, Int.toNat_natCast, Bool.not_true, Bool.not_false, decide_true, decide_false, Bool.false_eq_true, ↓if_true, ↓if_false, Int.natCast_add, Int.cast_ofNat_Int, Bool.not_eq_true', decide_eq_false_iff_not, not_true_eq_false, not_false_eq_true]
  cases h1 : Sp.ident f.name with
  | false => rfl
  | true =>
    cases h2 : Sp.memOk f with
    | false => rfl
    | true =>
      cases h3 : Sp.widths f.widths 65536 with
      | false => rfl
      | true =>
        cases h4 : Sp.widths f.rets 64 with
        | false => rfl
        | true =>
          have hw : f.widths.length ≤ 65536 := by
            simp only [Sp.widths, Bool.and_eq_true, decide_eq_true_eq] at h3
            omega
          by_cases h5 : (f.blocks.length : Int) < 1
          · simp (maxSteps := 1000000) (disch := ((try dsimp only); omega)) only [↓grd_dec, ↓grd_blt, ↓grd_true, ↓jpO_eq, ↓callB_some, ↓callB_grd, ↓bif_decide, ↓sumO_inl, ↓sumO_inr, ↓if_pos, ↓if_neg, ↓cond_true, ↓cond_false, ↓bif_not, Int.toNat_natCast, Bool.not_true, Bool.not_false, decide_true, decide_false, Bool.false_eq_true, ↓if_true, ↓if_false, Int.natCast_add, Int.cast_ofNat_Int, Bool.not_eq_true', decide_eq_false_iff_not, not_true_eq_false, not_false_eq_true]
            rw [decide_eq_true h5]; rfl
          by_cases h6 : 1024 < (f.blocks.length : Int)
          · simp (maxSteps := 1000000) (disch := ((try dsimp only); omega)) only [↓grd_dec, ↓grd_blt, ↓grd_true, ↓jpO_eq, ↓callB_some, ↓callB_grd, ↓bif_decide, ↓sumO_inl, ↓sumO_inr, ↓if_pos, ↓if_neg, ↓cond_true, ↓cond_false, ↓bif_not, Int.toNat_natCast, Bool.not_true, Bool.not_false, decide_true, decide_false, Bool.false_eq_true, ↓if_true, ↓if_false, Int.natCast_add, Int.cast_ofNat_Int, Bool.not_eq_true', decide_eq_false_iff_not, not_true_eq_false, not_false_eq_true]
            rw [decide_eq_true h6, decide_eq_false h5]; rfl
          simp (maxSteps := 1000000) (disch := ((try dsimp only); omega)) only [↓grd_dec, ↓grd_blt, ↓grd_true, ↓jpO_eq, ↓callB_some, ↓callB_grd, ↓bif_decide, ↓sumO_inl, ↓sumO_inr, ↓if_pos, ↓if_neg, ↓cond_true, ↓cond_false, ↓bif_not, Int.toNat_natCast, Bool.not_true, Bool.not_false, decide_true, decide_false, Bool.false_eq_true, ↓if_true, ↓if_false, Int.natCast_add, Int.cast_ofNat_Int, Bool.not_eq_true', decide_eq_false_iff_not, not_true_eq_false, not_false_eq_true]
          refine callB_of (fill_d f hw) ?_
          refine callB_of (blks_loop hf hw (show f.blocks.length ≤ 1024 by omega)) ?_
          rw [decide_eq_false h5, decide_eq_false h6]
          cases foldO (Sp.blkStep f) f.blocks (List.replicate f.widths.length false) <;> rfl
end
def c18 : Ctr Try.prog := mkCtr 18 Try.f18 Try.func18 [c14, c44, c45, c46, c47, c48, c49, c50, c51] ann18 [(0, (.st 6))] [] .b [] (fun x _ => grd (okB x.1.ok) (some (Sp.valid x.1, ()))) (fun x _ r h => FO (run18 x.1) (ok18 x.1) h)
end
end Go.Abs
