/-
What functions compute: the law IrDefs.
No statement of the program is proved here.
-/
import Derived.Test.YtlcholjffgaemaaW2
set_option linter.unusedVariables false
set_option linter.unusedSectionVars false
set_option linter.unusedSimpArgs false
set_option maxHeartbeats 1000000
namespace Go.Abs
open Go Go.Proofs
noncomputable section
def ann5 : Ann := (.seq .o (.join ⟨[(1, (.i .i64)), (2, (.ptr 0 0))], [(.box 30 (.st 6))]⟩ (.seq .o (.cond (.seq .o .o) .o)) (.seq .o (.join ⟨[(1, (.i .i64)), (2, (.ptr 0 0)), (5, (.i .i64)), (6, (.i .i64))], [(.box 30 (.st 6))]⟩ (.seq .o (.block (.loop ⟨[(1, (.i .i64)), (2, (.ptr 0 0)), (5, (.i .i64)), (6, (.i .i64)), (7, (.i .i64))], [(.box 30 (.st 6))]⟩ [((.exit 0), ⟨[(1, (.i .i64)), (2, (.ptr 0 0)), (5, (.i .i64)), (6, (.i .i64))], [(.box 30 (.st 6))]⟩), (.ret, ⟨[(4, .b)], []⟩)] (.join ⟨[(1, (.i .i64)), (2, (.ptr 0 0)), (5, (.i .i64)), (6, (.i .i64)), (7, (.i .i64))], [(.box 30 (.st 6))]⟩ (.seq .o (.cond .o .o)) (.join ⟨[(1, (.i .i64)), (2, (.ptr 0 0)), (5, (.i .i64)), (6, (.i .i64)), (7, (.i .i64))], [(.box 30 (.st 6))]⟩ (.block (.seq .o (.seq .o (.join ⟨[(1, (.i .i64)), (2, (.ptr 0 0)), (5, (.i .i64)), (6, (.i .i64)), (7, (.i .i64)), (8, (.ptr 1 0))], [(.box 30 (.st 6)), (.box 41 (.st 3))]⟩ (.seq .o (.block (.loop ⟨[(1, (.i .i64)), (2, (.ptr 0 0)), (5, (.i .i64)), (6, (.i .i64)), (7, (.i .i64)), (8, (.ptr 1 0)), (9, (.i .i64))], [(.box 30 (.st 6)), (.box 41 (.st 3))]⟩ [((.exit 2), ⟨[(1, (.i .i64)), (2, (.ptr 0 0)), (5, (.i .i64)), (6, (.i .i64)), (7, (.i .i64)), (8, (.ptr 1 0))], [(.box 30 (.st 6)), (.box 41 (.st 3))]⟩), (.ret, ⟨[(4, .b)], []⟩)] (.join ⟨[(1, (.i .i64)), (2, (.ptr 0 0)), (5, (.i .i64)), (6, (.i .i64)), (7, (.i .i64)), (8, (.ptr 1 0)), (9, (.i .i64))], [(.box 30 (.st 6)), (.box 41 (.st 3))]⟩ (.seq .o (.cond .o .o)) (.join ⟨[(1, (.i .i64)), (2, (.ptr 0 0)), (5, (.i .i64)), (6, (.i .i64)), (7, (.i .i64)), (8, (.ptr 1 0)), (9, (.i .i64))], [(.box 30 (.st 6)), (.box 41 (.st 3))]⟩ (.block (.seq .o (.join ⟨[(1, (.i .i64)), (2, (.ptr 0 0)), (5, (.i .i64)), (6, (.i .i64)), (7, (.i .i64)), (8, (.ptr 1 0)), (9, (.i .i64))], [(.box 30 (.st 6)), (.box 41 (.st 3))]⟩ (.seq .o (.cond (.seq .o .o) .o)) .o))) .o))))) (.seq .o (.block (.loop ⟨[(1, (.i .i64)), (2, (.ptr 0 0)), (5, (.i .i64)), (6, (.i .i64)), (7, (.i .i64)), (8, (.ptr 1 0)), (13, (.i .i64))], [(.box 30 (.st 6)), (.box 41 (.st 3))]⟩ [((.exit 4), ⟨[(1, (.i .i64)), (2, (.ptr 0 0)), (5, (.i .i64)), (6, (.i .i64)), (7, (.i .i64))], [(.box 30 (.st 6))]⟩), (.ret, ⟨[(4, .b)], []⟩)] (.join ⟨[(1, (.i .i64)), (2, (.ptr 0 0)), (5, (.i .i64)), (6, (.i .i64)), (7, (.i .i64)), (8, (.ptr 1 0)), (13, (.i .i64))], [(.box 30 (.st 6)), (.box 41 (.st 3))]⟩ (.seq .o (.cond .o .o)) (.join ⟨[(1, (.i .i64)), (2, (.ptr 0 0)), (5, (.i .i64)), (6, (.i .i64)), (7, (.i .i64)), (8, (.ptr 1 0)), (13, (.i .i64))], [(.box 30 (.st 6)), (.box 41 (.st 3))]⟩ (.block (.join ⟨[(1, (.i .i64)), (2, (.ptr 0 0)), (5, (.i .i64)), (6, (.i .i64)), (7, (.i .i64)), (8, (.ptr 1 0)), (13, (.i .i64))], [(.box 30 (.st 6)), (.box 41 (.st 3))]⟩ (.seq .o (.cond .o .o)) (.seq .o (.join ⟨[(1, (.i .i64)), (2, (.ptr 0 0)), (5, (.i .i64)), (6, (.i .i64)), (7, (.i .i64)), (8, (.ptr 1 0)), (13, (.i .i64))], [(.box 30 (.st 6)), (.box 41 (.st 3))]⟩ (.seq .o (.cond (.seq .o .o) .o)) .o)))) .o))))))))) .o))))) (.seq .o (.join ⟨[(1, (.i .i64)), (2, (.ptr 0 0)), (5, (.i .i64)), (6, (.i .i64)), (17, (.i .i64))], [(.box 30 (.st 6))]⟩ (.seq .o (.block (.loop ⟨[(1, (.i .i64)), (2, (.ptr 0 0)), (5, (.i .i64)), (6, (.i .i64)), (17, (.i .i64)), (18, (.i .i64))], [(.box 30 (.st 6))]⟩ [((.exit 6), ⟨[(1, (.i .i64)), (2, (.ptr 0 0)), (5, (.i .i64)), (6, (.i .i64)), (17, (.i .i64))], [(.box 30 (.st 6))]⟩), (.ret, ⟨[(4, .b)], []⟩)] (.join ⟨[(1, (.i .i64)), (2, (.ptr 0 0)), (5, (.i .i64)), (6, (.i .i64)), (17, (.i .i64)), (18, (.i .i64))], [(.box 30 (.st 6))]⟩ (.seq .o (.cond .o .o)) (.join ⟨[(1, (.i .i64)), (2, (.ptr 0 0)), (5, (.i .i64)), (6, (.i .i64)), (17, (.i .i64)), (18, (.i .i64))], [(.box 30 (.st 6))]⟩ (.block (.seq .o (.seq .o (.cond .o (.seq .o (.cond (.seq .o .o) .o)))))) .o))))) (.seq .o (.seq .o .o))))))))
def go5_j2 : ((Int × (Unit × (Int × (Int × (Int × (Int × Unit)))))) × (Fn × Unit)) → Option (((Int × (Unit × (Int × (Int × (Int × (Int × Unit)))))) × (Fn × Unit)) ⊕ (((Int × (Unit × (Int × (Int × (Int × Unit))))) × (Fn × Unit)) ⊕ ((Bool × Unit) × Unit))) := (fun (z2 : ((Int × (Unit × (Int × (Int × (Int × (Int × Unit)))))) × (Fn × Unit))) => (grd (okB (((-(9223372036854775808 : Int)) ≤ (z2.1.2.2.2.2.2.1 + (1 : Int))) ∧ ((z2.1.2.2.2.2.2.1 + (1 : Int)) ≤ (9223372036854775807 : Int))))
      (some (Sum.inl ((z2.1.1, ((), (z2.1.2.2.1, (z2.1.2.2.2.1, (z2.1.2.2.2.2.1, ((z2.1.2.2.2.2.2.1 + (1 : Int)), ())))))), (z2.2.1, ()))))))
def go5_l4 : ((Int × (Unit × (Int × (Int × (Int × (Int × Unit)))))) × (Fn × Unit)) → Option (((Int × (Unit × (Int × (Int × (Int × (Int × Unit)))))) × (Fn × Unit)) ⊕ (((Int × (Unit × (Int × (Int × (Int × Unit))))) × (Fn × Unit)) ⊕ ((Bool × Unit) × Unit))) := (fun (r2 : ((Int × (Unit × (Int × (Int × (Int × (Int × Unit)))))) × (Fn × Unit))) => (grd (okB (((-(9223372036854775808 : Int)) ≤ (((r2.2.1.widths.length : Nat) : Int) + (2 : Int))) ∧ ((((r2.2.1.widths.length : Nat) : Int) + (2 : Int)) ≤ (9223372036854775807 : Int))))
      (bif (decide (r2.1.2.2.2.2.2.1 < (((r2.2.1.widths.length : Nat) : Int) + (2 : Int)))) then
        (jpO (go5_j2)
          (fun (j0 : (((Int × (Unit × (Int × (Int × (Int × (Int × Unit)))))) × (Fn × Unit)) → (Option (((Int × (Unit × (Int × (Int × (Int × (Int × Unit)))))) × (Fn × Unit)) ⊕ (((Int × (Unit × (Int × (Int × (Int × Unit))))) × (Fn × Unit)) ⊕ ((Bool × Unit) × Unit)))))) => (callB (grd (okB (Fn.ok r2.2.1))
                (some ((Sp.defOf r2.2.1 r2.1.2.2.2.2.2.1), ())))
              (fun (r3 : ((Int × (Int × (Bool × Unit))) × Unit)) => (bif r3.1.2.2.1 then
                  (grd (okB (((-(9223372036854775808 : Int)) ≤ (r2.1.2.2.2.2.1 + (1 : Int))) ∧ ((r2.1.2.2.2.2.1 + (1 : Int)) ≤ (9223372036854775807 : Int))))
                    (j0 ((r2.1.1, ((), (r2.1.2.2.1, (r2.1.2.2.2.1, ((r2.1.2.2.2.2.1 + (1 : Int)), (r2.1.2.2.2.2.2.1, ())))))), (r2.2.1, ()))))
                  else
                  (bif (!(decide (r3.1.1 = (0 : Int)))) then
                    (some (Sum.inr (Sum.inr ((false, ()), ()))))
                    else
                    (bif (!(decide (r3.1.2.1 = (0 : Int)))) then
                      (some (Sum.inr (Sum.inr ((false, ()), ()))))
                      else
                      (j0 ((r2.1.1, ((), (r2.1.2.2.1, (r2.1.2.2.2.1, (r2.1.2.2.2.2.1, (r2.1.2.2.2.2.2.1, ())))))), (r2.2.1, ()))))))))))
        else
        (some (Sum.inr (Sum.inl ((r2.1.1, ((), (r2.1.2.2.1, (r2.1.2.2.2.1, (r2.1.2.2.2.2.1, ()))))), (r2.2.1, ()))))))))
def go5_j1 : ((Int × (Unit × (Int × (Int × (Int × (Unit × (Int × Unit))))))) × (Fn × (Block × Unit))) → Option (((Int × (Unit × (Int × (Int × (Int × (Unit × (Int × Unit))))))) × (Fn × (Block × Unit))) ⊕ (((Int × (Unit × (Int × (Int × (Int × Unit))))) × (Fn × Unit)) ⊕ ((Bool × Unit) × Unit))) := (fun (z2 : ((Int × (Unit × (Int × (Int × (Int × (Unit × (Int × Unit))))))) × (Fn × (Block × Unit)))) => (grd (okB (((-(9223372036854775808 : Int)) ≤ (z2.1.2.2.2.2.2.2.1 + (1 : Int))) ∧ ((z2.1.2.2.2.2.2.2.1 + (1 : Int)) ≤ (9223372036854775807 : Int))))
      (some (Sum.inl ((z2.1.1, ((), (z2.1.2.2.1, (z2.1.2.2.2.1, (z2.1.2.2.2.2.1, ((), ((z2.1.2.2.2.2.2.2.1 + (1 : Int)), ()))))))), (z2.2.1, (z2.2.2.1, ())))))))
def go5_l3 : ((Int × (Unit × (Int × (Int × (Int × (Unit × (Int × Unit))))))) × (Fn × (Block × Unit))) → Option (((Int × (Unit × (Int × (Int × (Int × (Unit × (Int × Unit))))))) × (Fn × (Block × Unit))) ⊕ (((Int × (Unit × (Int × (Int × (Int × Unit))))) × (Fn × Unit)) ⊕ ((Bool × Unit) × Unit))) := (fun (r3 : ((Int × (Unit × (Int × (Int × (Int × (Unit × (Int × Unit))))))) × (Fn × (Block × Unit)))) => (bif (decide (r3.1.2.2.2.2.2.2.1 < ((r3.2.2.1.insts.length : Nat) : Int))) then
      (jpO (go5_j1)
        (fun (j0 : (((Int × (Unit × (Int × (Int × (Int × (Unit × (Int × Unit))))))) × (Fn × (Block × Unit))) → (Option (((Int × (Unit × (Int × (Int × (Int × (Unit × (Int × Unit))))))) × (Fn × (Block × Unit))) ⊕ (((Int × (Unit × (Int × (Int × (Int × Unit))))) × (Fn × Unit)) ⊕ ((Bool × Unit) × Unit)))))) => (grd (okB (((0 : Int) ≤ r3.1.2.2.2.2.2.2.1) ∧ (r3.1.2.2.2.2.2.2.1 < ((r3.2.2.1.insts.length : Nat) : Int))))
            (bif (decide ((r3.2.2.1.insts.getD r3.1.2.2.2.2.2.2.1.toNat Inst.z).dest < (0 : Int))) then
              (j0 ((r3.1.1, ((), (r3.1.2.2.1, (r3.1.2.2.2.1, (r3.1.2.2.2.2.1, ((), (r3.1.2.2.2.2.2.2.1, ()))))))), (r3.2.1, (r3.2.2.1, ()))))
              else
              (grd (okB (((0 : Int) ≤ r3.1.2.2.2.2.2.2.1) ∧ (r3.1.2.2.2.2.2.2.1 < ((r3.2.2.1.insts.length : Nat) : Int))))
                (callB (grd (okB (Fn.ok r3.2.1))
                    (some ((Sp.defOf r3.2.1 (r3.2.2.1.insts.getD r3.1.2.2.2.2.2.2.1.toNat Inst.z).dest), ())))
                  (fun (r4 : ((Int × (Int × (Bool × Unit))) × Unit)) => (bif (!r4.1.2.2.1) then
                      (some (Sum.inr (Sum.inr ((false, ()), ()))))
                      else
                      (bif (!(decide (r4.1.1 = r3.1.2.2.2.2.1))) then
                        (some (Sum.inr (Sum.inr ((false, ()), ()))))
                        else
                        (bif (!(decide (r4.1.2.1 = r3.1.2.2.2.2.2.2.1))) then
                          (some (Sum.inr (Sum.inr ((false, ()), ()))))
                          else
                          (grd (okB (((-(9223372036854775808 : Int)) ≤ (r3.1.2.2.1 + (1 : Int))) ∧ ((r3.1.2.2.1 + (1 : Int)) ≤ (9223372036854775807 : Int))))
                            (j0 ((r3.1.1, ((), ((r3.1.2.2.1 + (1 : Int)), (r3.1.2.2.2.1, (r3.1.2.2.2.2.1, ((), (r3.1.2.2.2.2.2.2.1, ()))))))), (r3.2.1, (r3.2.2.1, ())))))))))))))))
      else
      (some (Sum.inr (Sum.inl ((r3.1.1, ((), (r3.1.2.2.1, (r3.1.2.2.2.1, (r3.1.2.2.2.2.1, ()))))), (r3.2.1, ())))))))
def go5_l2 : ((Int × (Unit × (Int × (Int × (Int × (Unit × (Int × Unit))))))) × (Fn × (Block × Unit))) → Option (((Int × (Unit × (Int × (Int × (Int × (Unit × (Int × Unit))))))) × (Fn × (Block × Unit))) ⊕ (((Int × (Unit × (Int × (Int × (Int × (Unit × Unit)))))) × (Fn × (Block × Unit))) ⊕ ((Bool × Unit) × Unit))) := (fun (r3 : ((Int × (Unit × (Int × (Int × (Int × (Unit × (Int × Unit))))))) × (Fn × (Block × Unit)))) => (bif (decide (r3.1.2.2.2.2.2.2.1 < ((r3.2.2.1.params.length : Nat) : Int))) then
      (grd (okB (((0 : Int) ≤ r3.1.2.2.2.2.2.2.1) ∧ (r3.1.2.2.2.2.2.2.1 < ((r3.2.2.1.params.length : Nat) : Int))))
        (callB (grd (okB (Fn.ok r3.2.1))
            (some ((Sp.defOf r3.2.1 (r3.2.2.1.params.getD r3.1.2.2.2.2.2.2.1.toNat (0 : Int))), ())))
          (fun (r4 : ((Int × (Int × (Bool × Unit))) × Unit)) => (bif (!r4.1.2.2.1) then
              (some (Sum.inr (Sum.inr ((false, ()), ()))))
              else
              (bif (!(decide (r4.1.1 = r3.1.2.2.2.2.1))) then
                (some (Sum.inr (Sum.inr ((false, ()), ()))))
                else
                (grd (okB (((-(9223372036854775808 : Int)) ≤ ((-(1 : Int)) - r3.1.2.2.2.2.2.2.1)) ∧ (((-(1 : Int)) - r3.1.2.2.2.2.2.2.1) ≤ (9223372036854775807 : Int))))
                  (bif (!(decide (r4.1.2.1 = ((-(1 : Int)) - r3.1.2.2.2.2.2.2.1)))) then
                    (some (Sum.inr (Sum.inr ((false, ()), ()))))
                    else
                    (grd (okB (((-(9223372036854775808 : Int)) ≤ (r3.1.2.2.1 + (1 : Int))) ∧ ((r3.1.2.2.1 + (1 : Int)) ≤ (9223372036854775807 : Int))))
                      (grd (okB (((-(9223372036854775808 : Int)) ≤ (r3.1.2.2.2.2.2.2.1 + (1 : Int))) ∧ ((r3.1.2.2.2.2.2.2.1 + (1 : Int)) ≤ (9223372036854775807 : Int))))
                        (some (Sum.inl ((r3.1.1, ((), ((r3.1.2.2.1 + (1 : Int)), (r3.1.2.2.2.1, (r3.1.2.2.2.2.1, ((), ((r3.1.2.2.2.2.2.2.1 + (1 : Int)), ()))))))), (r3.2.1, (r3.2.2.1, ()))))))))))))))
      else
      (some (Sum.inr (Sum.inl ((r3.1.1, ((), (r3.1.2.2.1, (r3.1.2.2.2.1, (r3.1.2.2.2.2.1, ((), ())))))), (r3.2.1, (r3.2.2.1, ()))))))))
def go5_l1 : ((Int × (Unit × (Int × (Int × (Int × Unit))))) × (Fn × Unit)) → Option (((Int × (Unit × (Int × (Int × (Int × Unit))))) × (Fn × Unit)) ⊕ (((Int × (Unit × (Int × (Int × Unit)))) × (Fn × Unit)) ⊕ ((Bool × Unit) × Unit))) := (fun (r2 : ((Int × (Unit × (Int × (Int × (Int × Unit))))) × (Fn × Unit))) => (bif (decide (r2.1.2.2.2.2.1 < ((r2.2.1.blocks.length : Nat) : Int))) then
      (grd (okB (((0 : Int) ≤ r2.1.2.2.2.2.1) ∧ (r2.1.2.2.2.2.1 < ((r2.2.1.blocks.length : Nat) : Int))))
        (grd (okB (((-(9223372036854775808 : Int)) ≤ (r2.1.2.2.2.1 + (((r2.2.1.blocks.getD r2.1.2.2.2.2.1.toNat Block.z).insts.length : Nat) : Int))) ∧ ((r2.1.2.2.2.1 + (((r2.2.1.blocks.getD r2.1.2.2.2.2.1.toNat Block.z).insts.length : Nat) : Int)) ≤ (9223372036854775807 : Int))))
          (callB (whileO (go5_l2) ((r2.1.1, ((), (r2.1.2.2.1, ((r2.1.2.2.2.1 + (((r2.2.1.blocks.getD r2.1.2.2.2.2.1.toNat Block.z).insts.length : Nat) : Int)), (r2.1.2.2.2.2.1, ((), ((0 : Int), ()))))))), (r2.2.1, ((r2.2.1.blocks.getD r2.1.2.2.2.2.1.toNat Block.z), ()))))
            (fun (z0 : (((Int × (Unit × (Int × (Int × (Int × (Unit × Unit)))))) × (Fn × (Block × Unit))) ⊕ ((Bool × Unit) × Unit))) => (sumO (fun (z1 : ((Int × (Unit × (Int × (Int × (Int × (Unit × Unit)))))) × (Fn × (Block × Unit)))) => (callB (whileO (go5_l3) ((z1.1.1, ((), (z1.1.2.2.1, (z1.1.2.2.2.1, (z1.1.2.2.2.2.1, ((), ((0 : Int), ()))))))), (z1.2.1, (z1.2.2.1, ()))))
                    (fun (z2 : (((Int × (Unit × (Int × (Int × (Int × Unit))))) × (Fn × Unit)) ⊕ ((Bool × Unit) × Unit))) => (sumO (fun (z3 : ((Int × (Unit × (Int × (Int × (Int × Unit))))) × (Fn × Unit))) => (grd (okB (((-(9223372036854775808 : Int)) ≤ (z3.1.2.2.2.2.1 + (1 : Int))) ∧ ((z3.1.2.2.2.2.1 + (1 : Int)) ≤ (9223372036854775807 : Int))))
                            (some (Sum.inl ((z3.1.1, ((), (z3.1.2.2.1, (z3.1.2.2.2.1, ((z3.1.2.2.2.2.1 + (1 : Int)), ()))))), (z3.2.1, ()))))))
                        (fun (z3 : ((Bool × Unit) × Unit)) => (some (Sum.inr (Sum.inr ((z3.1.1, ()), ()))))) z2))))
                (fun (z1 : ((Bool × Unit) × Unit)) => (some (Sum.inr (Sum.inr ((z1.1.1, ()), ()))))) z0)))))
      else
      (some (Sum.inr (Sum.inl ((r2.1.1, ((), (r2.1.2.2.1, (r2.1.2.2.2.1, ())))), (r2.2.1, ())))))))
def go5 (x0 : Fn) (x1 : Int) : (Option (Bool × Unit)) :=
  (callB (grd (okB (Fn.ok x0))
      (some ((Sp.few x0), ())))
    (fun (r0 : (Bool × Unit)) => (bif (!r0.1) then
        (some (true, ()))
        else
        (callB (grd (okB (Fn.ok x0))
            (some ((Sp.valid x0), ())))
          (fun (r1 : (Bool × Unit)) => (bif (!r1.1) then
              (some (true, ()))
              else
              (callB (whileO (go5_l1) ((x1, ((), ((0 : Int), ((0 : Int), ((0 : Int), ()))))), (x0, ())))
                (fun (z0 : (((Int × (Unit × (Int × (Int × Unit)))) × (Fn × Unit)) ⊕ ((Bool × Unit) × Unit))) => (sumO (fun (z1 : ((Int × (Unit × (Int × (Int × Unit)))) × (Fn × Unit))) => (callB (whileO (go5_l4) ((z1.1.1, ((), (z1.1.2.2.1, (z1.1.2.2.2.1, ((0 : Int), ((-(2 : Int)), ())))))), (z1.2.1, ())))
                        (fun (z2 : (((Int × (Unit × (Int × (Int × (Int × Unit))))) × (Fn × Unit)) ⊕ ((Bool × Unit) × Unit))) => (sumO (fun (z3 : ((Int × (Unit × (Int × (Int × (Int × Unit))))) × (Fn × Unit))) => (callB (grd (okB (Fn.ok z3.2.1))
                                  (some ((Sp.defOf z3.2.1 z3.1.1), ())))
                                (fun (r2 : ((Int × (Int × (Bool × Unit))) × Unit)) => (bif (decide (z3.1.2.2.2.2.1 = z3.1.2.2.1)) then
                                    (bif (!r2.1.2.2.1) then
                                      (callB (grd (okB (Fn.short z3.2.1))
                                          (some ((Sp.sizeL z3.2.1.blocks z3.2.1.blocks.length), ())))
                                        (fun (r3 : (Int × Unit)) => (some ((decide (r3.1 = z3.1.2.2.2.1)), ()))))
                                      else
                                      (bif (decide ((0 : Int) ≤ z3.1.1)) then
                                        (bif (decide (z3.1.1 < ((z3.2.1.widths.length : Nat) : Int))) then
                                          (callB (grd (okB (Fn.short z3.2.1))
                                              (some ((Sp.sizeL z3.2.1.blocks z3.2.1.blocks.length), ())))
                                            (fun (r3 : (Int × Unit)) => (some ((decide (r3.1 = z3.1.2.2.2.1)), ()))))
                                          else
                                          (some (false, ())))
                                        else
                                        (some (false, ()))))
                                    else
                                    (some (false, ()))))))
                            (fun (z3 : ((Bool × Unit) × Unit)) => (some (z3.1.1, ()))) z2))))
                    (fun (z1 : ((Bool × Unit) × Unit)) => (some (z1.1.1, ()))) z0)))))))))
theorem run5 (x0 : Fn) (x1 : Int) : runF (P := Try.prog) [c12, c17, c18, c21, c22] Try.f5 ann5 [(0, (.st 6)), (1, (.i .i64))] [] .b [] (x0, (x1, ())) () = go5 x0 x1 := by kernel_rfl
/-! ### In a valid function each value is defined at most once -/
def Sp.defsB (b : Block) : List Int := b.params ++ (b.insts.filter (fun x => Sp.named x.op)).map (·.dest)
/-- What is marked: the first marks with those of a list. -/
structure Marks (W : Nat) (d d' : List Bool) (l : List Int) : Prop where
  len : d.length = W → d'.length = W
  rng : d.length = W → ∀ v ∈ l, 0 ≤ v ∧ v < W
  old : d.length = W → ∀ v ∈ l, d.getD v.toNat false = false
  nd : d.length = W → l.Nodup
  mks : d.length = W → ∀ n, d'.getD n false = true ↔ d.getD n false = true ∨ (n : Int) ∈ l
theorem Marks.nil (W : Nat) (d : List Bool) : Marks W d d [] := ⟨fun h => h, fun _ v h => absurd h (by simp), fun _ v h => absurd h (by simp), fun _ => List.nodup_nil, fun _ n => by simp⟩
theorem Marks.one {W : Nat} {d : List Bool} {v : Int} (h1 : 0 ≤ v ∧ v < W) (h2 : d.getD v.toNat false = false) : Marks W d (d.set v.toNat true) [v] where
  len h := by simpa using h
  rng _ x hx := by simp at hx; exact hx ▸ h1
  old _ x hx := by simp at hx; exact hx ▸ h2
  nd _ := by simp
  mks h n := by
    have e : (n : Int) ∈ [v] ↔ v.toNat = n := by simp; omega
    rw [e]
    simp only [List.getD_eq_getElem?_getD, List.getElem?_set]
    by_cases hn : v.toNat = n
    · subst hn
      rw [if_pos rfl, if_pos (by omega)]
      simp
    · rw [if_neg hn]; simp [hn]
theorem Marks.app {W : Nat} {d d1 d2 : List Bool} {l m : List Int} (h : Marks W d d1 l) (k : Marks W d1 d2 m) : Marks W d d2 (l ++ m) where
  len e := k.len (h.len e)
  rng e v hv := by
    rcases List.mem_append.1 hv with hv | hv
    · exact h.rng e v hv
    · exact k.rng (h.len e) v hv
  old e v hv := by
    rcases List.mem_append.1 hv with hv | hv
    · exact h.old e v hv
    · have := k.old (h.len e) v hv
      cases hd : d.getD v.toNat false with
      | false => rfl
      | true => rw [(h.mks e v.toNat).2 (.inl hd)] at this; cases this
  nd e := by
    rw [List.nodup_append]
    refine ⟨h.nd e, k.nd (h.len e), fun a ha b hb hab => ?_⟩
    subst hab
    have h1 := k.old (h.len e) a hb
    have h2 := h.rng e a ha
    rw [(h.mks e a.toNat).2 (.inr (by rw [show ((a.toNat : Nat) : Int) = a by omega]; exact ha))] at h1
    cases h1
  mks e n := by rw [k.mks (h.len e) n, h.mks e n, List.mem_append, or_assoc]
theorem marks_pars (f : Fn) : ∀ (l : List Int) (s s' : DK), foldO (Sp.parStep f) l s = some s' → Marks f.widths.length s.1 s'.1 l
  | [], s, s', h => by injection h with h; subst h; exact .nil _ _
  | v :: l, s, s', h => by
    simp only [foldO] at h
    cases hg : Sp.parStep f s v with
    | none => rw [hg] at h; cases h
    | some s1 =>
      rw [hg] at h
      have ih := marks_pars f l s1 s' h
      simp only [Sp.parStep] at hg
      split at hg
      · rename_i hc
        injection hg with hg; subst hg
        exact Marks.app (l := [v]) (Marks.one (within_iff.1 hc.1) hc.2) ih
      · cases hg
theorem insStep_named {f : Fn} {s s' : DK} {x : Inst} (h : Sp.insStep f s x = some s') : Sp.named x.op = Sp.result x.op ∧ (Sp.named x.op = false → x.dest = -1) := by
  simp only [Sp.insStep] at h
  split at h
  · rename_i hc
    obtain ⟨h1, h2, h3, h4⟩ := hc
    have e : Sp.named x.op = Sp.result x.op := by
      have : 0 ≤ Sp.arity x.op := by omega
      simp only [Sp.named, Sp.result, this, decide_true, Bool.true_and]
    refine ⟨e, fun hn => ?_⟩
    rw [e] at hn
    simp only [Sp.destOk, hn] at h3
    simpa using h3
  · cases h
theorem marks_inss (f : Fn) : ∀ (l : List Inst) (s s' : DK), foldO (Sp.insStep f) l s = some s' → Marks f.widths.length s.1 s'.1 ((l.filter (fun x => Sp.named x.op)).map (·.dest))
  | [], s, s', h => by injection h with h; subst h; exact .nil _ _
  | x :: l, s, s', h => by
    simp only [foldO] at h
    cases hg : Sp.insStep f s x with
    | none => rw [hg] at h; cases h
    | some s1 =>
      rw [hg] at h
      have ih := marks_inss f l s1 s' h
      have hn := (insStep_named hg).1
      simp only [Sp.insStep] at hg
      split at hg
      · rename_i hc
        injection hg with hg; subst hg
        cases hr : Sp.result x.op with
        | false =>
          rw [List.filter_cons_of_neg (by simp [hn, hr])]
          simpa [Sp.mark, hr] using ih
        | true =>
          rw [List.filter_cons_of_pos (by simp [hn, hr])]
          have h3 := hc.2.2.1
          simp only [Sp.destOk, hr, if_true, Bool.and_eq_true, Bool.not_eq_true'] at h3
          refine Marks.app (l := [x.dest]) (d1 := s.1.set x.dest.toNat true) (Marks.one (within_iff.1 h3.1) h3.2) ?_
          simpa [Sp.mark, hr] using ih
      · cases hg
/-- What holds of the instructions of a block that is well formed. -/
def Block.dests (b : Block) : Prop := ∀ x ∈ b.insts, Sp.named x.op = false → x.dest = -1
theorem marks_blk {f : Fn} {d d' : List Bool} {b : Block} (h : Sp.blkStep f d b = some d') : Marks f.widths.length d d' (Sp.defsB b) ∧ b.dests := by
  simp only [Sp.blkStep] at h
  split at h
  · split at h
    · rename_i s1 h1
      split at h
      · rename_i s2 h2
        split at h
        · injection h with h; subst h
          refine ⟨Marks.app (marks_pars f _ _ _ h1) (marks_inss f _ _ _ h2), fun x hx hn => ?_⟩
          obtain ⟨t1, t2, ht⟩ := foldO_all _ _ _ h2 x hx
          exact (insStep_named ht).2 hn
        · cases h
      · cases h
    · cases h
  · cases h
theorem marks_blks (f : Fn) : ∀ (l : List Block) (d d' : List Bool), foldO (Sp.blkStep f) l d = some d' → Marks f.widths.length d d' (l.flatMap Sp.defsB)
  | [], d, d', h => by injection h with h; subst h; exact .nil _ _
  | b :: l, d, d', h => by
    simp only [foldO] at h
    cases hg : Sp.blkStep f d b with
    | none => rw [hg] at h; cases h
    | some d1 =>
      rw [hg] at h
      simp only [List.flatMap_cons]
      exact Marks.app (marks_blk hg).1 (marks_blks f l d1 d' h)
/-- Definitions in a valid function. -/
theorem valid_defs {f : Fn} (h : Sp.valid f = true) : (f.blocks.flatMap Sp.defsB).Nodup ∧ (∀ v ∈ f.blocks.flatMap Sp.defsB, 0 ≤ v ∧ v < f.widths.length) ∧ ∀ b ∈ f.blocks, b.dests := by
  simp only [Sp.valid, Bool.and_eq_true] at h
  obtain ⟨d, hd⟩ := Option.isSome_iff_exists.1 h.2
  have m := marks_blks f _ _ _ hd
  have e : (List.replicate f.widths.length false).length = f.widths.length := List.length_replicate
  refine ⟨m.nd e, m.rng e, fun b hb => ?_⟩
  obtain ⟨s1, s2, hg⟩ := foldO_all _ _ _ hd b hb
  exact (marks_blk hg).2
/-! ### What Def finds -/
theorem findI_at {p : Nat → Bool} {n k : Nat} (hk : k < n) (hp : p k = true) (h : ∀ j, j < k → p j = false) : findI p n 0 = some k := by
  cases hf : findI p n 0 with
  | none => rw [findI_none hf k (by omega) (by omega)] at hp; cases hp
  | some i =>
    obtain ⟨h1, h2, h3, h4⟩ := findI_some hf
    by_cases e : i < k
    · rw [h i e] at h3; cases h3
    · by_cases e2 : i = k
      · rw [e2]
      · rw [h4 k (by omega) (by omega)] at hp; cases hp
theorem findI_no {p : Nat → Bool} {n : Nat} (h : ∀ j, j < n → p j = false) : findI p n 0 = none := by
  cases hf : findI p n 0 with
  | none => rfl
  | some i =>
    obtain ⟨h1, h2, h3, h4⟩ := findI_some hf
    rw [h i (by omega)] at h3; cases h3
theorem index_at {l : List Int} (hn : l.Nodup) {i : Nat} (hi : i < l.length) : Sp.index l (l.getD i 0) = i := by
  unfold Sp.index
  rw [findI_at hi (by simp)]
  · rfl
  · intro j hj
    refine decide_eq_false fun e => ?_
    rw [List.getD_eq_getElem?_getD, List.getD_eq_getElem?_getD, List.getElem?_eq_getElem hi, List.getElem?_eq_getElem (show j < l.length by omega)] at e
    exact (List.pairwise_iff_getElem.1 hn) j i (by omega) hi hj e.symm
theorem index_no {l : List Int} {v : Int} (h : v ∉ l) : Sp.index l v = -1 := by
  unfold Sp.index
  rw [findI_no]
  · rfl
  · intro j hj
    refine decide_eq_false fun e => h ?_
    rw [e, List.getD_eq_getElem?_getD, List.getElem?_eq_getElem hj]
    exact List.getElem_mem hj
theorem index_pos {l : List Int} {v : Int} : 0 ≤ Sp.index l v ↔ v ∈ l := by
  constructor
  · intro h
    refine Classical.byContradiction fun hn => ?_
    rw [index_no hn] at h; omega
  · intro h
    unfold Sp.index
    cases hf : findI (fun i => decide (v = l.getD i 0)) l.length 0 with
    | some k => simp only [elimO]; omega
    | none =>
      obtain ⟨i, hi, e⟩ := List.getElem_of_mem h
      have := findI_none hf i (by omega) (by omega)
      rw [List.getD_eq_getElem?_getD, List.getElem?_eq_getElem hi] at this
      simp [e] at this
theorem getD_mem {α : Type} {l : List α} {i : Nat} (h : i < l.length) (z : α) : l.getD i z ∈ l := by
  rw [List.getD_eq_getElem?_getD, List.getElem?_eq_getElem h]; exact List.getElem_mem h
theorem mem_getD {α : Type} {l : List α} {x : α} (h : x ∈ l) (z : α) : ∃ i, i < l.length ∧ l.getD i z = x := by
  obtain ⟨i, hi, e⟩ := List.getElem_of_mem h
  exact ⟨i, hi, by rw [List.getD_eq_getElem?_getD, List.getElem?_eq_getElem hi]; exact e⟩
theorem defIn_some {b : Block} {v : Int} : (Sp.defIn b v).isSome = true ↔ v ∈ Sp.defsB b := by
  unfold Sp.defIn Sp.defsB
  rw [List.mem_append]
  by_cases h : 0 ≤ Sp.index b.params v
  · rw [if_pos h]; exact ⟨fun _ => .inl (index_pos.1 h), fun _ => rfl⟩
  · rw [if_neg h]
    have h0 : v ∉ b.params := fun e => h (index_pos.2 e)
    have e : v ∈ (b.insts.filter (fun x => Sp.named x.op)).map (·.dest) ↔ ∃ i, i < b.insts.length ∧ Sp.defAt b.insts v i = true := by
      simp only [List.mem_map, List.mem_filter, Sp.defAt, Bool.and_eq_true, decide_eq_true_eq]
      constructor
      · rintro ⟨x, ⟨h1, h2⟩, h3⟩
        obtain ⟨i, hi, e⟩ := mem_getD h1 Inst.z
        exact ⟨i, hi, by rw [e]; exact ⟨h2, h3⟩⟩
      · rintro ⟨i, hi, h2, h3⟩
        exact ⟨_, ⟨getD_mem hi Inst.z, h2⟩, h3⟩
    rw [e]
    cases hf : findI (Sp.defAt b.insts v) b.insts.length 0 with
    | none =>
      simp only [elimO, Option.isSome_none, Bool.false_eq_true, false_iff, not_or, not_exists]
      refine ⟨h0, fun i hi => ?_⟩
      rw [findI_none hf i (by omega) (by omega)] at hi
      exact absurd hi.2 (by simp)
    | some k =>
      obtain ⟨h1, h2, h3, h4⟩ := findI_some hf
      simp only [elimO, Option.isSome_some, true_iff]
      exact .inr ⟨k, by omega, h3⟩
theorem flatMap_nodup_out {α β : Type} {g : α → List β} {z : α} : ∀ {l : List α}, (l.flatMap g).Nodup → (∀ i, i < l.length → (g (l.getD i z)).Nodup) ∧ ∀ i j v, i < l.length → j < l.length → v ∈ g (l.getD i z) → v ∈ g (l.getD j z) → i = j
  | [], h => ⟨fun i hi => absurd hi (by simp), fun i j v hi => absurd hi (by simp)⟩
  | a :: l, h => by
    simp only [List.flatMap_cons, List.nodup_append] at h
    obtain ⟨h1, h2, h3⟩ := h
    obtain ⟨i1, i2⟩ := flatMap_nodup_out (z := z) h2
    constructor
    · intro i hi
      cases i with
      | zero => exact h1
      | succ i => exact i1 i (by simpa using hi)
    · intro i j v hi hj hv hw
      cases i with
      | zero =>
        cases j with
        | zero => rfl
        | succ j => exact absurd rfl (h3 v hv v (List.mem_flatMap.2 ⟨_, getD_mem (by simpa using hj) z, hw⟩))
      | succ i =>
        cases j with
        | zero => exact absurd rfl (h3 v hw v (List.mem_flatMap.2 ⟨_, getD_mem (by simpa using hi) z, hv⟩))
        | succ j => rw [i2 i j v (by simpa using hi) (by simpa using hj) hv hw]
section
variable {f : Fn} (hv : Sp.valid f = true)
include hv
theorem defOf_at {b : Nat} (hb : b < f.blocks.length) {v : Int} (h : v ∈ Sp.defsB (f.blk b)) : Sp.defOf f v = ((b : Int), (Sp.defIn (f.blk b) v).getD 0, true, ()) := by
  have hd := flatMap_nodup_out (z := Block.z) (valid_defs hv).1
  unfold Sp.defOf
  rw [findI_at hb (defIn_some.2 h)]
  · rfl
  · intro j hj
    cases e : (Sp.defIn (f.blk j) v).isSome with
    | false => rfl
    | true => exact absurd (hd.2 j b v (by omega) hb (defIn_some.1 e) h) (by omega)
theorem defOf_param {b i : Nat} (hb : b < f.blocks.length) (hi : i < (f.blk b).params.length) : Sp.defOf f ((f.blk b).params.getD i 0) = ((b : Int), -1 - (i : Int), true, ()) := by
  have hm : (f.blk b).params.getD i 0 ∈ (f.blk b).params := getD_mem hi 0
  have hd := (flatMap_nodup_out (z := Block.z) (valid_defs hv).1).1 b hb
  rw [defOf_at hv hb (List.mem_append.2 (.inl hm))]
  unfold Sp.defIn
  rw [index_at (List.nodup_append.1 hd).1 hi, if_pos (by omega)]
  rfl
theorem filter_map_inj : ∀ {l : List Inst}, ((l.filter (fun x => Sp.named x.op)).map (·.dest)).Nodup → ∀ i j, i < l.length → j < l.length → Sp.named (l.getD i Inst.z).op = true → Sp.named (l.getD j Inst.z).op = true → (l.getD i Inst.z).dest = (l.getD j Inst.z).dest → i = j
  | [], h, i, j, hi, _, _, _, _ => absurd hi (by simp)
  | a :: l, h, i, j, hi, hj, ni, nj, e => by
    have mem : ∀ k, k < l.length → Sp.named (l.getD k Inst.z).op = true → (l.getD k Inst.z).dest ∈ (l.filter (fun x => Sp.named x.op)).map (·.dest) := fun k hk hn =>
      List.mem_map.2 ⟨_, List.mem_filter.2 ⟨getD_mem hk _, hn⟩, rfl⟩
    cases ha : Sp.named a.op with
    | true =>
      rw [List.filter_cons_of_pos (by simp [ha])] at h
      simp only [List.map_cons, List.nodup_cons] at h
      cases i with
      | zero =>
        cases j with
        | zero => rfl
        | succ j => exact absurd (by rw [show a.dest = _ from e]; exact mem j (by simpa using hj) nj) h.1
      | succ i =>
        cases j with
        | zero => exact absurd (by rw [show a.dest = _ from e.symm]; exact mem i (by simpa using hi) ni) h.1
        | succ j => rw [filter_map_inj h.2 i j (by simpa using hi) (by simpa using hj) ni nj e]
    | false =>
      rw [List.filter_cons_of_neg (by simp [ha])] at h
      cases i with
      | zero => rw [show Sp.named a.op = true from ni] at ha; cases ha
      | succ i =>
        cases j with
        | zero => rw [show Sp.named a.op = true from nj] at ha; cases ha
        | succ j => rw [filter_map_inj h i j (by simpa using hi) (by simpa using hj) ni nj e]
theorem defOf_inst {b i : Nat} (hb : b < f.blocks.length) (hi : i < (f.blk b).insts.length) (h0 : 0 ≤ ((f.blk b).insts.getD i Inst.z).dest) : Sp.defOf f ((f.blk b).insts.getD i Inst.z).dest = ((b : Int), (i : Int), true, ()) := by
  have hd := (flatMap_nodup_out (z := Block.z) (valid_defs hv).1).1 b hb
  have hbm : f.blk b ∈ f.blocks := getD_mem hb Block.z
  have hn : Sp.named ((f.blk b).insts.getD i Inst.z).op = true := by
    cases e : Sp.named ((f.blk b).insts.getD i Inst.z).op with
    | true => rfl
    | false => rw [(valid_defs hv).2.2 _ hbm _ (getD_mem hi _) e] at h0; omega
  have hm : ((f.blk b).insts.getD i Inst.z).dest ∈ ((f.blk b).insts.filter (fun x => Sp.named x.op)).map (·.dest) := List.mem_map.2 ⟨_, List.mem_filter.2 ⟨getD_mem hi _, hn⟩, rfl⟩
  rw [defOf_at hv hb (List.mem_append.2 (.inr hm))]
  have hd2 := List.nodup_append.1 hd
  have hp : ((f.blk b).insts.getD i Inst.z).dest ∉ (f.blk b).params := fun e => hd2.2.2 _ e _ hm rfl
  unfold Sp.defIn
  rw [index_no hp, if_neg (by omega), findI_at hi (by simp only [Sp.defAt, hn]; simp)]
  · rfl
  · intro j hj
    cases e : Sp.defAt (f.blk b).insts ((f.blk b).insts.getD i Inst.z).dest j with
    | false => rfl
    | true =>
      simp only [Sp.defAt, Bool.and_eq_true, decide_eq_true_eq] at e
      exact absurd (filter_map_inj hv hd2.2.1 j i (Nat.lt_trans hj hi) hi e.1 hn e.2) (by omega)
end
theorem defOf_mem {f : Fn} {v : Int} : (Sp.defOf f v).2.2.1 = true ↔ v ∈ f.blocks.flatMap Sp.defsB := by
  rw [List.mem_flatMap]
  unfold Sp.defOf
  cases hf : findI (fun i => (Sp.defIn (f.blk i) v).isSome) f.blocks.length 0 with
  | none =>
    simp only [elimO, Bool.false_eq_true, false_iff, not_exists, not_and]
    intro b hb hm
    obtain ⟨i, hi, e⟩ := mem_getD hb Block.z
    have := findI_none hf i (by omega) (by omega)
    rw [show f.blk i = b from e, defIn_some.2 hm] at this; cases this
  | some k =>
    obtain ⟨h1, h2, h3, h4⟩ := findI_some hf
    simp only [elimO, true_iff]
    exact ⟨f.blk k, getD_mem (by omega) Block.z, defIn_some.1 h3⟩
theorem defOf_not {f : Fn} {v : Int} (h : (Sp.defOf f v).2.2.1 = false) : Sp.defOf f v = (0, 0, false, ()) := by
  unfold Sp.defOf at h ⊢
  cases hf : findI (fun i => (Sp.defIn (f.blk i) v).isSome) f.blocks.length 0 with
  | none => rfl
  | some k => rw [hf] at h; cases h
/-- Counting. -/
def cnt (p : Int → Bool) (lo : Int) : Nat → Nat
  | 0 => 0
  | n + 1 => cnt p lo n + (if p (lo + n) then 1 else 0)
theorem cnt_le (p : Int → Bool) (lo : Int) : ∀ n, cnt p lo n ≤ n
  | 0 => Nat.le_refl _
  | n + 1 => by have := cnt_le p lo n; simp only [cnt]; split <;> omega
theorem cnt_one (lo v : Int) : ∀ n : Nat, cnt (fun x => decide (x = v)) lo n = if lo ≤ v ∧ v < lo + n then 1 else 0
  | 0 => by simp only [cnt]; rw [if_neg (by omega)]
  | n + 1 => by
    simp only [cnt, cnt_one lo v n, decide_eq_true_eq]
    by_cases h : lo + (n : Int) = v
    · rw [if_pos h, if_neg (by omega), if_pos (by omega)]
    · rw [if_neg h]
      by_cases h2 : lo ≤ v ∧ v < lo + n
      · rw [if_pos h2, if_pos (by omega)]
      · rw [if_neg h2, if_neg (by omega)]
theorem cnt_or {p q : Int → Bool} (hd : ∀ x, p x = true → q x = false) (lo : Int) : ∀ n, cnt (fun x => p x || q x) lo n = cnt p lo n + cnt q lo n
  | 0 => rfl
  | n + 1 => by
    simp only [cnt, cnt_or hd lo n]
    rcases Bool.eq_false_or_eq_true (p (lo + (n : Int))) with h | h
    · simp [h, hd _ h]; omega
    · rcases Bool.eq_false_or_eq_true (q (lo + (n : Int))) with k | k <;> simp [h, k] <;> omega
theorem cnt_mem (lo : Int) (n : Nat) : ∀ l : List Int, l.Nodup → (∀ v ∈ l, lo ≤ v ∧ v < lo + n) → cnt (fun x => l.contains x) lo n = l.length
  | [], _, _ => by
    have : ∀ n, cnt (fun x => ([] : List Int).contains x) lo n = 0 := fun n => by
      induction n with
      | zero => rfl
      | succ n ih => simp only [cnt, ih]; simp
    exact this n
  | a :: l, hn, hr => by
    have e : (fun x => (a :: l).contains x) = (fun x => decide (x = a) || l.contains x) := by
      funext x; simp [List.contains_cons, Bool.beq_eq_decide_eq]
    rw [e, cnt_or, cnt_one, if_pos (hr a (by simp)), cnt_mem lo n l (List.nodup_cons.1 hn).2 (fun v hv => hr v (by simp [hv]))]
    · simp; omega
    · intro x hx
      have hx := of_decide_eq_true hx
      subst hx
      cases h : l.contains x with
      | false => rfl
      | true => exact absurd (List.contains_iff_mem.1 h) (List.nodup_cons.1 hn).1
/-! ### The law -/
/-- The definitions of the first blocks. -/
def Sp.dsum (l : List Block) : Nat → Nat
  | 0 => 0
  | i + 1 => Sp.dsum l i + (Sp.defsB (l.getD i Block.z)).length
theorem dsum_le (l : List Block) {i j : Nat} (h : i ≤ j) : Sp.dsum l i ≤ Sp.dsum l j := by
  induction h with
  | refl => exact Nat.le_refl _
  | step _ ih => exact Nat.le_trans ih (Nat.le_add_right _ _)
theorem dsum_shift (b : Block) (l : List Block) : ∀ i, Sp.dsum (b :: l) (i + 1) = (Sp.defsB b).length + Sp.dsum l i
  | 0 => by simp [Sp.dsum]
  | i + 1 => by
    have ih := dsum_shift b l i
    simp only [Sp.dsum] at ih ⊢
    rw [ih]
    simp only [List.getD_cons_succ]
    omega
theorem dsum_all : ∀ l : List Block, Sp.dsum l l.length = (l.flatMap Sp.defsB).length
  | [] => rfl
  | b :: l => by
    rw [List.length_cons, dsum_shift, dsum_all l]
    simp [List.flatMap_cons]
/-- Instructions with a result, among the first. -/
def Sp.c3 (l : List Inst) : Nat → Nat
  | 0 => 0
  | i + 1 => Sp.c3 l i + (if (l.getD i Inst.z).dest < 0 then 0 else 1)
theorem c3_le (l : List Inst) : ∀ i, Sp.c3 l i ≤ i
  | 0 => Nat.le_refl _
  | i + 1 => by have := c3_le l i; simp only [Sp.c3]; split <;> omega
theorem c3_mono (l : List Inst) {i j : Nat} (h : i ≤ j) : Sp.c3 l i ≤ Sp.c3 l j := by
  induction h with
  | refl => exact Nat.le_refl _
  | step _ ih => exact Nat.le_trans ih (Nat.le_add_right _ _)
theorem c3_shift (a : Inst) (l : List Inst) : ∀ i, Sp.c3 (a :: l) (i + 1) = (if a.dest < 0 then 0 else 1) + Sp.c3 l i
  | 0 => by simp [Sp.c3]
  | i + 1 => by
    have ih := c3_shift a l i
    simp only [Sp.c3] at ih ⊢
    rw [ih]
    simp only [List.getD_cons_succ]
    omega
theorem c3_all : ∀ l : List Inst, (∀ x ∈ l, Sp.named x.op = false → x.dest = -1) → (∀ x ∈ l, Sp.named x.op = true → 0 ≤ x.dest) → Sp.c3 l l.length = ((l.filter (fun x => Sp.named x.op)).map (·.dest)).length
  | [], _, _ => rfl
  | a :: l, h1, h2 => by
    have ih := c3_all l (fun x hx => h1 x (by simp [hx])) (fun x hx => h2 x (by simp [hx]))
    rw [List.length_cons, c3_shift, ih]
    cases hn : Sp.named a.op with
    | true =>
      have := h2 a (by simp) hn
      rw [List.filter_cons_of_pos (by simp [hn]), if_neg (by omega)]
      simp; omega
    | false =>
      have := h1 a (by simp) hn
      rw [List.filter_cons_of_neg (by simp [hn]), if_pos (by omega)]
      simp
section
variable {f : Fn} (hf : f.ok) (hv : Sp.valid f = true)
include hv
theorem defs_le : (f.blocks.flatMap Sp.defsB).length ≤ f.widths.length := by
  have hd := valid_defs hv
  rw [← cnt_mem 0 f.widths.length _ hd.1 (fun v h => by have := hd.2.1 v h; omega)]
  exact cnt_le _ _ _
theorem widths_le : f.widths.length ≤ 65536 := by
  simp only [Sp.valid, Sp.headOk, Bool.and_eq_true] at hv
  have h := hv.1.1.1.1.2
  simp only [Sp.widths, Bool.and_eq_true, decide_eq_true_eq] at h
  omega
theorem blocks_le : f.blocks.length ≤ 1024 := by
  simp only [Sp.valid, Sp.headOk, Bool.and_eq_true, Bool.not_eq_true', decide_eq_false_iff_not] at hv
  omega
theorem insts_le {b : Nat} (hb : b < f.blocks.length) : (f.blk b).insts.length ≤ 4096 := by
  simp only [Sp.valid, Bool.and_eq_true] at hv
  obtain ⟨d, hd⟩ := Option.isSome_iff_exists.1 hv.2
  obtain ⟨s1, s2, hg⟩ := foldO_all _ _ _ hd (f.blk b) (getD_mem hb Block.z)
  simp only [Sp.blkStep] at hg
  split at hg
  · rename_i hl
    simp only [Sp.limOk, Bool.and_eq_true, Bool.not_eq_true', decide_eq_false_iff_not] at hl
    omega
  · cases hg
theorem valid_short : f.short := ⟨blocks_le hv, fun i hi => insts_le hv hi⟩
theorem insts_all {b : Nat} (hb : b < f.blocks.length) : Sp.c3 (f.blk b).insts (f.blk b).insts.length + (f.blk b).params.length = (Sp.defsB (f.blk b)).length := by
  have hd := valid_defs hv
  have hbm : f.blk b ∈ f.blocks := getD_mem hb Block.z
  rw [c3_all _ (hd.2.2 _ hbm) (fun x hx hn => (hd.2.1 x.dest (List.mem_flatMap.2 ⟨_, hbm, List.mem_append.2 (.inr (List.mem_map.2 ⟨x, List.mem_filter.2 ⟨hx, hn⟩, rfl⟩))⟩)).1)]
  simp only [Sp.defsB, List.length_append]
  omega
include hf
theorem loop5_2 (at_ fnd sz : Int) {b : Nat} (hb : b < f.blocks.length) (h0 : 0 ≤ fnd) (h1 : fnd ≤ 65536) : whileO go5_l2 ((at_, (), fnd, sz, (b : Int), (), 0, ()), f, f.blk b, ()) =
    some (.inl ((at_, (), fnd + ((f.blk b).params.length : Int), sz, (b : Int), (), ()), f, f.blk b, ())) := by
  have hbk : (f.blk b).ok := Fn.ok_blk hf hb
  have hpl : (f.blk b).params.length ≤ LEN := hbk.1.len
  rw [lenVal] at hpl
  unfold go5_l2
  refine whileO_to (st := fun i => ((at_, (), fnd + (i : Int), sz, (b : Int), (), (i : Int), ()), f, f.blk b, ())) (by simp) (f.blk b).params.length (fun i hi => ?_) ?_
  · simp (maxSteps := 1000000) (disch := ((try dsimp only); omega)) only [↓grd_dec, ↓grd_blt, ↓grd_true, ↓jpO_eq, ↓callB_some, ↓callB_grd, ↓bif_decide, ↓sumO_inl, ↓sumO_inr, ↓if_pos, ↓if_neg, ↓cond_true, ↓cond_false, ↓bif_not, Int.toNat_natCast, Bool.not_true, Bool.not_false, decide_true, decide_false, Bool.false_eq_true, ↓if_true, ↓if_false, Int.natCast_add, Int.cast_ofNat_Int, Bool.not_eq_true', decide_eq_false_iff_not, not_true_eq_false, not_false_eq_true]
    rw [defOf_param hv hb hi]
    simp (maxSteps := 1000000) (disch := ((try dsimp only); omega)) only [↓grd_dec, ↓grd_blt, ↓grd_true, ↓jpO_eq, ↓callB_some, ↓callB_grd, ↓bif_decide, ↓sumO_inl, ↓sumO_inr, ↓if_pos, ↓if_neg, ↓cond_true, ↓cond_false, ↓bif_not, Int.toNat_natCast, Bool.not_true, Bool.not_false, decide_true, decide_false, Bool.false_eq_true, ↓if_true, ↓if_false, Int.natCast_add, Int.cast_ofNat_Int, Bool.not_eq_true', decide_eq_false_iff_not, not_true_eq_false, not_false_eq_true]
    simp [Int.add_assoc]
  · simp (maxSteps := 1000000) (disch := ((try dsimp only); omega)) only [↓grd_dec, ↓grd_blt, ↓grd_true, ↓jpO_eq, ↓callB_some, ↓callB_grd, ↓bif_decide, ↓sumO_inl, ↓sumO_inr, ↓if_pos, ↓if_neg, ↓cond_true, ↓cond_false, ↓bif_not, Int.toNat_natCast, Bool.not_true, Bool.not_false, decide_true, decide_false, Bool.false_eq_true, ↓if_true, ↓if_false, Int.natCast_add, Int.cast_ofNat_Int, Bool.not_eq_true', decide_eq_false_iff_not, not_true_eq_false, not_false_eq_true]
theorem loop5_3 (at_ fnd sz : Int) {b : Nat} (hb : b < f.blocks.length) (h0 : 0 ≤ fnd) (h1 : fnd ≤ 281474976776192) : whileO go5_l3 ((at_, (), fnd, sz, (b : Int), (), 0, ()), f, f.blk b, ()) =
    some (.inl ((at_, (), fnd + (Sp.c3 (f.blk b).insts (f.blk b).insts.length : Int), sz, (b : Int), ()), f, ())) := by
  have hil := insts_le hv hb
  unfold go5_l3 go5_j1
  refine whileO_to (st := fun i => ((at_, (), fnd + (Sp.c3 (f.blk b).insts i : Int), sz, (b : Int), (), (i : Int), ()), f, f.blk b, ())) (by simp [Sp.c3]) (f.blk b).insts.length (fun i hi => ?_) ?_
  · have hc := c3_le (f.blk b).insts i
    by_cases hd : ((f.blk b).insts.getD i Inst.z).dest < 0
    · simp only [Sp.c3, if_pos hd]
      simp (maxSteps := 1000000) (disch := ((try dsimp only); omega)) only [↓grd_dec, ↓grd_blt, ↓grd_true, ↓jpO_eq, ↓callB_some, ↓callB_grd, ↓bif_decide, ↓sumO_inl, ↓sumO_inr, ↓if_pos, ↓if_neg, ↓cond_true, ↓cond_false, ↓bif_not, Int.toNat_natCast, Bool.not_true, Bool.not_false, decide_true, decide_false, Bool.false_eq_true, ↓if_true, ↓if_false, Int.natCast_add, Int.cast_ofNat_Int, Bool.not_eq_true', decide_eq_false_iff_not, not_true_eq_false, not_false_eq_true]
      rfl
    · simp only [Sp.c3, if_neg hd]
      simp (maxSteps := 1000000) (disch := ((try dsimp only); omega)) only [↓grd_dec, ↓grd_blt, ↓grd_true, ↓jpO_eq, ↓callB_some, ↓callB_grd, ↓bif_decide, ↓sumO_inl, ↓sumO_inr, ↓if_pos, ↓if_neg, ↓cond_true, ↓cond_false, ↓bif_not, Int.toNat_natCast, Bool.not_true, Bool.not_false, decide_true, decide_false, Bool.false_eq_true, ↓if_true, ↓if_false, Int.natCast_add, Int.cast_ofNat_Int, Bool.not_eq_true', decide_eq_false_iff_not, not_true_eq_false, not_false_eq_true]
      rw [defOf_inst hv hb hi (by omega)]
      simp (maxSteps := 1000000) (disch := ((try dsimp only); omega)) only [↓grd_dec, ↓grd_blt, ↓grd_true, ↓jpO_eq, ↓callB_some, ↓callB_grd, ↓bif_decide, ↓sumO_inl, ↓sumO_inr, ↓if_pos, ↓if_neg, ↓cond_true, ↓cond_false, ↓bif_not, Int.toNat_natCast, Bool.not_true, Bool.not_false, decide_true, decide_false, Bool.false_eq_true, ↓if_true, ↓if_false, Int.natCast_add, Int.cast_ofNat_Int, Bool.not_eq_true', decide_eq_false_iff_not, not_true_eq_false, not_false_eq_true]
      simp [Int.add_assoc]
  · simp (maxSteps := 1000000) (disch := ((try dsimp only); omega)) only [↓grd_dec, ↓grd_blt, ↓grd_true, ↓jpO_eq, ↓callB_some, ↓callB_grd, ↓bif_decide, ↓sumO_inl, ↓sumO_inr, ↓if_pos, ↓if_neg, ↓cond_true, ↓cond_false, ↓bif_not, Int.toNat_natCast, Bool.not_true, Bool.not_false, decide_true, decide_false, Bool.false_eq_true, ↓if_true, ↓if_false, Int.natCast_add, Int.cast_ofNat_Int, Bool.not_eq_true', decide_eq_false_iff_not, not_true_eq_false, not_false_eq_true]
theorem loop5_1 (at_ : Int) : whileO go5_l1 ((at_, (), 0, 0, 0, ()), f, ()) =
    some (.inl ((at_, (), (Sp.dsum f.blocks f.blocks.length : Int), Sp.sizeL f.blocks f.blocks.length, ()), f, ())) := by
  have hbl := blocks_le hv
  have hdl := defs_le hv
  have hwl := widths_le hv
  rw [← dsum_all] at hdl
  unfold go5_l1
  refine whileO_to (st := fun i => ((at_, (), (Sp.dsum f.blocks i : Int), Sp.sizeL f.blocks i, (i : Int), ()), f, ())) rfl f.blocks.length (fun i hi => ?_) ?_
  · have h1 := sizeL_le (valid_short hv) i (by omega)
    have h2 := insts_le hv hi
    have h3 := dsum_le f.blocks (show i ≤ f.blocks.length by omega)
    have h4 := dsum_le f.blocks (show i + 1 ≤ f.blocks.length by omega)
    have h5 := insts_all hv hi
    have h6 := c3_le (f.blk i).insts (f.blk i).insts.length
    have e : f.blocks.getD i Block.z = f.blk i := rfl
    simp only [Sp.dsum, Sp.sizeL, e] at h4 ⊢
    simp (maxSteps := 1000000) (disch := ((try dsimp only); omega)) only [↓grd_dec, ↓grd_blt, ↓grd_true, ↓jpO_eq, ↓callB_some, ↓callB_grd, ↓bif_decide, ↓sumO_inl, ↓sumO_inr, ↓if_pos, ↓if_neg, ↓cond_true, ↓cond_false, ↓bif_not, Int.toNat_natCast, Bool.not_true, Bool.not_false, decide_true, decide_false, Bool.false_eq_true, ↓if_true, ↓if_false, Int.natCast_add, Int.cast_ofNat_Int, Bool.not_eq_true', decide_eq_false_iff_not, not_true_eq_false, not_false_eq_true]
    simp only [e]
    simp (maxSteps := 1000000) (disch := ((try dsimp only); omega)) only [↓grd_dec, ↓grd_blt, ↓grd_true, ↓jpO_eq, ↓callB_some, ↓callB_grd, ↓bif_decide, ↓sumO_inl, ↓sumO_inr, ↓if_pos, ↓if_neg, ↓cond_true, ↓cond_false, ↓bif_not, Int.toNat_natCast, Bool.not_true, Bool.not_false, decide_true, decide_false, Bool.false_eq_true, ↓if_true, ↓if_false, Int.natCast_add, Int.cast_ofNat_Int, Bool.not_eq_true', decide_eq_false_iff_not, not_true_eq_false, not_false_eq_true]
    refine callB_of (loop5_2 hf hv _ _ _ hi (by omega) (by omega)) ?_
    rw [sumO_inl]
    refine callB_of (loop5_3 hf hv _ _ _ hi (by dsimp only; omega) (by dsimp only; omega)) ?_
    simp (maxSteps := 1000000) (disch := ((try dsimp only); omega)) only [↓grd_dec, ↓grd_blt, ↓grd_true, ↓jpO_eq, ↓callB_some, ↓callB_grd, ↓bif_decide, ↓sumO_inl, ↓sumO_inr, ↓if_pos, ↓if_neg, ↓cond_true, ↓cond_false, ↓bif_not, Int.toNat_natCast, Bool.not_true, Bool.not_false, decide_true, decide_false, Bool.false_eq_true, ↓if_true, ↓if_false, Int.natCast_add, Int.cast_ofNat_Int, Bool.not_eq_true', decide_eq_false_iff_not, not_true_eq_false, not_false_eq_true]
    rw [← h5]
    simp only [Int.natCast_add, Int.add_assoc, Int.add_comm (Sp.c3 (f.blk i).insts (f.blk i).insts.length : Int)]
  · simp (maxSteps := 1000000) (disch := ((try dsimp only); omega)) only [↓grd_dec, ↓grd_blt, ↓grd_true, ↓jpO_eq, ↓callB_some, ↓callB_grd, ↓bif_decide, ↓sumO_inl, ↓sumO_inr, ↓if_pos, ↓if_neg, ↓cond_true, ↓cond_false, ↓bif_not, Int.toNat_natCast, Bool.not_true, Bool.not_false, decide_true, decide_false, Bool.false_eq_true, ↓if_true, ↓if_false, Int.natCast_add, Int.cast_ofNat_Int, Bool.not_eq_true', decide_eq_false_iff_not, not_true_eq_false, not_false_eq_true]
theorem loop5_4 (at_ fnd sz : Int) : whileO go5_l4 ((at_, (), fnd, sz, 0, -2, ()), f, ()) = some (.inl ((at_, (), fnd, sz, ((f.blocks.flatMap Sp.defsB).length : Int), ()), f, ())) := by
  have hwl := widths_le hv
  have hd := valid_defs hv
  have hc : cnt (fun x => (f.blocks.flatMap Sp.defsB).contains x) (-2) (f.widths.length + 4) = (f.blocks.flatMap Sp.defsB).length := cnt_mem _ _ _ hd.1 (fun v h => by have := hd.2.1 v h; omega)
  rw [← hc]
  unfold go5_l4 go5_j2
  refine whileO_to (st := fun i => ((at_, (), fnd, sz, (cnt (fun x => (f.blocks.flatMap Sp.defsB).contains x) (-2) i : Int), -2 + (i : Int), ()), f, ())) (by simp [cnt]) (f.widths.length + 4) (fun i hi => ?_) ?_
  · have hc := cnt_le (fun x => (f.blocks.flatMap Sp.defsB).contains x) (-2) i
    simp (maxSteps := 1000000) (disch := ((try dsimp only); omega)) only [↓grd_dec, ↓grd_blt, ↓grd_true, ↓jpO_eq, ↓callB_some, ↓callB_grd, ↓bif_decide, ↓sumO_inl, ↓sumO_inr, ↓if_pos, ↓if_neg, ↓cond_true, ↓cond_false, ↓bif_not, Int.toNat_natCast, Bool.not_true, Bool.not_false, decide_true, decide_false, Bool.false_eq_true, ↓if_true, ↓if_false, Int.natCast_add, Int.cast_ofNat_Int, Bool.not_eq_true', decide_eq_false_iff_not, not_true_eq_false, not_false_eq_true]
    cases hm : (Sp.defOf f (-2 + (i : Int))).2.2.1 with
    | true =>
      have e : (f.blocks.flatMap Sp.defsB).contains (-2 + (i : Int)) = true := List.contains_iff_mem.2 (defOf_mem.1 hm)
      simp only [cnt, e, if_true]
      simp (maxSteps := 1000000) (disch := ((try dsimp only); omega)) only [↓grd_dec, ↓grd_blt, ↓grd_true, ↓jpO_eq, ↓callB_some, ↓callB_grd, ↓bif_decide, ↓sumO_inl, ↓sumO_inr, ↓if_pos, ↓if_neg, ↓cond_true, ↓cond_false, ↓bif_not, Int.toNat_natCast, Bool.not_true, Bool.not_false, decide_true, decide_false, Bool.false_eq_true, ↓if_true, ↓if_false, Int.natCast_add, Int.cast_ofNat_Int, Bool.not_eq_true', decide_eq_false_iff_not, not_true_eq_false, not_false_eq_true]
      simp [Int.add_assoc]
    | false =>
      have e : (f.blocks.flatMap Sp.defsB).contains (-2 + (i : Int)) = false := by
        cases h : (f.blocks.flatMap Sp.defsB).contains (-2 + (i : Int)) with
        | false => rfl
        | true => rw [defOf_mem.2 (List.contains_iff_mem.1 h)] at hm; cases hm
      simp only [cnt, e, if_false]
      rw [defOf_not hm]
      simp (maxSteps := 1000000) (disch := ((try dsimp only); omega)) only [↓grd_dec, ↓grd_blt, ↓grd_true, ↓jpO_eq, ↓callB_some, ↓callB_grd, ↓bif_decide, ↓sumO_inl, ↓sumO_inr, ↓if_pos, ↓if_neg, ↓cond_true, ↓cond_false, ↓bif_not, Int.toNat_natCast, Bool.not_true, Bool.not_false, decide_true, decide_false, Bool.false_eq_true, ↓if_true, ↓if_false, Int.natCast_add, Int.cast_ofNat_Int, Bool.not_eq_true', decide_eq_false_iff_not, not_true_eq_false, not_false_eq_true]
      simp [Int.add_assoc]
  · simp (maxSteps := 1000000) (disch := ((try dsimp only); omega)) only [↓grd_dec, ↓grd_blt, ↓grd_true, ↓jpO_eq, ↓callB_some, ↓callB_grd, ↓bif_decide, ↓sumO_inl, ↓sumO_inr, ↓if_pos, ↓if_neg, ↓cond_true, ↓cond_false, ↓bif_not, Int.toNat_natCast, Bool.not_true, Bool.not_false, decide_true, decide_false, Bool.false_eq_true, ↓if_true, ↓if_false, Int.natCast_add, Int.cast_ofNat_Int, Bool.not_eq_true', decide_eq_false_iff_not, not_true_eq_false, not_false_eq_true]
end
theorem ok5 (f : Fn) (v : Int) (hf : f.ok) : go5 f v = some (true, ()) := by
  unfold go5
  rw [grd_ok hf, grd_ok hf]
  cases h1 : Sp.few f with
  | false => rfl
  | true =>
    cases h2 : Sp.valid f with
    | false => rfl
    | true =>
      simp (maxSteps := 1000000) (disch := ((try dsimp only); omega)) only [↓grd_dec, ↓grd_blt, ↓grd_true, ↓jpO_eq, ↓callB_some, ↓callB_grd, ↓bif_decide, ↓sumO_inl, ↓sumO_inr, ↓if_pos, ↓if_neg, ↓cond_true, ↓cond_false, ↓bif_not, Int.toNat_natCast, Bool.not_true, Bool.not_false, decide_true, decide_false, Bool.false_eq_true, ↓if_true, ↓if_false, Int.natCast_add, Int.cast_ofNat_Int, Bool.not_eq_true', decide_eq_false_iff_not, not_true_eq_false, not_false_eq_true]
      refine callB_of (loop5_1 hf h2 v) ?_
      rw [sumO_inl]
      refine callB_of (loop5_4 hf h2 _ _ _) ?_
      rw [sumO_inl]
      simp (maxSteps := 1000000) (disch := ((try dsimp only); omega)) only [↓grd_dec, ↓grd_blt, ↓grd_true, ↓jpO_eq, ↓callB_some, ↓callB_grd, ↓bif_decide, ↓sumO_inl, ↓sumO_inr, ↓if_pos, ↓if_neg, ↓cond_true, ↓cond_false, ↓bif_not, Int.toNat_natCast, Bool.not_true, Bool.not_false, decide_true, decide_false, Bool.false_eq_true, ↓if_true, ↓if_false, Int.natCast_add, Int.cast_ofNat_Int, Bool.not_eq_true', decide_eq_false_iff_not, not_true_eq_false, not_false_eq_true]
      rw [grd_ok (valid_short h2), dsum_all]
      simp (maxSteps := 1000000) (disch := ((try dsimp only); omega)) only [↓grd_dec, ↓grd_blt, ↓grd_true, ↓jpO_eq, ↓callB_some, ↓callB_grd, ↓bif_decide, ↓sumO_inl, ↓sumO_inr, ↓if_pos, ↓if_neg, ↓cond_true, ↓cond_false, ↓bif_not, Int.toNat_natCast, Bool.not_true, Bool.not_false, decide_true, decide_false, Bool.false_eq_true, ↓if_true, ↓if_false, Int.natCast_add, Int.cast_ofNat_Int, Bool.not_eq_true', decide_eq_false_iff_not, not_true_eq_false, not_false_eq_true]
      cases hm : (Sp.defOf f v).2.2.1 with
      | false => simp
      | true =>
        have := (valid_defs h2).2.1 v (defOf_mem.1 hm)
        simp (maxSteps := 1000000) (disch := ((try dsimp only); omega)) only [↓grd_dec, ↓grd_blt, ↓grd_true, ↓jpO_eq, ↓callB_some, ↓callB_grd, ↓bif_decide, ↓sumO_inl, ↓sumO_inr, ↓if_pos, ↓if_neg, ↓cond_true, ↓cond_false, ↓bif_not, Int.toNat_natCast, Bool.not_true, Bool.not_false, decide_true, decide_false, Bool.false_eq_true, ↓if_true, ↓if_false, Int.natCast_add, Int.cast_ofNat_Int, Bool.not_eq_true', decide_eq_false_iff_not, not_true_eq_false, not_false_eq_true]
def c5 : Ctr Try.prog := mkCtr 5 Try.f5 Try.func5 [c12, c17, c18, c21, c22] ann5 [(0, (.st 6)), (1, (.i .i64))] [] .b [] (fun x _ => grd (okB x.1.ok) (some (true, ()))) (fun x _ r h => FO (run5 x.1 x.2.1) (ok5 x.1 x.2.1) h)
theorem irDefs_pc (f : Fn) (hf : f.ok) (a : Int) (ha : I64 a) : PC Try.prog 5 [f.v, .t (.int .i64 a)] (.t (.bool true)) := by
  have h := Ctr.pc (c := c5) (us := [.st 6 f, .i .i64 a]) (z := ⟨[], (f, a, ()), ()⟩) rfl rfl (res := (true, ())) (grd_ok hf)
  simp only [List.map_cons, List.map_nil, toV, mkE] at h
  exact h
end
end Go.Abs
