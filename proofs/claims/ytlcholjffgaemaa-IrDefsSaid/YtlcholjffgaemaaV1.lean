/-
What the functions compute that call no others.
No statement of the program is proved here.
-/
import Derived.Test.YtlcholjffgaemaaHB
import Derived.Test.YtlcholjffgaemaaTe
set_option linter.unusedVariables false
set_option linter.unusedSectionVars false
set_option linter.unusedSimpArgs false
set_option maxHeartbeats 1000000
namespace Go.Abs
open Go Go.Proofs
noncomputable section
def ann42 : Ann := (.seq .o (.seq .o .o))
def go42 (x0 : Int) : (Option (Bool × Unit)) :=
  (bif (decide ((2 : Int) ≤ x0)) then
    (some ((decide (x0 ≤ (20 : Int))), ()))
    else
    (some (false, ())))
theorem run42 (x0 : Int) : runF (P := Try.prog) [] Try.f42 ann42 [(0, (.i .i64))] [] .b [] (x0, ()) () = go42 x0 := by kernel_rfl
def ann43 : Ann := (.seq .o (.seq .o .o))
def go43 (x0 : Int) : (Option (Bool × Unit)) :=
  (bif (decide ((2 : Int) ≤ x0)) then
    (some ((decide (x0 ≤ (20 : Int))), ()))
    else
    (some (false, ())))
theorem run43 (x0 : Int) : runF (P := Try.prog) [] Try.f43 ann43 [(0, (.i .i64))] [] .b [] (x0, ()) () = go43 x0 := by kernel_rfl
def ann15 : Ann := (.seq .o (.seq .o .o))
def go15 (x0 : Int) : (Option (Bool × Unit)) :=
  (bif (decide ((1 : Int) ≤ x0)) then
    (some ((decide (x0 ≤ (24 : Int))), ()))
    else
    (some (false, ())))
theorem run15 (x0 : Int) : runF (P := Try.prog) [] Try.f15 ann15 [(0, (.i .i64))] [] .b [] (x0, ()) () = go15 x0 := by kernel_rfl
def ann92 : Ann := (.seq .o (.seq .o .o))
def go92 (x0 : Int) : (Option (Bool × Unit)) :=
  (bif (decide ((1 : Int) ≤ x0)) then
    (some ((decide (x0 ≤ (64 : Int))), ()))
    else
    (some (false, ())))
theorem run92 (x0 : Int) : runF (P := Try.prog) [] Try.f92 ann92 [(0, (.i .i64))] [] .b [] (x0, ()) () = go92 x0 := by kernel_rfl
def ann94 : Ann := (.seq .o (.seq .o .o))
def go94 (x0 : Int) : (Option (Bool × Unit)) :=
  (bif (decide ((15 : Int) ≤ x0)) then
    (some ((decide (x0 ≤ (20 : Int))), ()))
    else
    (some (false, ())))
theorem run94 (x0 : Int) : runF (P := Try.prog) [] Try.f94 ann94 [(0, (.i .i64))] [] .b [] (x0, ()) () = go94 x0 := by kernel_rfl
def ann90 : Ann := (.seq .o (.seq .o .o))
def go90 (x0 : Int) : (Option (Bool × Unit)) :=
  (bif (decide ((97 : Int) ≤ x0)) then
    (bif (decide (x0 ≤ (122 : Int))) then
      (some (true, ()))
      else
      (bif (decide ((65 : Int) ≤ x0)) then
        (bif (decide (x0 ≤ (90 : Int))) then
          (some (true, ()))
          else
          (some ((decide (x0 = (95 : Int))), ())))
        else
        (some ((decide (x0 = (95 : Int))), ()))))
    else
    (bif (decide ((65 : Int) ≤ x0)) then
      (bif (decide (x0 ≤ (90 : Int))) then
        (some (true, ()))
        else
        (some ((decide (x0 = (95 : Int))), ())))
      else
      (some ((decide (x0 = (95 : Int))), ()))))
theorem run90 (x0 : Int) : runF (P := Try.prog) [] Try.f90 ann90 [(0, (.i .u8))] [] .b [] (x0, ()) () = go90 x0 := by kernel_rfl
def ann47 : Ann := (.seq .o (.seq .o .o))
def go47 (x0 : Fn) (x1 : Int) : (Option (Bool × Unit)) :=
  (bif (decide ((0 : Int) ≤ x1)) then
    (some ((decide (x1 < ((x0.widths.length : Nat) : Int))), ()))
    else
    (some (false, ())))
theorem run47 (x0 : Fn) (x1 : Int) : runF (P := Try.prog) [] Try.f47 ann47 [(0, (.st 6)), (1, (.i .i64))] [] .b [] (x0, (x1, ())) () = go47 x0 x1 := by kernel_rfl
def ann78 : Ann := (.seq .o (.seq .o .o))
def go78 (x0 : Int) : (Option (Int × Unit)) :=
  (some ((if ((64 : Int) < (if ((0 : Int) > x0) then (0 : Int) else x0)) then (64 : Int) else (if ((0 : Int) > x0) then (0 : Int) else x0)), ()))
theorem run78 (x0 : Int) : runF (P := Try.prog) [] Try.f78 ann78 [(0, (.i .i64))] [] (.i .i64) [] (x0, ()) () = go78 x0 := by kernel_rfl
def ann17 : Ann := (.seq .o (.seq .o (.join ⟨[(1, (.ptr 0 0)), (3, (.i .i64))], [(.box 30 (.st 6))]⟩ (.seq .o (.block (.loop ⟨[(1, (.ptr 0 0)), (3, (.i .i64)), (4, (.i .i64))], [(.box 30 (.st 6))]⟩ [((.exit 0), ⟨[(1, (.ptr 0 0)), (3, (.i .i64))], [(.box 30 (.st 6))]⟩), (.ret, ⟨[(2, .b)], []⟩)] (.join ⟨[(1, (.ptr 0 0)), (3, (.i .i64)), (4, (.i .i64))], [(.box 30 (.st 6))]⟩ (.seq .o (.cond .o .o)) (.join ⟨[(1, (.ptr 0 0)), (3, (.i .i64)), (4, (.i .i64))], [(.box 30 (.st 6))]⟩ (.block (.seq .w (.seq .o (.cond (.seq .o .o) .o)))) .o))))) (.seq .o .o))))
def go17_l1 : ((Unit × (Int × (Int × Unit))) × (Fn × Unit)) → Option (((Unit × (Int × (Int × Unit))) × (Fn × Unit)) ⊕ (((Unit × (Int × Unit)) × (Fn × Unit)) ⊕ ((Bool × Unit) × Unit))) := (fun (r0 : ((Unit × (Int × (Int × Unit))) × (Fn × Unit))) => (bif (decide (r0.1.2.2.1 < ((r0.2.1.blocks.length : Nat) : Int))) then
      (grd (okB (((0 : Int) ≤ r0.1.2.2.1) ∧ (r0.1.2.2.1 < ((r0.2.1.blocks.length : Nat) : Int))))
        (grd (okB (((0 : Int) ≤ r0.1.2.2.1) ∧ (r0.1.2.2.1 < ((r0.2.1.blocks.length : Nat) : Int))))
          (bif (decide ((100 : Int) < (((r0.2.1.blocks.getD r0.1.2.2.1.toNat Block.z).params.length : Nat) : Int))) then
            (some (Sum.inr (Sum.inr ((false, ()), ()))))
            else
            (grd (okB (((-(9223372036854775808 : Int)) ≤ (r0.1.2.2.1 + (1 : Int))) ∧ ((r0.1.2.2.1 + (1 : Int)) ≤ (9223372036854775807 : Int))))
              (some (Sum.inl (((), ((Go.IntKind.wrap Go.IntKind.i64 (r0.1.2.1 + (((r0.2.1.blocks.getD r0.1.2.2.1.toNat Block.z).insts.length : Nat) : Int))), ((r0.1.2.2.1 + (1 : Int)), ()))), (r0.2.1, ()))))))))
      else
      (some (Sum.inr (Sum.inl (((), (r0.1.2.1, ())), (r0.2.1, ())))))))
def go17 (x0 : Fn) : (Option (Bool × Unit)) :=
  (callB (whileO (go17_l1) (((), ((0 : Int), ((0 : Int), ()))), (x0, ())))
    (fun (z0 : (((Unit × (Int × Unit)) × (Fn × Unit)) ⊕ ((Bool × Unit) × Unit))) => (sumO (fun (z1 : ((Unit × (Int × Unit)) × (Fn × Unit))) => (bif (decide (((z1.2.1.blocks.length : Nat) : Int) ≤ (30 : Int))) then
            (bif (decide (z1.1.2.1 ≤ (300 : Int))) then
              (some ((decide (((z1.2.1.widths.length : Nat) : Int) ≤ (600 : Int))), ()))
              else
              (some (false, ())))
            else
            (some (false, ()))))
        (fun (z1 : ((Bool × Unit) × Unit)) => (some (z1.1.1, ()))) z0)))
theorem run17 (x0 : Fn) : runF (P := Try.prog) [] Try.f17 ann17 [(0, (.st 6))] [] .b [] (x0, ()) () = go17 x0 := by kernel_rfl
def ann91 : Ann := (.seq .o (.seq .o (.join ⟨[(0, (.i .u8)), (1, (.i .i64)), (5, (.i .i64))], []⟩ (.seq .o (.cond .o .o)) (.join ⟨[(0, (.i .u8)), (1, (.i .i64)), (5, (.i .i64))], []⟩ (.seq .o (.cond .o .o)) (.join ⟨[(1, (.i .i64)), (5, (.i .i64))], []⟩ (.seq .o (.cond .o .o)) (.join ⟨[(5, (.i .i64))], []⟩ (.seq .o (.cond (.seq .o .o) .o)) (.seq .o .o)))))))
def go91_j3 : ((Int × (Int × Unit)) × Unit) → Option (Int × Unit) := (fun (z2 : ((Int × (Int × Unit)) × Unit)) => (bif (decide (z2.1.1 ≤ z2.1.2.1)) then
      (some ((-(1 : Int)), ()))
      else
      (some (z2.1.2.1, ()))))
def go91_j2 : ((Int × (Int × (Int × Unit))) × Unit) → Option (Int × Unit) := (fun (z1 : ((Int × (Int × (Int × Unit))) × Unit)) => (jpO (go91_j3)
      (fun (j0 : (((Int × (Int × Unit)) × Unit) → (Option (Int × Unit)))) => (bif (decide ((65 : Int) ≤ z1.1.1)) then
          (bif (decide (z1.1.1 ≤ (70 : Int))) then
            (grd (okB (((-(9223372036854775808 : Int)) ≤ ((Go.IntKind.wrap Go.IntKind.i64 (Go.IntKind.wrap Go.IntKind.u8 (z1.1.1 - (65 : Int)))) + (10 : Int))) ∧ (((Go.IntKind.wrap Go.IntKind.i64 (Go.IntKind.wrap Go.IntKind.u8 (z1.1.1 - (65 : Int)))) + (10 : Int)) ≤ (9223372036854775807 : Int))))
              (j0 ((z1.1.2.1, (((Go.IntKind.wrap Go.IntKind.i64 (Go.IntKind.wrap Go.IntKind.u8 (z1.1.1 - (65 : Int)))) + (10 : Int)), ())), ())))
            else
            (j0 ((z1.1.2.1, (z1.1.2.2.1, ())), ())))
          else
          (j0 ((z1.1.2.1, (z1.1.2.2.1, ())), ()))))))
def go91_j1 : ((Int × (Int × (Int × Unit))) × Unit) → Option (Int × Unit) := (fun (z0 : ((Int × (Int × (Int × Unit))) × Unit)) => (jpO (go91_j2)
      (fun (j0 : (((Int × (Int × (Int × Unit))) × Unit) → (Option (Int × Unit)))) => (bif (decide ((97 : Int) ≤ z0.1.1)) then
          (bif (decide (z0.1.1 ≤ (102 : Int))) then
            (grd (okB (((-(9223372036854775808 : Int)) ≤ ((Go.IntKind.wrap Go.IntKind.i64 (Go.IntKind.wrap Go.IntKind.u8 (z0.1.1 - (97 : Int)))) + (10 : Int))) ∧ (((Go.IntKind.wrap Go.IntKind.i64 (Go.IntKind.wrap Go.IntKind.u8 (z0.1.1 - (97 : Int)))) + (10 : Int)) ≤ (9223372036854775807 : Int))))
              (j0 ((z0.1.1, (z0.1.2.1, (((Go.IntKind.wrap Go.IntKind.i64 (Go.IntKind.wrap Go.IntKind.u8 (z0.1.1 - (97 : Int)))) + (10 : Int)), ()))), ())))
            else
            (j0 ((z0.1.1, (z0.1.2.1, (z0.1.2.2.1, ()))), ())))
          else
          (j0 ((z0.1.1, (z0.1.2.1, (z0.1.2.2.1, ()))), ()))))))
def go91 (x0 : Int) (x1 : Int) : (Option (Int × Unit)) :=
  (jpO (go91_j1)
    (fun (j0 : (((Int × (Int × (Int × Unit))) × Unit) → (Option (Int × Unit)))) => (bif (decide ((48 : Int) ≤ x0)) then
        (bif (decide (x0 ≤ (57 : Int))) then
          (j0 ((x0, (x1, ((Go.IntKind.wrap Go.IntKind.i64 (Go.IntKind.wrap Go.IntKind.u8 (x0 - (48 : Int)))), ()))), ()))
          else
          (j0 ((x0, (x1, ((-(1 : Int)), ()))), ())))
        else
        (j0 ((x0, (x1, ((-(1 : Int)), ()))), ())))))
theorem run91 (x0 : Int) (x1 : Int) : runF (P := Try.prog) [] Try.f91 ann91 [(0, (.i .u8)), (1, (.i .i64))] [] (.i .i64) [] (x0, (x1, ())) () = go91 x0 x1 := by kernel_rfl
def ann20 : Ann := (.seq .o (.join ⟨[(1, (.i .i64)), (2, (.ptr 0 0))], [(.box 30 (.st 6))]⟩ (.seq .o (.cond (.seq .o .o) .o)) (.seq .o (.join ⟨[(1, (.i .i64)), (5, (.fz (.st 1)))], []⟩ (.seq .o (.cond (.seq .o .o) .o)) (.join ⟨[], []⟩ (.seq .o (.cond (.seq .o .o) .o)) (.seq .o .o))))))
def go20 (x0 : Fn) (x1 : Int) : (Option (Int × Unit)) :=
  (bif (decide (x1 < (0 : Int))) then
    (some ((-(1 : Int)), ()))
    else
    (bif (decide (((x0.blocks.length : Nat) : Int) ≤ x1)) then
      (some ((-(1 : Int)), ()))
      else
      (grd (okB (((0 : Int) ≤ x1) ∧ (x1 < ((x0.blocks.length : Nat) : Int))))
        (bif (!(decide ((x0.blocks.getD x1.toNat Block.z).term.kind = (2 : Int)))) then
          (some ((-(1 : Int)), ()))
          else
          (grd (okB (((0 : Int) ≤ x1) ∧ (x1 < ((x0.blocks.length : Nat) : Int))))
            (grd (okB (((0 : Int) ≤ (0 : Int)) ∧ ((0 : Int) < (((x0.blocks.getD x1.toNat Block.z).term.to.length : Nat) : Int))))
              (grd (okB (((0 : Int) ≤ (1 : Int)) ∧ ((1 : Int) < (((x0.blocks.getD x1.toNat Block.z).term.to.length : Nat) : Int))))
                (bif ((decide (((x0.blocks.getD x1.toNat Block.z).term.to.getD (0 : Int).toNat Edge.z).block = x1)) == (decide (((x0.blocks.getD x1.toNat Block.z).term.to.getD (1 : Int).toNat Edge.z).block = x1))) then
                  (some ((-(1 : Int)), ()))
                  else
                  (grd (okB (((0 : Int) ≤ (0 : Int)) ∧ ((0 : Int) < (((x0.blocks.getD x1.toNat Block.z).term.to.length : Nat) : Int))))
                    (bif (decide (((x0.blocks.getD x1.toNat Block.z).term.to.getD (0 : Int).toNat Edge.z).block = x1)) then
                      (some ((0 : Int), ()))
                      else
                      (some ((1 : Int), ()))))))))))))
theorem run20 (x0 : Fn) (x1 : Int) : runF (P := Try.prog) [] Try.f20 ann20 [(0, (.st 6)), (1, (.i .i64))] [] (.i .i64) [] (x0, (x1, ())) () = go20 x0 x1 := by kernel_rfl
def ann19 : Ann := (.seq .o (.join ⟨[(1, (.i .i64)), (2, (.ptr 0 0))], [(.box 30 (.st 6))]⟩ (.seq .o (.cond (.seq .o .o) .o)) (.seq .o (.join ⟨[(6, (.i .i64)), (7, (.i .i64))], []⟩ (.seq .o (.block (.loop ⟨[(1, (.i .i64)), (6, (.i .i64)), (7, (.i .i64)), (35, (.fz (.st 1))), (36, (.i .i64)), (37, (.i .i64))], []⟩ [((.exit 0), ⟨[(6, (.i .i64)), (7, (.i .i64))], []⟩)] (.seq .o (.join ⟨[(1, (.i .i64)), (6, (.i .i64)), (7, (.i .i64)), (35, (.fz (.st 1))), (36, (.i .i64)), (37, (.i .i64))], []⟩ (.cond .o .o) (.join ⟨[(1, (.i .i64)), (6, (.i .i64)), (7, (.i .i64)), (35, (.fz (.st 1))), (36, (.i .i64)), (37, (.i .i64))], []⟩ (.block (.seq .o (.seq .o (.cond (.seq .o .o) .o)))) .o)))))) (.join ⟨[(6, (.i .i64))], []⟩ (.seq .o (.cond (.seq .o .o) .o)) (.seq .o .o))))))
def go19_j1 : ((Int × (Int × (Int × ((List Edge) × (Int × (Int × Unit)))))) × Unit) → Option (((Int × (Int × (Int × ((List Edge) × (Int × (Int × Unit)))))) × Unit) ⊕ ((Int × (Int × Unit)) × Unit)) := (fun (z0 : ((Int × (Int × (Int × ((List Edge) × (Int × (Int × Unit)))))) × Unit)) => (grd (okB (((-(9223372036854775808 : Int)) ≤ (z0.1.2.2.2.2.2.1 + (1 : Int))) ∧ ((z0.1.2.2.2.2.2.1 + (1 : Int)) ≤ (9223372036854775807 : Int))))
      (some (Sum.inl ((z0.1.1, (z0.1.2.1, (z0.1.2.2.1, (z0.1.2.2.2.1, (z0.1.2.2.2.2.1, ((z0.1.2.2.2.2.2.1 + (1 : Int)), ())))))), ())))))
def go19_l1 : ((Int × (Int × (Int × ((List Edge) × (Int × (Int × Unit)))))) × Unit) → Option (((Int × (Int × (Int × ((List Edge) × (Int × (Int × Unit)))))) × Unit) ⊕ ((Int × (Int × Unit)) × Unit)) := (fun (r0 : ((Int × (Int × (Int × ((List Edge) × (Int × (Int × Unit)))))) × Unit)) => (bif (decide (r0.1.2.2.2.2.2.1 < r0.1.2.2.2.2.1)) then
      (jpO (go19_j1)
        (fun (j0 : (((Int × (Int × (Int × ((List Edge) × (Int × (Int × Unit)))))) × Unit) → (Option (((Int × (Int × (Int × ((List Edge) × (Int × (Int × Unit)))))) × Unit) ⊕ ((Int × (Int × Unit)) × Unit))))) => (grd (okB (((0 : Int) ≤ r0.1.2.2.2.2.2.1) ∧ (r0.1.2.2.2.2.2.1 < ((r0.1.2.2.2.1.length : Nat) : Int))))
            (bif (decide ((r0.1.2.2.2.1.getD r0.1.2.2.2.2.2.1.toNat Edge.z).block = r0.1.1)) then
              (grd (okB (((-(9223372036854775808 : Int)) ≤ (r0.1.2.2.1 + (1 : Int))) ∧ ((r0.1.2.2.1 + (1 : Int)) ≤ (9223372036854775807 : Int))))
                (j0 ((r0.1.1, (r0.1.2.2.2.2.2.1, ((r0.1.2.2.1 + (1 : Int)), (r0.1.2.2.2.1, (r0.1.2.2.2.2.1, (r0.1.2.2.2.2.2.1, ())))))), ())))
              else
              (j0 ((r0.1.1, (r0.1.2.1, (r0.1.2.2.1, (r0.1.2.2.2.1, (r0.1.2.2.2.2.1, (r0.1.2.2.2.2.2.1, ())))))), ()))))))
      else
      (some (Sum.inr ((r0.1.2.1, (r0.1.2.2.1, ())), ())))))
def go19 (x0 : Fn) (x1 : Int) : (Option ((Int × (Bool × Unit)) × Unit)) :=
  (bif (decide (x1 < (0 : Int))) then
    (some (((0 : Int), (false, ())), ()))
    else
    (bif (decide (((x0.blocks.length : Nat) : Int) ≤ x1)) then
      (some (((0 : Int), (false, ())), ()))
      else
      (grd (okB (((0 : Int) ≤ x1) ∧ (x1 < ((x0.blocks.length : Nat) : Int))))
        (bif (!(decide ((x0.blocks.getD x1.toNat Block.z).term.kind = (2 : Int)))) then
          (some (((0 : Int), (false, ())), ()))
          else
          (grd (okB (((0 : Int) ≤ x1) ∧ (x1 < ((x0.blocks.length : Nat) : Int))))
            (callB (whileO (go19_l1) ((x1, ((0 : Int), ((0 : Int), ((x0.blocks.getD x1.toNat Block.z).term.to, ((((x0.blocks.getD x1.toNat Block.z).term.to.length : Nat) : Int), ((0 : Int), ())))))), ()))
              (fun (z0 : ((Int × (Int × Unit)) × Unit)) => (bif (!(decide (z0.1.2.1 = (1 : Int)))) then
                  (some (((0 : Int), (false, ())), ()))
                  else
                  (some ((z0.1.1, (true, ())), ()))))))))))
theorem run19 (x0 : Fn) (x1 : Int) : runF (P := Try.prog) [] Try.f19 ann19 [(0, (.st 6)), (1, (.i .i64))] [] (.tup [(.i .i64), .b]) [] (x0, (x1, ())) () = go19 x0 x1 := by kernel_rfl
def ann79 : Ann := (.seq .o (.seq .o (.join ⟨[(3, (.i .u64))], []⟩ (.seq .o (.block (.loop ⟨[(0, (.fz (.int .i64))), (3, (.i .u64)), (4, (.i .i64))], []⟩ [((.exit 0), ⟨[(3, (.i .u64))], []⟩)] (.join ⟨[(0, (.fz (.int .i64))), (3, (.i .u64)), (4, (.i .i64))], []⟩ (.seq .o (.cond .o .o)) (.join ⟨[(0, (.fz (.int .i64))), (3, (.i .u64)), (4, (.i .i64))], []⟩ (.block .o) .o))))) (.seq .o .o))))
def go79_l1 : (((List Int) × (Int × (Int × Unit))) × Unit) → Option ((((List Int) × (Int × (Int × Unit))) × Unit) ⊕ ((Int × Unit) × Unit)) := (fun (r0 : (((List Int) × (Int × (Int × Unit))) × Unit)) => (bif (decide ((0 : Int) ≤ r0.1.2.2.1)) then
      (grd (okB (((0 : Int) ≤ r0.1.2.2.1) ∧ (r0.1.2.2.1 < ((r0.1.1.length : Nat) : Int))))
        (grd (okB (((-(9223372036854775808 : Int)) ≤ (r0.1.2.2.1 - (1 : Int))) ∧ ((r0.1.2.2.1 - (1 : Int)) ≤ (9223372036854775807 : Int))))
          (some (Sum.inl ((r0.1.1, ((Go.IntKind.wrap Go.IntKind.u64 ((Go.IntKind.wrap Go.IntKind.u64 ((2 : Int) * r0.1.2.1)) + (Go.IntKind.wrap Go.IntKind.u64 (r0.1.1.getD r0.1.2.2.1.toNat (0 : Int))))), ((r0.1.2.2.1 - (1 : Int)), ()))), ())))))
      else
      (some (Sum.inr ((r0.1.2.1, ()), ())))))
def go79 (x0 : (List Int)) : (Option (Int × Unit)) :=
  (grd (okB (((-(9223372036854775808 : Int)) ≤ (((x0.length : Nat) : Int) - (1 : Int))) ∧ ((((x0.length : Nat) : Int) - (1 : Int)) ≤ (9223372036854775807 : Int))))
    (callB (whileO (go79_l1) ((x0, ((0 : Int), ((((x0.length : Nat) : Int) - (1 : Int)), ()))), ()))
      (fun (z0 : ((Int × Unit) × Unit)) => (some (z0.1.1, ())))))
theorem run79 (x0 : (List Int)) : runF (P := Try.prog) [] Try.f79 ann79 [(0, (.fz (.int .i64)))] [] (.i .u64) [] (x0, ()) () = go79 x0 := by kernel_rfl

def Sp.isBinary (op : Int) : Bool := decide (2 ≤ op) && decide (op ≤ 20)
theorem ok42 (op : Int) : go42 op = some (Sp.isBinary op, ()) := by
  unfold go42 Sp.isBinary
  by_cases h : 2 ≤ op <;> simp [h]
def c42 : Ctr Try.prog := mkCtr 42 Try.f42 Try.func42 [] ann42 [(0, (.i .i64))] [] .b [] (fun x _ => some (Sp.isBinary x.1, ())) (fun x _ r h => FE (run42 x.1) (ok42 x.1) h)
theorem ok43 (op : Int) : go43 op = some (Sp.isBinary op, ()) := by
  unfold go43 Sp.isBinary
  by_cases h : 2 ≤ op <;> simp [h]
def c43 : Ctr Try.prog := mkCtr 43 Try.f43 Try.func43 [] ann43 [(0, (.i .i64))] [] .b [] (fun x _ => some (Sp.isBinary x.1, ())) (fun x _ r h => FE (run43 x.1) (ok43 x.1) h)
def Sp.pureOp (op : Int) : Bool := decide (1 ≤ op) && decide (op ≤ 24)
theorem ok15 (op : Int) : go15 op = some (Sp.pureOp op, ()) := by
  unfold go15 Sp.pureOp
  by_cases h : 1 ≤ op <;> simp [h]
def c15 : Ctr Try.prog := mkCtr 15 Try.f15 Try.func15 [] ann15 [(0, (.i .i64))] [] .b [] (fun x _ => some (Sp.pureOp x.1, ())) (fun x _ r h => FE (run15 x.1) (ok15 x.1) h)
def Sp.right (w : Int) : Bool := decide (1 ≤ w) && decide (w ≤ 64)
theorem ok92 (op : Int) : go92 op = some (Sp.right op, ()) := by
  unfold go92 Sp.right
  by_cases h : 1 ≤ op <;> simp [h]
def c92 : Ctr Try.prog := mkCtr 92 Try.f92 Try.func92 [] ann92 [(0, (.i .i64))] [] .b [] (fun x _ => some (Sp.right x.1, ())) (fun x _ r h => FE (run92 x.1) (ok92 x.1) h)
def Sp.isCompare (op : Int) : Bool := decide (15 ≤ op) && decide (op ≤ 20)
theorem ok94 (op : Int) : go94 op = some (Sp.isCompare op, ()) := by
  unfold go94 Sp.isCompare
  by_cases h : 15 ≤ op <;> simp [h]
def c94 : Ctr Try.prog := mkCtr 94 Try.f94 Try.func94 [] ann94 [(0, (.i .i64))] [] .b [] (fun x _ => some (Sp.isCompare x.1, ())) (fun x _ r h => FE (run94 x.1) (ok94 x.1) h)
def Sp.letter (c : Int) : Bool := (decide (97 ≤ c) && decide (c ≤ 122)) || (decide (65 ≤ c) && decide (c ≤ 90)) || decide (c = 95)
theorem ok90 (c : Int) : go90 c = some (Sp.letter c, ()) := by
  unfold go90 Sp.letter
  by_cases h1 : 97 ≤ c <;> by_cases h2 : c ≤ 122 <;> by_cases h3 : 65 ≤ c <;> by_cases h4 : c ≤ 90 <;> simp [h1, h2, h3, h4]
def c90 : Ctr Try.prog := mkCtr 90 Try.f90 Try.func90 [] ann90 [(0, (.i .u8))] [] .b [] (fun x _ => some (Sp.letter x.1, ())) (fun x _ r h => FE (run90 x.1) (ok90 x.1) h)
def Sp.within (f : Fn) (v : Int) : Bool := decide (0 ≤ v) && decide (v < f.widths.length)
theorem ok47 (f : Fn) (v : Int) : go47 f v = some (Sp.within f v, ()) := by
  unfold go47 Sp.within
  by_cases h : 0 ≤ v <;> simp [h]
def c47 : Ctr Try.prog := mkCtr 47 Try.f47 Try.func47 [] ann47 [(0, (.st 6)), (1, (.i .i64))] [] .b [] (fun x _ => some (Sp.within x.1 x.2.1, ())) (fun x _ r h => FE (run47 x.1 x.2.1) (ok47 x.1 x.2.1) h)

abbrev Fn.blk (f : Fn) (i : Nat) : Block := f.blocks.getD i Block.z
theorem Fn.ok_blocks {f : Fn} (h : f.ok) : f.blocks.length ≤ LEN := h.2.2.2.2.2.len
theorem Fn.ok_blk {f : Fn} (h : f.ok) {i : Nat} (hi : i < f.blocks.length) : (f.blk i).ok := getD_ok h.2.2.2.2.2 _ hi
/-- The machine's sum of the numbers of instructions. -/
def Sp.instSum (l : List Block) : Nat → Int
  | 0 => 0
  | i + 1 => IntKind.i64.wrap (Sp.instSum l i + ((l.getD i Block.z).insts.length : Int))
def Sp.few (f : Fn) : Bool := f.blocks.all (fun b => !decide (100 < (b.params.length : Int))) && decide ((f.blocks.length : Int) ≤ 30) && decide (Sp.instSum f.blocks f.blocks.length ≤ 300) && decide ((f.widths.length : Int) ≤ 600)
theorem ok17 (f : Fn) (hf : f.ok) : go17 f = some (Sp.few f, ()) := by
  have hb := Fn.ok_blocks hf
  rw [lenVal] at hb
  unfold go17 go17_l1
  refine callB_of (whileO_all (l := f.blocks) (st := fun i => (((), Sp.instSum f.blocks i, (i : Int), ()), f, ())) rfl Block.z (fun b => !decide (100 < (b.params.length : Int)))
    (A := .inl (((), Sp.instSum f.blocks f.blocks.length, ()), f, ())) (B := .inr ((false, ()), ())) (fun i hi hp => ?_) (fun i hi hp => ?_) (fun _ => ?_)) ?_
  · have hp : ¬ 100 < (((f.blocks.getD i Block.z).params.length : Nat) : Int) := by simpa using hp
    simp (maxSteps := 1000000) (disch := ((try dsimp only); omega)) only [↓grd_dec, ↓grd_blt, ↓grd_true, ↓jpO_eq, ↓callB_some, ↓callB_grd, ↓bif_decide, ↓sumO_inl, ↓sumO_inr, ↓if_pos, ↓if_neg, ↓cond_true, ↓cond_false, ↓bif_not, Int.toNat_natCast, Bool.not_true, Bool.not_false, decide_true, decide_false, Bool.false_eq_true, ↓if_true, ↓if_false, Int.natCast_add, Int.cast_ofNat_Int, Bool.not_eq_true', decide_eq_false_iff_not, not_true_eq_false, not_false_eq_true]
    rfl
  · have hp : 100 < (((f.blocks.getD i Block.z).params.length : Nat) : Int) := by simpa using hp
    simp (maxSteps := 1000000) (disch := ((try dsimp only); omega)) only [↓grd_dec, ↓grd_blt, ↓grd_true, ↓jpO_eq, ↓callB_some, ↓callB_grd, ↓bif_decide, ↓sumO_inl, ↓sumO_inr, ↓if_pos, ↓if_neg, ↓cond_true, ↓cond_false, ↓bif_not, Int.toNat_natCast, Bool.not_true, Bool.not_false, decide_true, decide_false, Bool.false_eq_true, ↓if_true, ↓if_false, Int.natCast_add, Int.cast_ofNat_Int, Bool.not_eq_true', decide_eq_false_iff_not, not_true_eq_false, not_false_eq_true]
  · simp (maxSteps := 1000000) (disch := ((try dsimp only); omega)) only [↓grd_dec, ↓grd_blt, ↓grd_true, ↓jpO_eq, ↓callB_some, ↓callB_grd, ↓bif_decide, ↓sumO_inl, ↓sumO_inr, ↓if_pos, ↓if_neg, ↓cond_true, ↓cond_false, ↓bif_not, Int.toNat_natCast, Bool.not_true, Bool.not_false, decide_true, decide_false, Bool.false_eq_true, ↓if_true, ↓if_false, Int.natCast_add, Int.cast_ofNat_Int, Bool.not_eq_true', decide_eq_false_iff_not, not_true_eq_false, not_false_eq_true]
  · unfold Sp.few
    by_cases h : (f.blocks.all fun b => !decide (100 < (b.params.length : Int))) = true
    · rw [if_pos h, h]
      by_cases h1 : (f.blocks.length : Int) ≤ 30 <;> by_cases h2 : Sp.instSum f.blocks f.blocks.length ≤ 300 <;> simp [h1, h2]
    · rw [if_neg h, eq_false_of_ne_true h]; simp
def c17 : Ctr Try.prog := mkCtr 17 Try.f17 Try.func17 [] ann17 [(0, (.st 6))] [] .b [] (fun x _ => grd (okB x.1.ok) (some (Sp.few x.1, ()))) (fun x _ r h => FO (run17 x.1) (ok17 x.1) h)

def Sp.selfLoop (f : Fn) (b : Int) : Int :=
  if b < 0 ∨ (f.blocks.length : Int) ≤ b ∨ (f.blk b.toNat).term.kind ≠ 2 then -1
  else if decide (((f.blk b.toNat).term.to.getD 0 Edge.z).block = b) = decide (((f.blk b.toNat).term.to.getD 1 Edge.z).block = b) then -1 else if decide (((f.blk b.toNat).term.to.getD 0 Edge.z).block = b) then 0 else 1
theorem selfLoop_out {f : Fn} {b : Int} (h : b < 0 ∨ (f.blocks.length : Int) ≤ b ∨ (f.blk b.toNat).term.kind ≠ 2) : Sp.selfLoop f b = -1 := by
  simp only [Sp.selfLoop]; rw [if_pos h]
theorem selfLoop_in {f : Fn} {b : Int} (h : ¬ (b < 0 ∨ (f.blocks.length : Int) ≤ b ∨ (f.blk b.toNat).term.kind ≠ 2)) : Sp.selfLoop f b =
    if decide (((f.blk b.toNat).term.to.getD 0 Edge.z).block = b) = decide (((f.blk b.toNat).term.to.getD 1 Edge.z).block = b) then -1 else if decide (((f.blk b.toNat).term.to.getD 0 Edge.z).block = b) then 0 else 1 := by
  simp only [Sp.selfLoop]; rw [if_neg h]
/-- Branches have two edges. -/
def Fn.two (f : Fn) : Prop := ∀ i, i < f.blocks.length → (f.blk i).term.kind = 2 → (f.blk i).term.to.length = 2
theorem ok20 (f : Fn) (b : Int) (hto : f.two) : go20 f b = some (Sp.selfLoop f b, ()) := by
  unfold go20
  simp only [bif_decide, bif_not]
  split
  · rename_i h; rw [selfLoop_out (.inl h)]
  split
  · rename_i h; rw [selfLoop_out (.inr (.inl h))]
  simp (maxSteps := 1000000) (disch := ((try dsimp only); omega)) only [↓grd_dec, ↓grd_blt, ↓grd_true, ↓jpO_eq, ↓callB_some, ↓callB_grd, ↓bif_decide, ↓sumO_inl, ↓sumO_inr, ↓if_pos, ↓if_neg, ↓cond_true, ↓cond_false, ↓bif_not, Int.toNat_natCast, Bool.not_true, Bool.not_false, decide_true, decide_false, Bool.false_eq_true, ↓if_true, ↓if_false, Int.natCast_add, Int.cast_ofNat_Int, Bool.not_eq_true', decide_eq_false_iff_not, not_true_eq_false, not_false_eq_true]
  rename_i h0 h1
  by_cases h2 : (f.blocks.getD b.toNat Block.z).term.kind = 2
  rotate_left
  · rw [if_neg h2, selfLoop_out (.inr (.inr h2))]
  rw [if_pos h2]
  have h4 : (f.blocks.getD b.toNat Block.z).term.to.length = 2 := hto b.toNat (by omega) h2
  rw [selfLoop_in (by simp only [not_or]; exact ⟨h0, h1, not_not_intro h2⟩)]
  simp (maxSteps := 1000000) (disch := ((try dsimp only); omega)) only [↓grd_dec, ↓grd_blt, ↓grd_true, ↓jpO_eq, ↓callB_some, ↓callB_grd, ↓bif_decide, ↓sumO_inl, ↓sumO_inr, ↓if_pos, ↓if_neg, ↓cond_true, ↓cond_false, ↓bif_not, Int.toNat_natCast, Bool.not_true, Bool.not_false, decide_true, decide_false, Bool.false_eq_true, ↓if_true, ↓if_false, Int.natCast_add, Int.cast_ofNat_Int, Bool.not_eq_true', decide_eq_false_iff_not, not_true_eq_false, not_false_eq_true]
  show _ = some ((if decide (((f.blocks.getD b.toNat Block.z).term.to.getD 0 Edge.z).block = b) = decide (((f.blocks.getD b.toNat Block.z).term.to.getD 1 Edge.z).block = b) then _ else _), ())
  show (bif decide (((f.blocks.getD b.toNat Block.z).term.to.getD 0 Edge.z).block = b) == decide (((f.blocks.getD b.toNat Block.z).term.to.getD 1 Edge.z).block = b) then _ else (if ((f.blocks.getD b.toNat Block.z).term.to.getD 0 Edge.z).block = b then _ else _)) = _
  by_cases p0 : ((f.blocks.getD b.toNat Block.z).term.to.getD 0 Edge.z).block = b <;> by_cases p1 : ((f.blocks.getD b.toNat Block.z).term.to.getD 1 Edge.z).block = b <;> simp only [p0, p1, decide_true, decide_false] <;> rfl
def c20 : Ctr Try.prog := mkCtr 20 Try.f20 Try.func20 [] ann20 [(0, (.st 6)), (1, (.i .i64))] [] (.i .i64) [] (fun x _ => grd (okB x.1.two) (some (Sp.selfLoop x.1 x.2.1, ()))) (fun x _ r h => FO (run20 x.1 x.2.1) (ok20 x.1 x.2.1) h)

def Sp.width (w : Int) : Int := if 64 < (if w < 0 then 0 else w) then 64 else (if w < 0 then 0 else w)
theorem width_le (w : Int) : 0 ≤ Sp.width w ∧ Sp.width w ≤ 64 := by unfold Sp.width; split <;> split <;> omega
theorem ok78 (w : Int) : go78 w = some (Sp.width w, ()) := by unfold go78 Sp.width; rfl
def c78 : Ctr Try.prog := mkCtr 78 Try.f78 Try.func78 [] ann78 [(0, (.i .i64))] [] (.i .i64) [] (fun x _ => some (Sp.width x.1, ())) (fun x _ r h => FE (run78 x.1) (ok78 x.1) h)

def Sp.digit0 (c : Int) : Int := if 48 ≤ c ∧ c ≤ 57 then c - 48 else -1
def Sp.digit1 (c : Int) : Int := if 97 ≤ c ∧ c ≤ 102 then c - 97 + 10 else Sp.digit0 c
def Sp.digit2 (c : Int) : Int := if 65 ≤ c ∧ c ≤ 70 then c - 65 + 10 else Sp.digit1 c
def Sp.digit (c base : Int) : Int := if base ≤ Sp.digit2 c then -1 else Sp.digit2 c
theorem ok91 (c base : Int) : go91 c base = some (Sp.digit c base, ()) := by
  have u : ∀ z : Int, 0 ≤ z → z ≤ 255 → IntKind.i64.wrap (IntKind.u8.wrap z) = z := fun z h1 h2 => by
    rw [IntWalk.u8_in _ (by omega), wrap_in (by omega) (by omega)]
  unfold go91 go91_j1 go91_j2 go91_j3 Sp.digit Sp.digit2 Sp.digit1 Sp.digit0
  by_cases a1 : 48 ≤ c <;> by_cases a2 : c ≤ 57 <;> by_cases a3 : 97 ≤ c <;> by_cases a4 : c ≤ 102 <;> by_cases a5 : 65 ≤ c <;> by_cases a6 : c ≤ 70 <;> first
    | omega
    | (simp (disch := omega) only [a1, a2, a3, a4, a5, a6, u, jpO_eq, bif_decide, if_true, if_false, and_self, and_true, true_and, and_false, false_and, grd_dec]
       first | rfl | (split <;> rfl))
def c91 : Ctr Try.prog := mkCtr 91 Try.f91 Try.func91 [] ann91 [(0, (.i .u8)), (1, (.i .i64))] [] (.i .i64) [] (fun x _ => some (Sp.digit x.1 x.2.1, ())) (fun x _ r h => FE (run91 x.1 x.2.1) (ok91 x.1 x.2.1) h)

def Sp.wd (l : List Int) : Nat → Int
  | 0 => 0
  | k + 1 => IntKind.u64.wrap (IntKind.u64.wrap (2 * Sp.wd l k) + IntKind.u64.wrap (l.getD (l.length - 1 - k) 0))
theorem ok79 (l : List Int) (hl : l.length ≤ LEN) : go79 l = some (Sp.wd l l.length, ()) := by
  rw [lenVal] at hl
  unfold go79 go79_l1
  simp (maxSteps := 1000000) (disch := ((try dsimp only); omega)) only [↓grd_dec, ↓grd_blt, ↓grd_true, ↓jpO_eq, ↓callB_some, ↓callB_grd, ↓bif_decide, ↓sumO_inl, ↓sumO_inr, ↓if_pos, ↓if_neg, ↓cond_true, ↓cond_false, ↓bif_not, Int.toNat_natCast, Bool.not_true, Bool.not_false, decide_true, decide_false, Bool.false_eq_true, ↓if_true, ↓if_false, Int.natCast_add, Int.cast_ofNat_Int, Bool.not_eq_true', decide_eq_false_iff_not, not_true_eq_false, not_false_eq_true]
  refine callB_of (whileO_to (st := fun k => ((l, Sp.wd l k, (l.length : Int) - 1 - k, ()), ())) (by simp [Sp.wd]) l.length (X0 := ((Sp.wd l l.length, ()), ())) (fun k hk => ?_) ?_) ?_
  · have e : l.length - 1 - k = ((l.length : Int) - 1 - k).toNat := by omega
    have e2 : (l.length : Int) - 1 - ((k + 1 : Nat) : Int) = (l.length : Int) - 1 - k - 1 := by omega
    simp (maxSteps := 1000000) (disch := ((try dsimp only); omega)) only [↓grd_dec, ↓grd_blt, ↓grd_true, ↓jpO_eq, ↓callB_some, ↓callB_grd, ↓bif_decide, ↓sumO_inl, ↓sumO_inr, ↓if_pos, ↓if_neg, ↓cond_true, ↓cond_false, ↓bif_not, Int.toNat_natCast, Bool.not_true, Bool.not_false, decide_true, decide_false, Bool.false_eq_true, ↓if_true, ↓if_false, Int.natCast_add, Int.cast_ofNat_Int, Bool.not_eq_true', decide_eq_false_iff_not, not_true_eq_false, not_false_eq_true]
    simp only [Sp.wd, e]
    rw [← e2]
    rfl
  · simp (maxSteps := 1000000) (disch := ((try dsimp only); omega)) only [↓grd_dec, ↓grd_blt, ↓grd_true, ↓jpO_eq, ↓callB_some, ↓callB_grd, ↓bif_decide, ↓sumO_inl, ↓sumO_inr, ↓if_pos, ↓if_neg, ↓cond_true, ↓cond_false, ↓bif_not, Int.toNat_natCast, Bool.not_true, Bool.not_false, decide_true, decide_false, Bool.false_eq_true, ↓if_true, ↓if_false, Int.natCast_add, Int.cast_ofNat_Int, Bool.not_eq_true', decide_eq_false_iff_not, not_true_eq_false, not_false_eq_true]
  · rfl
def c79 : Ctr Try.prog := mkCtr 79 Try.f79 Try.func79 [] ann79 [(0, (.fz (.int .i64)))] [] (.i .u64) [] (fun x _ => grd (okB (x.1.length ≤ LEN)) (some (Sp.wd x.1 x.1.length, ()))) (fun x _ r h => FO (run79 x.1) (ok79 x.1) h)
end
end Go.Abs
