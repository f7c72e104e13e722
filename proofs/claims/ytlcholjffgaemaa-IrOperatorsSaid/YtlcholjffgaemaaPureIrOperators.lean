/-
IrOperators: for every number op, ir.Arity and ir.Pure answer what the reference answers, and nothing panics.
No condition.
-/
import Derived.Test.YtlcholjffgaemaaPIrOperatorsx1
namespace Go.Proofs.Ytlcholjffgaemaa.Pure
open Go.RowKit Go.Proofs.Ytlcholjffgaemaa.PIrOperators Go.Proofs.YtlcholjffgaemaaW.PrintWords Go.Proofs.YtlcholjffgaemaaW.PrintLast

theorem binary_some (a : Int) : ∃ b, bits_IsBinary.f a = some b := by
  unfold bits_IsBinary.f; split <;> exact ⟨_, rfl⟩
theorem j0_eq (a : Int) (b : Bool) : ir_Arity.j0 3 a b = jacquardref08_Arity.j0 3 a b := by
  simp only [ir_Arity.j0, ir_Arity.j1, jacquardref08_Arity.j0, jacquardref08_Arity.j1]
theorem arity_eq (a : Int) : ir_Arity.f 3 a = jacquardref08_Arity.f 3 a := by
  unfold ir_Arity.f jacquardref08_Arity.f
  simp only [j0_eq]; rfl
theorem j0_some (a : Int) (b : Bool) : ∃ r, ir_Arity.j0 3 a b = some r := by
  simp only [ir_Arity.j0, ir_Arity.j1]
  repeat' split
  all_goals exact ⟨_, rfl⟩
theorem arity_some (a : Int) : ∃ r, ir_Arity.f 3 a = some r := by
  obtain ⟨b, hb⟩ := binary_some a
  unfold ir_Arity.f
  rw [hb]; simp only [Option.bind_some]
  repeat' split
  all_goals first | exact ⟨_, rfl⟩ | exact j0_some _ _
theorem pure_some (a : Int) : ∃ b, ir_Pure.f a = some b := by
  unfold ir_Pure.f; split <;> exact ⟨_, rfl⟩
theorem IrOperators : jacquardlaw08_IrOperators.Pure := by
  intro a _
  refine ⟨3, ?_⟩
  have hw : jacquardlaw08_awake.f 3 = some true := by decide +kernel
  obtain ⟨r, hr⟩ := arity_some a
  obtain ⟨b, hb⟩ := pure_some a
  have hr' : jacquardref08_Arity.f 3 a = some r := by rw [← arity_eq, hr]
  have hb' : jacquardref08_Pure.f a = some b := hb
  unfold jacquardlaw08_IrOperators.f
  rw [hw, hr, hr', hb, hb']
  simp

end Go.Proofs.Ytlcholjffgaemaa.Pure
