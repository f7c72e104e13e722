/-
The inputs of the rows as data: the types of layer 8, at this translation's numbers.
No statement of the program is proved here.
-/
import Derived.Test.YtlcholjffgaemaaA9
import Derived.Test.YtlcholjffgaemaaTy
set_option linter.unusedVariables false
namespace Go.Abs
open Go Go.Proofs
theorem opI : Opens Try.prog 3 1 (fun a _ => .int .i64 a) I64 := .i64 Try.underlying3 (by kernel_rfl)
theorem opB : Opens Try.prog 4 1 (fun a _ => .bool a) (fun _ => True) := .bool Try.underlying4 (by kernel_rfl)
theorem opU : Opens Try.prog 44 1 (fun a _ => .int .u64 a) U64 := .u64 Try.underlying44 (by kernel_rfl)
theorem opS : Opens Try.prog 9 1 (fun a _ => .str a) Strs := .str Try.underlying9 (by kernel_rfl)
theorem opIs : Opens Try.prog 25 1 (fun l _ => ints l) (All 8 I64) := .slice (by_ := 8) 0 opI Try.underlying25 (by kernel_rfl) (by kernel_rfl) (by decide) (by decide)
theorem opArr : Opens Try.prog 53 5 Arr.e Arr.ok := ⟨by kernel_rfl, fun H enc w spare fuel cs x hx hw => by
  obtain ⟨a0, k0, r0⟩ := Opens.fld Try.underlying53 (i := 0) (off := 0) rfl rfl opS hx hw
  obtain ⟨a1, k1, r1⟩ := Opens.fld Try.underlying53 (i := 1) (off := 1) rfl rfl opI hx hw
  obtain ⟨a2, k2, r2⟩ := Opens.fld Try.underlying53 (i := 2) (off := 2) rfl rfl opI hx hw
  obtain ⟨a3, k3, r3⟩ := Opens.fld Try.underlying53 (i := 3) (off := 3) rfl rfl opI hx hw
  obtain ⟨a4, k4, r4⟩ := Opens.fld Try.underlying53 (i := 4) (off := 4) rfl rfl opI hx hw
  refine ⟨⟨a0, a1, a2, a3, a4⟩, ⟨k0, k1, k2, k3, k4⟩, (Opens.len Try.underlying53 hx).trans (by kernel_rfl), fun j hj => ?_⟩
  match j, hj with
  | 0, _ => exact r0 0 (by decide)
  | 1, _ => exact r1 0 (by decide)
  | 2, _ => exact r2 0 (by decide)
  | 3, _ => exact r3 0 (by decide)
  | 4, _ => exact r4 0 (by decide)
  | n + 5, h => exact absurd h (by omega)⟩
theorem opArrs : Opens Try.prog 26 1 (fun l _ => rows 5 Arr.z Arr.e l) (All 48 Arr.ok) := .slice (by_ := 48) Arr.z opArr Try.underlying26 (by kernel_rfl) (by kernel_rfl) (by decide) (by decide)
theorem opStrm : Opens Try.prog 55 3 Strm.e Strm.ok := ⟨by kernel_rfl, fun H enc w spare fuel cs x hx hw => by
  obtain ⟨a0, k0, r0⟩ := Opens.fld Try.underlying55 (i := 0) (off := 0) rfl rfl opS hx hw
  obtain ⟨a1, k1, r1⟩ := Opens.fld Try.underlying55 (i := 1) (off := 1) rfl rfl opI hx hw
  obtain ⟨a2, k2, r2⟩ := Opens.fld Try.underlying55 (i := 2) (off := 2) rfl rfl opB hx hw
  refine ⟨⟨a0, a1, a2⟩, ⟨k0, k1, k2⟩, (Opens.len Try.underlying55 hx).trans (by kernel_rfl), fun j hj => ?_⟩
  match j, hj with
  | 0, _ => exact r0 0 (by decide)
  | 1, _ => exact r1 0 (by decide)
  | 2, _ => exact r2 0 (by decide)
  | n + 3, h => exact absurd h (by omega)⟩
theorem opStrms : Opens Try.prog 27 1 (fun l _ => rows 3 Strm.z Strm.e l) (All 32 Strm.ok) := .slice (by_ := 32) Strm.z opStrm Try.underlying27 (by kernel_rfl) (by kernel_rfl) (by decide) (by decide)
theorem opInst : Opens Try.prog 46 5 Inst.e Inst.ok := ⟨by kernel_rfl, fun H enc w spare fuel cs x hx hw => by
  obtain ⟨a0, k0, r0⟩ := Opens.fld Try.underlying46 (i := 0) (off := 0) rfl rfl opI hx hw
  obtain ⟨a1, k1, r1⟩ := Opens.fld Try.underlying46 (i := 1) (off := 1) rfl rfl opI hx hw
  obtain ⟨a2, k2, r2⟩ := Opens.fld Try.underlying46 (i := 2) (off := 2) rfl rfl opIs hx hw
  obtain ⟨a3, k3, r3⟩ := Opens.fld Try.underlying46 (i := 3) (off := 3) rfl rfl opU hx hw
  obtain ⟨a4, k4, r4⟩ := Opens.fld Try.underlying46 (i := 4) (off := 4) rfl rfl opI hx hw
  refine ⟨⟨a0, a1, a2, a3, a4⟩, ⟨k0, k1, k2, k3, k4⟩, (Opens.len Try.underlying46 hx).trans (by kernel_rfl), fun j hj => ?_⟩
  match j, hj with
  | 0, _ => exact r0 0 (by decide)
  | 1, _ => exact r1 0 (by decide)
  | 2, _ => exact r2 0 (by decide)
  | 3, _ => exact r3 0 (by decide)
  | 4, _ => exact r4 0 (by decide)
  | n + 5, h => exact absurd h (by omega)⟩
theorem opInsts : Opens Try.prog 36 1 (fun l _ => rows 5 Inst.z Inst.e l) (All 56 Inst.ok) := .slice (by_ := 56) Inst.z opInst Try.underlying36 (by kernel_rfl) (by kernel_rfl) (by decide) (by decide)
theorem opEdge : Opens Try.prog 51 2 Edge.e Edge.ok := ⟨by kernel_rfl, fun H enc w spare fuel cs x hx hw => by
  obtain ⟨a0, k0, r0⟩ := Opens.fld Try.underlying51 (i := 0) (off := 0) rfl rfl opI hx hw
  obtain ⟨a1, k1, r1⟩ := Opens.fld Try.underlying51 (i := 1) (off := 1) rfl rfl opIs hx hw
  refine ⟨⟨a0, a1⟩, ⟨k0, k1⟩, (Opens.len Try.underlying51 hx).trans (by kernel_rfl), fun j hj => ?_⟩
  match j, hj with
  | 0, _ => exact r0 0 (by decide)
  | 1, _ => exact r1 0 (by decide)
  | n + 2, h => exact absurd h (by omega)⟩
theorem opEdges : Opens Try.prog 37 1 (fun l _ => rows 2 Edge.z Edge.e l) (All 32 Edge.ok) := .slice (by_ := 32) Edge.z opEdge Try.underlying37 (by kernel_rfl) (by kernel_rfl) (by decide) (by decide)
theorem opTerm : Opens Try.prog 39 4 Term.e Term.ok := ⟨by kernel_rfl, fun H enc w spare fuel cs x hx hw => by
  obtain ⟨a0, k0, r0⟩ := Opens.fld Try.underlying39 (i := 0) (off := 0) rfl rfl opI hx hw
  obtain ⟨a1, k1, r1⟩ := Opens.fld Try.underlying39 (i := 1) (off := 1) rfl rfl opI hx hw
  obtain ⟨a2, k2, r2⟩ := Opens.fld Try.underlying39 (i := 2) (off := 2) rfl rfl opEdges hx hw
  obtain ⟨a3, k3, r3⟩ := Opens.fld Try.underlying39 (i := 3) (off := 3) rfl rfl opIs hx hw
  refine ⟨⟨a0, a1, a2, a3⟩, ⟨k0, k1, k2, k3⟩, (Opens.len Try.underlying39 hx).trans (by kernel_rfl), fun j hj => ?_⟩
  match j, hj with
  | 0, _ => exact r0 0 (by decide)
  | 1, _ => exact r1 0 (by decide)
  | 2, _ => exact r2 0 (by decide)
  | 3, _ => exact r3 0 (by decide)
  | n + 4, h => exact absurd h (by omega)⟩
theorem opBlock : Opens Try.prog 41 9 Block.e Block.ok := ⟨by kernel_rfl, fun H enc w spare fuel cs x hx hw => by
  obtain ⟨a0, k0, r0⟩ := Opens.fld Try.underlying41 (i := 0) (off := 0) rfl rfl opIs hx hw
  obtain ⟨a1, k1, r1⟩ := Opens.fld Try.underlying41 (i := 1) (off := 1) rfl rfl opInsts hx hw
  obtain ⟨a2, k2, r2⟩ := Opens.fld Try.underlying41 (i := 2) (off := 2) rfl rfl opTerm hx hw
  obtain ⟨a3, k3, r3⟩ := Opens.fld Try.underlying41 (i := 3) (off := 6) rfl rfl opI hx hw
  obtain ⟨a4, k4, r4⟩ := Opens.fld Try.underlying41 (i := 4) (off := 7) rfl rfl opI hx hw
  obtain ⟨a5, k5, r5⟩ := Opens.fld Try.underlying41 (i := 5) (off := 8) rfl rfl opI hx hw
  refine ⟨⟨a0, a1, a2, a3, a4, a5⟩, ⟨k0, k1, k2, k3, k4, k5⟩, (Opens.len Try.underlying41 hx).trans (by kernel_rfl), fun j hj => ?_⟩
  match j, hj with
  | 0, _ => exact r0 0 (by decide)
  | 1, _ => exact r1 0 (by decide)
  | 2, _ => exact r2 0 (by decide)
  | 3, _ => exact r2 1 (by decide)
  | 4, _ => exact r2 2 (by decide)
  | 5, _ => exact r2 3 (by decide)
  | 6, _ => exact r3 0 (by decide)
  | 7, _ => exact r4 0 (by decide)
  | 8, _ => exact r5 0 (by decide)
  | n + 9, h => exact absurd h (by omega)⟩
theorem opBlocks : Opens Try.prog 28 1 (fun l _ => rows 9 Block.z Block.e l) (All 136 Block.ok) := .slice (by_ := 136) Block.z opBlock Try.underlying28 (by kernel_rfl) (by kernel_rfl) (by decide) (by decide)
theorem opFn : Opens Try.prog 30 6 Fn.e Fn.ok := ⟨by kernel_rfl, fun H enc w spare fuel cs x hx hw => by
  obtain ⟨a0, k0, r0⟩ := Opens.fld Try.underlying30 (i := 0) (off := 0) rfl rfl opS hx hw
  obtain ⟨a1, k1, r1⟩ := Opens.fld Try.underlying30 (i := 1) (off := 1) rfl rfl opIs hx hw
  obtain ⟨a2, k2, r2⟩ := Opens.fld Try.underlying30 (i := 2) (off := 2) rfl rfl opArrs hx hw
  obtain ⟨a3, k3, r3⟩ := Opens.fld Try.underlying30 (i := 3) (off := 3) rfl rfl opStrms hx hw
  obtain ⟨a4, k4, r4⟩ := Opens.fld Try.underlying30 (i := 4) (off := 4) rfl rfl opIs hx hw
  obtain ⟨a5, k5, r5⟩ := Opens.fld Try.underlying30 (i := 5) (off := 5) rfl rfl opBlocks hx hw
  refine ⟨⟨a0, a1, a2, a3, a4, a5⟩, ⟨k0, k1, k2, k3, k4, k5⟩, (Opens.len Try.underlying30 hx).trans (by kernel_rfl), fun j hj => ?_⟩
  match j, hj with
  | 0, _ => exact r0 0 (by decide)
  | 1, _ => exact r1 0 (by decide)
  | 2, _ => exact r2 0 (by decide)
  | 3, _ => exact r3 0 (by decide)
  | 4, _ => exact r4 0 (by decide)
  | 5, _ => exact r5 0 (by decide)
  | n + 6, h => exact absurd h (by omega)⟩
end Go.Abs
