/-
  No cell of these rows narrows 'for every input' (looked for: loops, veiled, ifaces, maps, wideKeys, modest, calm, conditions, laid).
  DERIVED. THE GIVEN ROWS OF THIS SEAT. 9 by the template 'for every input the law returns true; each argument reads behind the call as it read before'; 0 by the template 'total and deterministic' (their statements: YtlcholjffgaemaaTotals.lean).
  GIVEN WITH THE SEED: the statements are not yours to turn. If you find one false, say at which input.
  Laid BY PROGRAM, IN A SANDBOX (cutbox-rows.mjs): the forced cells as the released guide's own fill.sh prints them over the translation b1d315de2afe9554… (all of the seat's roots in one cut). By AI agents, Wed Nov 11 2026. No macro, syntax, notation, axiom, sorry.
-/
import Derived.Test.YtlcholjffgaemaaChecked
import GoSem.Claim
import GoSem.ClaimJoined
import GoSem.ClaimMapViews
import Derived.JoinedTies
import Derived.KernelRfl
namespace Go.Proofs.Ytlcholjffgaemaa
/- THE CELL 'sum', in the pinned program and in every row, IS THE sha256 OF THE DUMP (.gsa) THAT YtlcholjffgaemaaProg.lean LOADS. Nothing in Lean hashes anything: it is a label: what it is worth is what the hold of that sum in a sandbox is worth. -/
noncomputable def Try.pinned : Pinned := { name := "ytlcholjffgaemaa", sum := "b1d315de2afe9554aae5863a42d86ce52194b8e5fa061ccbdec0d6dd117db2fb", checked := Try.checked }
namespace Rows
def none {H : Type} : Left H := { results := [], args := [] }

/-- 'jacquardlaw08.IrOperators': WHATEVER THE INPUT: true; the input reads as it did. -/
def irOperatorsSpec : ChangeSpec := { name := "irOperators", fn := fun _ => fun
  | [d] => { results := [.lit (.bool true)], args := [d] }
  | _ => none }
def irOperatorsRow : OpenClaim := { program := "ytlcholjffgaemaa", sum := "b1d315de2afe9554aae5863a42d86ce52194b8e5fa061ccbdec0d6dd117db2fb", func := "jacquard/jacquardlaw08.IrOperators", spec := "irOperators", apart := false }
def IrOperatorsSaid : Prop := irOperatorsRow.holds Try.pinned (OpenSpec.ofChange irOperatorsSpec)

/-- ITS FALSE NEIGHBOUR: 'it returns false'. Refute it at one input. -/
def irOperatorsWrong : ChangeSpec := { name := "irOperators", fn := fun _ => fun
  | [d] => { results := [.lit (.bool false)], args := [d] }
  | _ => none }
def IrOperatorsWrongFalsely : Prop := irOperatorsRow.holds Try.pinned (OpenSpec.ofChange irOperatorsWrong)

/-- 'jacquardlaw08.IrLoops': WHATEVER THE INPUT: true; the input reads as it did. -/
def irLoopsSpec : ChangeSpec := { name := "irLoops", fn := fun _ => fun
  | [d1, d2] => { results := [.lit (.bool true)], args := [d1, d2] }
  | _ => none }
def irLoopsRow : OpenClaim := { program := "ytlcholjffgaemaa", sum := "b1d315de2afe9554aae5863a42d86ce52194b8e5fa061ccbdec0d6dd117db2fb", func := "jacquard/jacquardlaw08.IrLoops", spec := "irLoops", apart := false }
def IrLoopsSaid : Prop := irLoopsRow.holds Try.pinned (OpenSpec.ofChange irLoopsSpec)

/-- ITS FALSE NEIGHBOUR: 'it returns false'. Refute it at one input. -/
def irLoopsWrong : ChangeSpec := { name := "irLoops", fn := fun _ => fun
  | [d1, d2] => { results := [.lit (.bool false)], args := [d1, d2] }
  | _ => none }
def IrLoopsWrongFalsely : Prop := irLoopsRow.holds Try.pinned (OpenSpec.ofChange irLoopsWrong)

/-- 'jacquardlaw08.IrDefs': WHATEVER THE INPUT: true; the input reads as it did. -/
def irDefsSpec : ChangeSpec := { name := "irDefs", fn := fun _ => fun
  | [d1, d2] => { results := [.lit (.bool true)], args := [d1, d2] }
  | _ => none }
def irDefsRow : OpenClaim := { program := "ytlcholjffgaemaa", sum := "b1d315de2afe9554aae5863a42d86ce52194b8e5fa061ccbdec0d6dd117db2fb", func := "jacquard/jacquardlaw08.IrDefs", spec := "irDefs", apart := false }
def IrDefsSaid : Prop := irDefsRow.holds Try.pinned (OpenSpec.ofChange irDefsSpec)

/-- ITS FALSE NEIGHBOUR: 'it returns false'. Refute it at one input. -/
def irDefsWrong : ChangeSpec := { name := "irDefs", fn := fun _ => fun
  | [d1, d2] => { results := [.lit (.bool false)], args := [d1, d2] }
  | _ => none }
def IrDefsWrongFalsely : Prop := irDefsRow.holds Try.pinned (OpenSpec.ofChange irDefsWrong)

/-- 'jacquardlaw08.IrSame': WHATEVER THE INPUT: true; the input reads as it did. -/
def irSameSpec : ChangeSpec := { name := "irSame", fn := fun _ => fun
  | [d1, d2] => { results := [.lit (.bool true)], args := [d1, d2] }
  | _ => none }
def irSameRow : OpenClaim := { program := "ytlcholjffgaemaa", sum := "b1d315de2afe9554aae5863a42d86ce52194b8e5fa061ccbdec0d6dd117db2fb", func := "jacquard/jacquardlaw08.IrSame", spec := "irSame", unfollowed := true, recurses := true, apart := false }
def IrSameSaid : Prop := irSameRow.holds Try.pinned (OpenSpec.ofChange irSameSpec)

/-- ITS FALSE NEIGHBOUR: 'it returns false'. Refute it at one input. -/
def irSameWrong : ChangeSpec := { name := "irSame", fn := fun _ => fun
  | [d1, d2] => { results := [.lit (.bool false)], args := [d1, d2] }
  | _ => none }
def IrSameWrongFalsely : Prop := irSameRow.holds Try.pinned (OpenSpec.ofChange irSameWrong)

/-- 'jacquardlaw08.IrRenumber': WHATEVER THE INPUT: true; the input reads as it did. -/
def irRenumberSpec : ChangeSpec := { name := "irRenumber", fn := fun _ => fun
  | [d] => { results := [.lit (.bool true)], args := [d] }
  | _ => none }
def irRenumberRow : OpenClaim := { program := "ytlcholjffgaemaa", sum := "b1d315de2afe9554aae5863a42d86ce52194b8e5fa061ccbdec0d6dd117db2fb", func := "jacquard/jacquardlaw08.IrRenumber", spec := "irRenumber", unfollowed := true, recurses := true, apart := false }
def IrRenumberSaid : Prop := irRenumberRow.holds Try.pinned (OpenSpec.ofChange irRenumberSpec)

/-- ITS FALSE NEIGHBOUR: 'it returns false'. Refute it at one input. -/
def irRenumberWrong : ChangeSpec := { name := "irRenumber", fn := fun _ => fun
  | [d] => { results := [.lit (.bool false)], args := [d] }
  | _ => none }
def IrRenumberWrongFalsely : Prop := irRenumberRow.holds Try.pinned (OpenSpec.ofChange irRenumberWrong)

/-- 'jacquardlaw06.InterpOperators': WHATEVER THE INPUT: true; the input reads as it did. -/
def interpOperatorsSpec : ChangeSpec := { name := "interpOperators", fn := fun _ => fun
  | [d1, d2, d3] => { results := [.lit (.bool true)], args := [d1, d2, d3] }
  | _ => none }
def interpOperatorsRow : OpenClaim := { program := "ytlcholjffgaemaa", sum := "b1d315de2afe9554aae5863a42d86ce52194b8e5fa061ccbdec0d6dd117db2fb", func := "jacquard/jacquardlaw06.InterpOperators", spec := "interpOperators", unfollowed := true, recurses := true, apart := false }
def InterpOperatorsSaid : Prop := interpOperatorsRow.holds Try.pinned (OpenSpec.ofChange interpOperatorsSpec)

/-- ITS FALSE NEIGHBOUR: 'it returns false'. Refute it at one input. -/
def interpOperatorsWrong : ChangeSpec := { name := "interpOperators", fn := fun _ => fun
  | [d1, d2, d3] => { results := [.lit (.bool false)], args := [d1, d2, d3] }
  | _ => none }
def InterpOperatorsWrongFalsely : Prop := interpOperatorsRow.holds Try.pinned (OpenSpec.ofChange interpOperatorsWrong)

/-- 'jacquardlaw08.IrValid': WHATEVER THE INPUT: true; the input reads as it did. -/
def irValidSpec : ChangeSpec := { name := "irValid", fn := fun _ => fun
  | [d] => { results := [.lit (.bool true)], args := [d] }
  | _ => none }
def irValidRow : OpenClaim := { program := "ytlcholjffgaemaa", sum := "b1d315de2afe9554aae5863a42d86ce52194b8e5fa061ccbdec0d6dd117db2fb", func := "jacquard/jacquardlaw08.IrValid", spec := "irValid", unfollowed := true, recurses := true, apart := false }
def IrValidSaid : Prop := irValidRow.holds Try.pinned (OpenSpec.ofChange irValidSpec)

/-- ITS FALSE NEIGHBOUR: 'it returns false'. Refute it at one input. -/
def irValidWrong : ChangeSpec := { name := "irValid", fn := fun _ => fun
  | [d] => { results := [.lit (.bool false)], args := [d] }
  | _ => none }
def IrValidWrongFalsely : Prop := irValidRow.holds Try.pinned (OpenSpec.ofChange irValidWrong)

/-- 'jacquardlaw08.IrRotated': WHATEVER THE INPUT: true; the input reads as it did. -/
def irRotatedSpec : ChangeSpec := { name := "irRotated", fn := fun _ => fun
  | [d1, d2] => { results := [.lit (.bool true)], args := [d1, d2] }
  | _ => none }
def irRotatedRow : OpenClaim := { program := "ytlcholjffgaemaa", sum := "b1d315de2afe9554aae5863a42d86ce52194b8e5fa061ccbdec0d6dd117db2fb", func := "jacquard/jacquardlaw08.IrRotated", spec := "irRotated", unfollowed := true, recurses := true, apart := false }
def IrRotatedSaid : Prop := irRotatedRow.holds Try.pinned (OpenSpec.ofChange irRotatedSpec)

/-- ITS FALSE NEIGHBOUR: 'it returns false'. Refute it at one input. -/
def irRotatedWrong : ChangeSpec := { name := "irRotated", fn := fun _ => fun
  | [d1, d2] => { results := [.lit (.bool false)], args := [d1, d2] }
  | _ => none }
def IrRotatedWrongFalsely : Prop := irRotatedRow.holds Try.pinned (OpenSpec.ofChange irRotatedWrong)

/-- 'jacquardlaw08.IrGraph': WHATEVER THE INPUT: true; the input reads as it did. -/
def irGraphSpec : ChangeSpec := { name := "irGraph", fn := fun _ => fun
  | [d1, d2] => { results := [.lit (.bool true)], args := [d1, d2] }
  | _ => none }
def irGraphRow : OpenClaim := { program := "ytlcholjffgaemaa", sum := "b1d315de2afe9554aae5863a42d86ce52194b8e5fa061ccbdec0d6dd117db2fb", func := "jacquard/jacquardlaw08.IrGraph", spec := "irGraph", unfollowed := true, recurses := true, apart := false }
def IrGraphSaid : Prop := irGraphRow.holds Try.pinned (OpenSpec.ofChange irGraphSpec)

/-- ITS FALSE NEIGHBOUR: 'it returns false'. Refute it at one input. -/
def irGraphWrong : ChangeSpec := { name := "irGraph", fn := fun _ => fun
  | [d1, d2] => { results := [.lit (.bool false)], args := [d1, d2] }
  | _ => none }
def IrGraphWrongFalsely : Prop := irGraphRow.holds Try.pinned (OpenSpec.ofChange irGraphWrong)

/- THE SECOND FORM. 'bulk': how many values and letters a reading holds, each counted each time it is reached (what is shared counts as often as it is met; a slice's spare places count too). A statement '..UptoSaid' is the law's where the arguments, and the package variables that the reading takes, are together of bulk at most 1048576: NARROWER than '..Said'. Prove '..Said' where nothing that the law and all that it calls make is longer than what came in: it says more and counts as full. Else prove '..UptoSaid'. A law counts once. -/
mutual
def uptoBulk {H : Type} : DataW H → Nat
  | .lit (.string bytes) => bytes.length + 1
  | .lit _ => 1
  | .nil => 1
  | .ptr d => uptoBulk d + 1
  | .slice elems spare => uptoBulkAll elems + uptoBulkAll spare + 1
  | .agg parts => uptoBulkAll parts + 1
  | .iface _ d => uptoBulk d + 1
  | .map entries => uptoBulkEntries entries + 1
  | .held _ => 1
def uptoBulkAll {H : Type} : List (DataW H) → Nat
  | [] => 0
  | d :: r => uptoBulk d + uptoBulkAll r
def uptoBulkEntries {H : Type} : List (Lit × DataW H) → Nat
  | [] => 0
  | x :: r => uptoBulkEntry x + uptoBulkEntries r
def uptoBulkEntry {H : Type} : Lit × DataW H → Nat
  | (.string bytes, d) => bytes.length + uptoBulk d + 1
  | (_, d) => uptoBulk d + 1
 end
def uptoSmall : (H : Type) → List (DataW H) → Bool := fun _ ds => decide (uptoBulkAll ds ≤ 1048576)
def OpenSpec.upto (s : _root_.Go.ChangeSpec) : _root_.Go.OpenSpec := { _root_.Go.OpenSpec.ofChange s with cond := some uptoSmall }

/-- 'jacquardlaw08.IrOperators', WHERE WHAT IT READS IS OF BULK AT MOST 1048576: true; the input reads as it did. -/
def irOperatorsUptoRow : OpenClaim := { program := "ytlcholjffgaemaa", sum := "b1d315de2afe9554aae5863a42d86ce52194b8e5fa061ccbdec0d6dd117db2fb", func := "jacquard/jacquardlaw08.IrOperators", spec := "irOperators", apart := false, narrowed := true }
def IrOperatorsUptoSaid : Prop := irOperatorsUptoRow.holds Try.pinned (OpenSpec.upto irOperatorsSpec)

/-- 'jacquardlaw08.IrLoops', WHERE WHAT IT READS IS OF BULK AT MOST 1048576: true; the input reads as it did. -/
def irLoopsUptoRow : OpenClaim := { program := "ytlcholjffgaemaa", sum := "b1d315de2afe9554aae5863a42d86ce52194b8e5fa061ccbdec0d6dd117db2fb", func := "jacquard/jacquardlaw08.IrLoops", spec := "irLoops", apart := false, narrowed := true }
def IrLoopsUptoSaid : Prop := irLoopsUptoRow.holds Try.pinned (OpenSpec.upto irLoopsSpec)

/-- 'jacquardlaw08.IrDefs', WHERE WHAT IT READS IS OF BULK AT MOST 1048576: true; the input reads as it did. -/
def irDefsUptoRow : OpenClaim := { program := "ytlcholjffgaemaa", sum := "b1d315de2afe9554aae5863a42d86ce52194b8e5fa061ccbdec0d6dd117db2fb", func := "jacquard/jacquardlaw08.IrDefs", spec := "irDefs", apart := false, narrowed := true }
def IrDefsUptoSaid : Prop := irDefsUptoRow.holds Try.pinned (OpenSpec.upto irDefsSpec)

/-- 'jacquardlaw08.IrSame', WHERE WHAT IT READS IS OF BULK AT MOST 1048576: true; the input reads as it did. -/
def irSameUptoRow : OpenClaim := { program := "ytlcholjffgaemaa", sum := "b1d315de2afe9554aae5863a42d86ce52194b8e5fa061ccbdec0d6dd117db2fb", func := "jacquard/jacquardlaw08.IrSame", spec := "irSame", unfollowed := true, recurses := true, apart := false, narrowed := true }
def IrSameUptoSaid : Prop := irSameUptoRow.holds Try.pinned (OpenSpec.upto irSameSpec)

/-- 'jacquardlaw08.IrRenumber', WHERE WHAT IT READS IS OF BULK AT MOST 1048576: true; the input reads as it did. -/
def irRenumberUptoRow : OpenClaim := { program := "ytlcholjffgaemaa", sum := "b1d315de2afe9554aae5863a42d86ce52194b8e5fa061ccbdec0d6dd117db2fb", func := "jacquard/jacquardlaw08.IrRenumber", spec := "irRenumber", unfollowed := true, recurses := true, apart := false, narrowed := true }
def IrRenumberUptoSaid : Prop := irRenumberUptoRow.holds Try.pinned (OpenSpec.upto irRenumberSpec)

/-- 'jacquardlaw06.InterpOperators', WHERE WHAT IT READS IS OF BULK AT MOST 1048576: true; the input reads as it did. -/
def interpOperatorsUptoRow : OpenClaim := { program := "ytlcholjffgaemaa", sum := "b1d315de2afe9554aae5863a42d86ce52194b8e5fa061ccbdec0d6dd117db2fb", func := "jacquard/jacquardlaw06.InterpOperators", spec := "interpOperators", unfollowed := true, recurses := true, apart := false, narrowed := true }
def InterpOperatorsUptoSaid : Prop := interpOperatorsUptoRow.holds Try.pinned (OpenSpec.upto interpOperatorsSpec)

/-- 'jacquardlaw08.IrValid', WHERE WHAT IT READS IS OF BULK AT MOST 1048576: true; the input reads as it did. -/
def irValidUptoRow : OpenClaim := { program := "ytlcholjffgaemaa", sum := "b1d315de2afe9554aae5863a42d86ce52194b8e5fa061ccbdec0d6dd117db2fb", func := "jacquard/jacquardlaw08.IrValid", spec := "irValid", unfollowed := true, recurses := true, apart := false, narrowed := true }
def IrValidUptoSaid : Prop := irValidUptoRow.holds Try.pinned (OpenSpec.upto irValidSpec)

/-- 'jacquardlaw08.IrRotated', WHERE WHAT IT READS IS OF BULK AT MOST 1048576: true; the input reads as it did. -/
def irRotatedUptoRow : OpenClaim := { program := "ytlcholjffgaemaa", sum := "b1d315de2afe9554aae5863a42d86ce52194b8e5fa061ccbdec0d6dd117db2fb", func := "jacquard/jacquardlaw08.IrRotated", spec := "irRotated", unfollowed := true, recurses := true, apart := false, narrowed := true }
def IrRotatedUptoSaid : Prop := irRotatedUptoRow.holds Try.pinned (OpenSpec.upto irRotatedSpec)

/-- 'jacquardlaw08.IrGraph', WHERE WHAT IT READS IS OF BULK AT MOST 1048576: true; the input reads as it did. -/
def irGraphUptoRow : OpenClaim := { program := "ytlcholjffgaemaa", sum := "b1d315de2afe9554aae5863a42d86ce52194b8e5fa061ccbdec0d6dd117db2fb", func := "jacquard/jacquardlaw08.IrGraph", spec := "irGraph", unfollowed := true, recurses := true, apart := false, narrowed := true }
def IrGraphUptoSaid : Prop := irGraphUptoRow.holds Try.pinned (OpenSpec.upto irGraphSpec)

end Rows
end Go.Proofs.Ytlcholjffgaemaa
