/-
Texts of the proof, part 6: Tc Su Te Tx V1 V2 V3 X1 X2 X3.
No statement of the program is proved here.
-/
import Derived.Test.YtlcholjffgaemaaM5
import Derived.Laws.BitsAllLaws

set_option linter.unusedVariables false
namespace Go.Abs
open Go Go.Proofs
def tyc1 : TyC := { agg := false, sz := 1, zero := some (.nilFunc) }
theorem tyc1_ok : TyC.Ok Try.prog 1 tyc1 := ⟨(fun h => inferInstance), (fun f off a s h => by cases h), (fun e s b h => by cases h), (fun x h => by cases h), (fun v h => by cases h; infer_instance)⟩
def tyc2 : TyC := { agg := false, sz := 1, desc := some (.int .i64), zero := some (.int .i64 0) }
theorem tyc2_ok : TyC.Ok Try.prog 2 tyc2 := ⟨(fun h => inferInstance), (fun f off a s h => by cases h), (fun e s b h => by cases h), (fun x h => by cases h; infer_instance), (fun v h => by cases h; infer_instance)⟩
def tyc3 : TyC := { agg := false, sz := 1, desc := some (.int .i64), zero := some (.int .i64 0) }
theorem tyc3_ok : TyC.Ok Try.prog 3 tyc3 := ⟨(fun h => inferInstance), (fun f off a s h => by cases h), (fun e s b h => by cases h), (fun x h => by cases h; infer_instance), (fun v h => by cases h; infer_instance)⟩
def tyc4 : TyC := { agg := false, sz := 1, desc := some .bool, zero := some (.bool false) }
theorem tyc4_ok : TyC.Ok Try.prog 4 tyc4 := ⟨(fun h => inferInstance), (fun f off a s h => by cases h), (fun e s b h => by cases h), (fun x h => by cases h; infer_instance), (fun v h => by cases h; infer_instance)⟩
def tyc5 : TyC := { agg := false, sz := 1, desc := some (.int .u8), zero := some (.int .u8 0) }
theorem tyc5_ok : TyC.Ok Try.prog 5 tyc5 := ⟨(fun h => inferInstance), (fun f off a s h => by cases h), (fun e s b h => by cases h), (fun x h => by cases h; infer_instance), (fun v h => by cases h; infer_instance)⟩
def tyc6 : TyC := { agg := false, sz := 1, desc := some (.int .u8), zero := some (.int .u8 0) }
theorem tyc6_ok : TyC.Ok Try.prog 6 tyc6 := ⟨(fun h => inferInstance), (fun f off a s h => by cases h), (fun e s b h => by cases h), (fun x h => by cases h; infer_instance), (fun v h => by cases h; infer_instance)⟩
def tyc7 : TyC := { agg := true, sz := 4, fields := [(0, false, 1), (1, false, 1), (2, false, 1), (3, false, 1)], zero := some (.agg #[.int .i64 0, .int .i64 0, .bool false, .int .u8 0]) }
theorem tyc7_ok : TyC.Ok Try.prog 7 tyc7 := ⟨(fun h => inferInstance), (fldAll ⟨(inferInstance : TyField Try.prog 7 0 0 false 1), (inferInstance : TyField Try.prog 7 1 1 false 1), (inferInstance : TyField Try.prog 7 2 2 false 1), (inferInstance : TyField Try.prog 7 3 3 false 1), trivial⟩), (fun e s b h => by cases h), (fun x h => by cases h), (fun v h => by cases h; infer_instance)⟩
def tyc8 : TyC := { agg := true, sz := 4, fields := [(0, false, 1), (1, false, 1), (2, false, 1), (3, false, 1)], zero := some (.agg #[.int .i64 0, .int .i64 0, .bool false, .int .u8 0]) }
theorem tyc8_ok : TyC.Ok Try.prog 8 tyc8 := ⟨(fun h => inferInstance), (fldAll ⟨(inferInstance : TyField Try.prog 8 0 0 false 1), (inferInstance : TyField Try.prog 8 1 1 false 1), (inferInstance : TyField Try.prog 8 2 2 false 1), (inferInstance : TyField Try.prog 8 3 3 false 1), trivial⟩), (fun e s b h => by cases h), (fun x h => by cases h), (fun v h => by cases h; infer_instance)⟩
def tyc9 : TyC := { agg := false, sz := 1, desc := some .string, zero := some (.string ByteArray.empty) }
theorem tyc9_ok : TyC.Ok Try.prog 9 tyc9 := ⟨(fun h => inferInstance), (fun f off a s h => by cases h), (fun e s b h => by cases h), (fun x h => by cases h; infer_instance), (fun v h => by cases h; infer_instance)⟩
def tyc10 : TyC := { agg := false, sz := 1, desc := some .string, zero := some (.string ByteArray.empty) }
theorem tyc10_ok : TyC.Ok Try.prog 10 tyc10 := ⟨(fun h => inferInstance), (fun f off a s h => by cases h), (fun e s b h => by cases h), (fun x h => by cases h; infer_instance), (fun v h => by cases h; infer_instance)⟩
def tyc11 : TyC := { agg := false, sz := 1, desc := some .string, zero := some (.string ByteArray.empty) }
theorem tyc11_ok : TyC.Ok Try.prog 11 tyc11 := ⟨(fun h => inferInstance), (fun f off a s h => by cases h), (fun e s b h => by cases h), (fun x h => by cases h; infer_instance), (fun v h => by cases h; infer_instance)⟩
def tyc12 : TyC := { agg := false, sz := 1, desc := some (.int .u64), zero := some (.int .u64 0) }
theorem tyc12_ok : TyC.Ok Try.prog 12 tyc12 := ⟨(fun h => inferInstance), (fun f off a s h => by cases h), (fun e s b h => by cases h), (fun x h => by cases h; infer_instance), (fun v h => by cases h; infer_instance)⟩
def tyc13 : TyC := { agg := true, sz := 2, fields := [(0, false, 1), (1, false, 1)], zero := some (.agg #[.string ByteArray.empty, .int .u64 0]) }
theorem tyc13_ok : TyC.Ok Try.prog 13 tyc13 := ⟨(fun h => inferInstance), (fldAll ⟨(inferInstance : TyField Try.prog 13 0 0 false 1), (inferInstance : TyField Try.prog 13 1 1 false 1), trivial⟩), (fun e s b h => by cases h), (fun x h => by cases h), (fun v h => by cases h; infer_instance)⟩
def tyc14 : TyC := { agg := true, sz := 2, fields := [(0, false, 1), (1, false, 1)], zero := some (.agg #[.string ByteArray.empty, .int .u64 0]) }
theorem tyc14_ok : TyC.Ok Try.prog 14 tyc14 := ⟨(fun h => inferInstance), (fldAll ⟨(inferInstance : TyField Try.prog 14 0 0 false 1), (inferInstance : TyField Try.prog 14 1 1 false 1), trivial⟩), (fun e s b h => by cases h), (fun x h => by cases h), (fun v h => by cases h; infer_instance)⟩
def tyc15 : TyC := { agg := false, sz := 1, zero := some (.pointer none) }
theorem tyc15_ok : TyC.Ok Try.prog 15 tyc15 := ⟨(fun h => inferInstance), (fun f off a s h => by cases h), (fun e s b h => by cases h), (fun x h => by cases h), (fun v h => by cases h; infer_instance)⟩
def tyc16 : TyC := { agg := false, sz := 1, zero := some (.pointer none) }
theorem tyc16_ok : TyC.Ok Try.prog 16 tyc16 := ⟨(fun h => inferInstance), (fun f off a s h => by cases h), (fun e s b h => by cases h), (fun x h => by cases h), (fun v h => by cases h; infer_instance)⟩
def tyc17 : TyC := { agg := false, sz := 1, zero := some (.pointer none) }
theorem tyc17_ok : TyC.Ok Try.prog 17 tyc17 := ⟨(fun h => inferInstance), (fun f off a s h => by cases h), (fun e s b h => by cases h), (fun x h => by cases h), (fun v h => by cases h; infer_instance)⟩
def tyc18 : TyC := { agg := true, sz := 1, fields := [(0, false, 1)], zero := some (.agg #[.pointer none]) }
theorem tyc18_ok : TyC.Ok Try.prog 18 tyc18 := ⟨(fun h => inferInstance), (fldAll ⟨(inferInstance : TyField Try.prog 18 0 0 false 1), trivial⟩), (fun e s b h => by cases h), (fun x h => by cases h), (fun v h => by cases h; infer_instance)⟩
def tyc19 : TyC := { agg := true, sz := 1, fields := [(0, false, 1)], zero := some (.agg #[.pointer none]) }
theorem tyc19_ok : TyC.Ok Try.prog 19 tyc19 := ⟨(fun h => inferInstance), (fldAll ⟨(inferInstance : TyField Try.prog 19 0 0 false 1), trivial⟩), (fun e s b h => by cases h), (fun x h => by cases h), (fun v h => by cases h; infer_instance)⟩
def tyc20 : TyC := { agg := false, sz := 1, zero := some (.nilIface) }
theorem tyc20_ok : TyC.Ok Try.prog 20 tyc20 := ⟨(fun h => inferInstance), (fun f off a s h => by cases h), (fun e s b h => by cases h), (fun x h => by cases h), (fun v h => by cases h; infer_instance)⟩
def tyc21 : TyC := { agg := false, sz := 1, desc := some (.int .i32), zero := some (.int .i32 0) }
theorem tyc21_ok : TyC.Ok Try.prog 21 tyc21 := ⟨(fun h => inferInstance), (fun f off a s h => by cases h), (fun e s b h => by cases h), (fun x h => by cases h; infer_instance), (fun v h => by cases h; infer_instance)⟩
def tyc22 : TyC := { agg := false, sz := 1, zero := some (.nilFunc) }
theorem tyc22_ok : TyC.Ok Try.prog 22 tyc22 := ⟨(fun h => inferInstance), (fun f off a s h => by cases h), (fun e s b h => by cases h), (fun x h => by cases h), (fun v h => by cases h; infer_instance)⟩
def tyc23 : TyC := { agg := false, sz := 1, zero := some (.nilFunc) }
theorem tyc23_ok : TyC.Ok Try.prog 23 tyc23 := ⟨(fun h => inferInstance), (fun f off a s h => by cases h), (fun e s b h => by cases h), (fun x h => by cases h), (fun v h => by cases h; infer_instance)⟩
def tyc24 : TyC := { agg := false, sz := 1, zero := some (.nilFunc) }
theorem tyc24_ok : TyC.Ok Try.prog 24 tyc24 := ⟨(fun h => inferInstance), (fun f off a s h => by cases h), (fun e s b h => by cases h), (fun x h => by cases h), (fun v h => by cases h; infer_instance)⟩
def tyc25 : TyC := { agg := false, sz := 1, sl := some (3, 1, 8), zero := some (.slice none 0 0) }
theorem tyc25_ok : TyC.Ok Try.prog 25 tyc25 := ⟨(fun h => inferInstance), (fun f off a s h => by cases h), (fun e s b h => by cases h; infer_instance), (fun x h => by cases h), (fun v h => by cases h; infer_instance)⟩
def tyc26 : TyC := { agg := false, sz := 1, sl := some (53, 5, 48), zero := some (.slice none 0 0) }
theorem tyc26_ok : TyC.Ok Try.prog 26 tyc26 := ⟨(fun h => inferInstance), (fun f off a s h => by cases h), (fun e s b h => by cases h; infer_instance), (fun x h => by cases h), (fun v h => by cases h; infer_instance)⟩
def tyc27 : TyC := { agg := false, sz := 1, sl := some (55, 3, 32), zero := some (.slice none 0 0) }
theorem tyc27_ok : TyC.Ok Try.prog 27 tyc27 := ⟨(fun h => inferInstance), (fun f off a s h => by cases h), (fun e s b h => by cases h; infer_instance), (fun x h => by cases h), (fun v h => by cases h; infer_instance)⟩
def tyc28 : TyC := { agg := false, sz := 1, sl := some (41, 9, 136), zero := some (.slice none 0 0) }
theorem tyc28_ok : TyC.Ok Try.prog 28 tyc28 := ⟨(fun h => inferInstance), (fun f off a s h => by cases h), (fun e s b h => by cases h; infer_instance), (fun x h => by cases h), (fun v h => by cases h; infer_instance)⟩
def tyc29 : TyC := { agg := true, sz := 6, fields := [(0, false, 1), (1, false, 1), (2, false, 1), (3, false, 1), (4, false, 1), (5, false, 1)], zero := some (.agg #[.string ByteArray.empty, .slice none 0 0, .slice none 0 0, .slice none 0 0, .slice none 0 0, .slice none 0 0]) }
theorem tyc29_ok : TyC.Ok Try.prog 29 tyc29 := ⟨(fun h => inferInstance), (fldAll ⟨(inferInstance : TyField Try.prog 29 0 0 false 1), (inferInstance : TyField Try.prog 29 1 1 false 1), (inferInstance : TyField Try.prog 29 2 2 false 1), (inferInstance : TyField Try.prog 29 3 3 false 1), (inferInstance : TyField Try.prog 29 4 4 false 1), (inferInstance : TyField Try.prog 29 5 5 false 1), trivial⟩), (fun e s b h => by cases h), (fun x h => by cases h), (fun v h => by cases h; infer_instance)⟩
def tyc30 : TyC := { agg := true, sz := 6, fields := [(0, false, 1), (1, false, 1), (2, false, 1), (3, false, 1), (4, false, 1), (5, false, 1)], zero := some (.agg #[.string ByteArray.empty, .slice none 0 0, .slice none 0 0, .slice none 0 0, .slice none 0 0, .slice none 0 0]) }
theorem tyc30_ok : TyC.Ok Try.prog 30 tyc30 := ⟨(fun h => inferInstance), (fldAll ⟨(inferInstance : TyField Try.prog 30 0 0 false 1), (inferInstance : TyField Try.prog 30 1 1 false 1), (inferInstance : TyField Try.prog 30 2 2 false 1), (inferInstance : TyField Try.prog 30 3 3 false 1), (inferInstance : TyField Try.prog 30 4 4 false 1), (inferInstance : TyField Try.prog 30 5 5 false 1), trivial⟩), (fun e s b h => by cases h), (fun x h => by cases h), (fun v h => by cases h; infer_instance)⟩
def tyc31 : TyC := { agg := false, sz := 1, zero := some (.nilFunc) }
theorem tyc31_ok : TyC.Ok Try.prog 31 tyc31 := ⟨(fun h => inferInstance), (fun f off a s h => by cases h), (fun e s b h => by cases h), (fun x h => by cases h), (fun v h => by cases h; infer_instance)⟩
def tyc33 : TyC := { agg := false, sz := 1, zero := some (.nilFunc) }
theorem tyc33_ok : TyC.Ok Try.prog 33 tyc33 := ⟨(fun h => inferInstance), (fun f off a s h => by cases h), (fun e s b h => by cases h), (fun x h => by cases h), (fun v h => by cases h; infer_instance)⟩
def tyc34 : TyC := { agg := false, sz := 1, zero := some (.nilFunc) }
theorem tyc34_ok : TyC.Ok Try.prog 34 tyc34 := ⟨(fun h => inferInstance), (fun f off a s h => by cases h), (fun e s b h => by cases h), (fun x h => by cases h), (fun v h => by cases h; infer_instance)⟩
def tyc35 : TyC := { agg := false, sz := 1, zero := some (.nilFunc) }
theorem tyc35_ok : TyC.Ok Try.prog 35 tyc35 := ⟨(fun h => inferInstance), (fun f off a s h => by cases h), (fun e s b h => by cases h), (fun x h => by cases h), (fun v h => by cases h; infer_instance)⟩
def tyc36 : TyC := { agg := false, sz := 1, sl := some (46, 5, 56), zero := some (.slice none 0 0) }
theorem tyc36_ok : TyC.Ok Try.prog 36 tyc36 := ⟨(fun h => inferInstance), (fun f off a s h => by cases h), (fun e s b h => by cases h; infer_instance), (fun x h => by cases h), (fun v h => by cases h; infer_instance)⟩
def tyc37 : TyC := { agg := false, sz := 1, sl := some (51, 2, 32), zero := some (.slice none 0 0) }
theorem tyc37_ok : TyC.Ok Try.prog 37 tyc37 := ⟨(fun h => inferInstance), (fun f off a s h => by cases h), (fun e s b h => by cases h; infer_instance), (fun x h => by cases h), (fun v h => by cases h; infer_instance)⟩
def tyc38 : TyC := { agg := true, sz := 4, fields := [(0, false, 1), (1, false, 1), (2, false, 1), (3, false, 1)], zero := some (.agg #[.int .i64 0, .int .i64 0, .slice none 0 0, .slice none 0 0]) }
theorem tyc38_ok : TyC.Ok Try.prog 38 tyc38 := ⟨(fun h => inferInstance), (fldAll ⟨(inferInstance : TyField Try.prog 38 0 0 false 1), (inferInstance : TyField Try.prog 38 1 1 false 1), (inferInstance : TyField Try.prog 38 2 2 false 1), (inferInstance : TyField Try.prog 38 3 3 false 1), trivial⟩), (fun e s b h => by cases h), (fun x h => by cases h), (fun v h => by cases h; infer_instance)⟩
def tyc39 : TyC := { agg := true, sz := 4, fields := [(0, false, 1), (1, false, 1), (2, false, 1), (3, false, 1)], zero := some (.agg #[.int .i64 0, .int .i64 0, .slice none 0 0, .slice none 0 0]) }
theorem tyc39_ok : TyC.Ok Try.prog 39 tyc39 := ⟨(fun h => inferInstance), (fldAll ⟨(inferInstance : TyField Try.prog 39 0 0 false 1), (inferInstance : TyField Try.prog 39 1 1 false 1), (inferInstance : TyField Try.prog 39 2 2 false 1), (inferInstance : TyField Try.prog 39 3 3 false 1), trivial⟩), (fun e s b h => by cases h), (fun x h => by cases h), (fun v h => by cases h; infer_instance)⟩
def tyc40 : TyC := { agg := true, sz := 9, fields := [(0, false, 1), (1, false, 1), (2, true, 4), (6, false, 1), (7, false, 1), (8, false, 1)], zero := some (.agg #[.slice none 0 0, .slice none 0 0, .int .i64 0, .int .i64 0, .slice none 0 0, .slice none 0 0, .int .i64 0, .int .i64 0, .int .i64 0]) }
theorem tyc40_ok : TyC.Ok Try.prog 40 tyc40 := ⟨(fun h => inferInstance), (fldAll ⟨(inferInstance : TyField Try.prog 40 0 0 false 1), (inferInstance : TyField Try.prog 40 1 1 false 1), (inferInstance : TyField Try.prog 40 2 2 true 4), (inferInstance : TyField Try.prog 40 3 6 false 1), (inferInstance : TyField Try.prog 40 4 7 false 1), (inferInstance : TyField Try.prog 40 5 8 false 1), trivial⟩), (fun e s b h => by cases h), (fun x h => by cases h), (fun v h => by cases h; infer_instance)⟩
def tyc41 : TyC := { agg := true, sz := 9, fields := [(0, false, 1), (1, false, 1), (2, true, 4), (6, false, 1), (7, false, 1), (8, false, 1)], zero := some (.agg #[.slice none 0 0, .slice none 0 0, .int .i64 0, .int .i64 0, .slice none 0 0, .slice none 0 0, .int .i64 0, .int .i64 0, .int .i64 0]) }
theorem tyc41_ok : TyC.Ok Try.prog 41 tyc41 := ⟨(fun h => inferInstance), (fldAll ⟨(inferInstance : TyField Try.prog 41 0 0 false 1), (inferInstance : TyField Try.prog 41 1 1 false 1), (inferInstance : TyField Try.prog 41 2 2 true 4), (inferInstance : TyField Try.prog 41 3 6 false 1), (inferInstance : TyField Try.prog 41 4 7 false 1), (inferInstance : TyField Try.prog 41 5 8 false 1), trivial⟩), (fun e s b h => by cases h), (fun x h => by cases h), (fun v h => by cases h; infer_instance)⟩
def tyc43 : TyC := { agg := false, sz := 1, zero := some (.nilFunc) }
theorem tyc43_ok : TyC.Ok Try.prog 43 tyc43 := ⟨(fun h => inferInstance), (fun f off a s h => by cases h), (fun e s b h => by cases h), (fun x h => by cases h), (fun v h => by cases h; infer_instance)⟩
def tyc44 : TyC := { agg := false, sz := 1, desc := some (.int .u64), zero := some (.int .u64 0) }
theorem tyc44_ok : TyC.Ok Try.prog 44 tyc44 := ⟨(fun h => inferInstance), (fun f off a s h => by cases h), (fun e s b h => by cases h), (fun x h => by cases h; infer_instance), (fun v h => by cases h; infer_instance)⟩
def tyc45 : TyC := { agg := true, sz := 5, fields := [(0, false, 1), (1, false, 1), (2, false, 1), (3, false, 1), (4, false, 1)], zero := some (.agg #[.int .i64 0, .int .i64 0, .slice none 0 0, .int .u64 0, .int .i64 0]) }
theorem tyc45_ok : TyC.Ok Try.prog 45 tyc45 := ⟨(fun h => inferInstance), (fldAll ⟨(inferInstance : TyField Try.prog 45 0 0 false 1), (inferInstance : TyField Try.prog 45 1 1 false 1), (inferInstance : TyField Try.prog 45 2 2 false 1), (inferInstance : TyField Try.prog 45 3 3 false 1), (inferInstance : TyField Try.prog 45 4 4 false 1), trivial⟩), (fun e s b h => by cases h), (fun x h => by cases h), (fun v h => by cases h; infer_instance)⟩
def tyc46 : TyC := { agg := true, sz := 5, fields := [(0, false, 1), (1, false, 1), (2, false, 1), (3, false, 1), (4, false, 1)], zero := some (.agg #[.int .i64 0, .int .i64 0, .slice none 0 0, .int .u64 0, .int .i64 0]) }
theorem tyc46_ok : TyC.Ok Try.prog 46 tyc46 := ⟨(fun h => inferInstance), (fldAll ⟨(inferInstance : TyField Try.prog 46 0 0 false 1), (inferInstance : TyField Try.prog 46 1 1 false 1), (inferInstance : TyField Try.prog 46 2 2 false 1), (inferInstance : TyField Try.prog 46 3 3 false 1), (inferInstance : TyField Try.prog 46 4 4 false 1), trivial⟩), (fun e s b h => by cases h), (fun x h => by cases h), (fun v h => by cases h; infer_instance)⟩
def tyc47 : TyC := { agg := false, sz := 1, zero := some (.nilFunc) }
theorem tyc47_ok : TyC.Ok Try.prog 47 tyc47 := ⟨(fun h => inferInstance), (fun f off a s h => by cases h), (fun e s b h => by cases h), (fun x h => by cases h), (fun v h => by cases h; infer_instance)⟩
def tyc48 : TyC := { agg := false, sz := 1, zero := some (.nilFunc) }
theorem tyc48_ok : TyC.Ok Try.prog 48 tyc48 := ⟨(fun h => inferInstance), (fun f off a s h => by cases h), (fun e s b h => by cases h), (fun x h => by cases h), (fun v h => by cases h; infer_instance)⟩
def tyc49 : TyC := { agg := false, sz := 1, zero := some (.nilFunc) }
theorem tyc49_ok : TyC.Ok Try.prog 49 tyc49 := ⟨(fun h => inferInstance), (fun f off a s h => by cases h), (fun e s b h => by cases h), (fun x h => by cases h), (fun v h => by cases h; infer_instance)⟩
def tyc50 : TyC := { agg := true, sz := 2, fields := [(0, false, 1), (1, false, 1)], zero := some (.agg #[.int .i64 0, .slice none 0 0]) }
theorem tyc50_ok : TyC.Ok Try.prog 50 tyc50 := ⟨(fun h => inferInstance), (fldAll ⟨(inferInstance : TyField Try.prog 50 0 0 false 1), (inferInstance : TyField Try.prog 50 1 1 false 1), trivial⟩), (fun e s b h => by cases h), (fun x h => by cases h), (fun v h => by cases h; infer_instance)⟩
def tyc51 : TyC := { agg := true, sz := 2, fields := [(0, false, 1), (1, false, 1)], zero := some (.agg #[.int .i64 0, .slice none 0 0]) }
theorem tyc51_ok : TyC.Ok Try.prog 51 tyc51 := ⟨(fun h => inferInstance), (fldAll ⟨(inferInstance : TyField Try.prog 51 0 0 false 1), (inferInstance : TyField Try.prog 51 1 1 false 1), trivial⟩), (fun e s b h => by cases h), (fun x h => by cases h), (fun v h => by cases h; infer_instance)⟩
def tyc52 : TyC := { agg := true, sz := 5, fields := [(0, false, 1), (1, false, 1), (2, false, 1), (3, false, 1), (4, false, 1)], zero := some (.agg #[.string ByteArray.empty, .int .i64 0, .int .i64 0, .int .i64 0, .int .i64 0]) }
theorem tyc52_ok : TyC.Ok Try.prog 52 tyc52 := ⟨(fun h => inferInstance), (fldAll ⟨(inferInstance : TyField Try.prog 52 0 0 false 1), (inferInstance : TyField Try.prog 52 1 1 false 1), (inferInstance : TyField Try.prog 52 2 2 false 1), (inferInstance : TyField Try.prog 52 3 3 false 1), (inferInstance : TyField Try.prog 52 4 4 false 1), trivial⟩), (fun e s b h => by cases h), (fun x h => by cases h), (fun v h => by cases h; infer_instance)⟩
def tyc53 : TyC := { agg := true, sz := 5, fields := [(0, false, 1), (1, false, 1), (2, false, 1), (3, false, 1), (4, false, 1)], zero := some (.agg #[.string ByteArray.empty, .int .i64 0, .int .i64 0, .int .i64 0, .int .i64 0]) }
theorem tyc53_ok : TyC.Ok Try.prog 53 tyc53 := ⟨(fun h => inferInstance), (fldAll ⟨(inferInstance : TyField Try.prog 53 0 0 false 1), (inferInstance : TyField Try.prog 53 1 1 false 1), (inferInstance : TyField Try.prog 53 2 2 false 1), (inferInstance : TyField Try.prog 53 3 3 false 1), (inferInstance : TyField Try.prog 53 4 4 false 1), trivial⟩), (fun e s b h => by cases h), (fun x h => by cases h), (fun v h => by cases h; infer_instance)⟩
def tyc54 : TyC := { agg := true, sz := 3, fields := [(0, false, 1), (1, false, 1), (2, false, 1)], zero := some (.agg #[.string ByteArray.empty, .int .i64 0, .bool false]) }
theorem tyc54_ok : TyC.Ok Try.prog 54 tyc54 := ⟨(fun h => inferInstance), (fldAll ⟨(inferInstance : TyField Try.prog 54 0 0 false 1), (inferInstance : TyField Try.prog 54 1 1 false 1), (inferInstance : TyField Try.prog 54 2 2 false 1), trivial⟩), (fun e s b h => by cases h), (fun x h => by cases h), (fun v h => by cases h; infer_instance)⟩
def tyc55 : TyC := { agg := true, sz := 3, fields := [(0, false, 1), (1, false, 1), (2, false, 1)], zero := some (.agg #[.string ByteArray.empty, .int .i64 0, .bool false]) }
theorem tyc55_ok : TyC.Ok Try.prog 55 tyc55 := ⟨(fun h => inferInstance), (fldAll ⟨(inferInstance : TyField Try.prog 55 0 0 false 1), (inferInstance : TyField Try.prog 55 1 1 false 1), (inferInstance : TyField Try.prog 55 2 2 false 1), trivial⟩), (fun e s b h => by cases h), (fun x h => by cases h), (fun v h => by cases h; infer_instance)⟩
def tyc56 : TyC := { agg := true, sz := 2, fields := [(0, false, 1), (1, false, 1)], zero := some (.agg #[.int .i64 0, .bool false]) }
theorem tyc56_ok : TyC.Ok Try.prog 56 tyc56 := ⟨(fun h => inferInstance), (fldAll ⟨(inferInstance : TyField Try.prog 56 0 0 false 1), (inferInstance : TyField Try.prog 56 1 1 false 1), trivial⟩), (fun e s b h => by cases h), (fun x h => by cases h), (fun v h => by cases h; infer_instance)⟩
def tyc57 : TyC := { agg := true, sz := 2, fields := [(0, false, 1), (1, false, 1)], zero := some (.agg #[.int .i64 0, .bool false]) }
theorem tyc57_ok : TyC.Ok Try.prog 57 tyc57 := ⟨(fun h => inferInstance), (fldAll ⟨(inferInstance : TyField Try.prog 57 0 0 false 1), (inferInstance : TyField Try.prog 57 1 1 false 1), trivial⟩), (fun e s b h => by cases h), (fun x h => by cases h), (fun v h => by cases h; infer_instance)⟩
def tyc58 : TyC := { agg := true, sz := 4, zero := some (.agg #[.int .i64 0, .bool false, .int .i64 0, .bool false]) }
theorem tyc58_ok : TyC.Ok Try.prog 58 tyc58 := ⟨(fun h => inferInstance), (fun f off a s h => by cases h), (fun e s b h => by cases h), (fun x h => by cases h), (fun v h => by cases h; infer_instance)⟩
def tyc59 : TyC := { agg := true, sz := 2, zero := some (.agg #[.int .u64 0, .int .u64 0]) }
theorem tyc59_ok : TyC.Ok Try.prog 59 tyc59 := ⟨(fun h => inferInstance), (fun f off a s h => by cases h), (fun e s b h => by cases h), (fun x h => by cases h), (fun v h => by cases h; infer_instance)⟩
def tyc60 : TyC := { agg := false, sz := 1, zero := some (.nilFunc) }
theorem tyc60_ok : TyC.Ok Try.prog 60 tyc60 := ⟨(fun h => inferInstance), (fun f off a s h => by cases h), (fun e s b h => by cases h), (fun x h => by cases h), (fun v h => by cases h; infer_instance)⟩
def tyc61 : TyC := { agg := false, sz := 1, zero := some (.nilFunc) }
theorem tyc61_ok : TyC.Ok Try.prog 61 tyc61 := ⟨(fun h => inferInstance), (fun f off a s h => by cases h), (fun e s b h => by cases h), (fun x h => by cases h), (fun v h => by cases h; infer_instance)⟩
def tyc62 : TyC := { agg := false, sz := 1, zero := some (.nilFunc) }
theorem tyc62_ok : TyC.Ok Try.prog 62 tyc62 := ⟨(fun h => inferInstance), (fun f off a s h => by cases h), (fun e s b h => by cases h), (fun x h => by cases h), (fun v h => by cases h; infer_instance)⟩
def tyc63 : TyC := { agg := false, sz := 1, zero := some (.nilFunc) }
theorem tyc63_ok : TyC.Ok Try.prog 63 tyc63 := ⟨(fun h => inferInstance), (fun f off a s h => by cases h), (fun e s b h => by cases h), (fun x h => by cases h), (fun v h => by cases h; infer_instance)⟩
def tyc64 : TyC := { agg := true, sz := 2, zero := some (.agg #[.int .u8 0, .int .u8 0]) }
theorem tyc64_ok : TyC.Ok Try.prog 64 tyc64 := ⟨(fun h => inferInstance), (fun f off a s h => by cases h), (fun e s b h => by cases h), (fun x h => by cases h), (fun v h => by cases h; infer_instance)⟩
def tyc65 : TyC := { agg := false, sz := 1, zero := some (.nilFunc) }
theorem tyc65_ok : TyC.Ok Try.prog 65 tyc65 := ⟨(fun h => inferInstance), (fun f off a s h => by cases h), (fun e s b h => by cases h), (fun x h => by cases h), (fun v h => by cases h; infer_instance)⟩
def tyc66 : TyC := { agg := false, sz := 1, zero := some (.nilFunc) }
theorem tyc66_ok : TyC.Ok Try.prog 66 tyc66 := ⟨(fun h => inferInstance), (fun f off a s h => by cases h), (fun e s b h => by cases h), (fun x h => by cases h), (fun v h => by cases h; infer_instance)⟩
def tyc67 : TyC := { agg := false, sz := 1, sl := some (25, 1, 24), zero := some (.slice none 0 0) }
theorem tyc67_ok : TyC.Ok Try.prog 67 tyc67 := ⟨(fun h => inferInstance), (fun f off a s h => by cases h), (fun e s b h => by cases h; infer_instance), (fun x h => by cases h), (fun v h => by cases h; infer_instance)⟩
def tyc68 : TyC := { agg := false, sz := 1, zero := some (.nilFunc) }
theorem tyc68_ok : TyC.Ok Try.prog 68 tyc68 := ⟨(fun h => inferInstance), (fun f off a s h => by cases h), (fun e s b h => by cases h), (fun x h => by cases h), (fun v h => by cases h; infer_instance)⟩
def tyc69 : TyC := { agg := false, sz := 1, sl := some (4, 1, 1), zero := some (.slice none 0 0) }
theorem tyc69_ok : TyC.Ok Try.prog 69 tyc69 := ⟨(fun h => inferInstance), (fun f off a s h => by cases h), (fun e s b h => by cases h; infer_instance), (fun x h => by cases h), (fun v h => by cases h; infer_instance)⟩
def tyc70 : TyC := { agg := false, sz := 1, zero := some (.nilFunc) }
theorem tyc70_ok : TyC.Ok Try.prog 70 tyc70 := ⟨(fun h => inferInstance), (fun f off a s h => by cases h), (fun e s b h => by cases h), (fun x h => by cases h), (fun v h => by cases h; infer_instance)⟩
def tyc71 : TyC := { agg := false, sz := 1, zero := some (.nilFunc) }
theorem tyc71_ok : TyC.Ok Try.prog 71 tyc71 := ⟨(fun h => inferInstance), (fun f off a s h => by cases h), (fun e s b h => by cases h), (fun x h => by cases h), (fun v h => by cases h; infer_instance)⟩
def tyc72 : TyC := { agg := false, sz := 1, zero := some (.nilFunc) }
theorem tyc72_ok : TyC.Ok Try.prog 72 tyc72 := ⟨(fun h => inferInstance), (fun f off a s h => by cases h), (fun e s b h => by cases h), (fun x h => by cases h), (fun v h => by cases h; infer_instance)⟩
def tyc73 : TyC := { agg := false, sz := 1, zero := some (.nilFunc) }
theorem tyc73_ok : TyC.Ok Try.prog 73 tyc73 := ⟨(fun h => inferInstance), (fun f off a s h => by cases h), (fun e s b h => by cases h), (fun x h => by cases h), (fun v h => by cases h; infer_instance)⟩
def tyc74 : TyC := { agg := false, sz := 1, zero := some (.nilFunc) }
theorem tyc74_ok : TyC.Ok Try.prog 74 tyc74 := ⟨(fun h => inferInstance), (fun f off a s h => by cases h), (fun e s b h => by cases h), (fun x h => by cases h), (fun v h => by cases h; infer_instance)⟩
def tyc75 : TyC := { agg := false, sz := 1, zero := some (.nilFunc) }
theorem tyc75_ok : TyC.Ok Try.prog 75 tyc75 := ⟨(fun h => inferInstance), (fun f off a s h => by cases h), (fun e s b h => by cases h), (fun x h => by cases h), (fun v h => by cases h; infer_instance)⟩
def tyc76 : TyC := { agg := false, sz := 1, zero := some (.nilFunc) }
theorem tyc76_ok : TyC.Ok Try.prog 76 tyc76 := ⟨(fun h => inferInstance), (fun f off a s h => by cases h), (fun e s b h => by cases h), (fun x h => by cases h), (fun v h => by cases h; infer_instance)⟩
def tyc77 : TyC := { agg := false, sz := 1, zero := some (.nilFunc) }
theorem tyc77_ok : TyC.Ok Try.prog 77 tyc77 := ⟨(fun h => inferInstance), (fun f off a s h => by cases h), (fun e s b h => by cases h), (fun x h => by cases h), (fun v h => by cases h; infer_instance)⟩
def tyc78 : TyC := { agg := false, sz := 1, zero := some (.nilFunc) }
theorem tyc78_ok : TyC.Ok Try.prog 78 tyc78 := ⟨(fun h => inferInstance), (fun f off a s h => by cases h), (fun e s b h => by cases h), (fun x h => by cases h), (fun v h => by cases h; infer_instance)⟩
def tyc79 : TyC := { agg := false, sz := 1, zero := some (.nilFunc) }
theorem tyc79_ok : TyC.Ok Try.prog 79 tyc79 := ⟨(fun h => inferInstance), (fun f off a s h => by cases h), (fun e s b h => by cases h), (fun x h => by cases h), (fun v h => by cases h; infer_instance)⟩
def tyc80 : TyC := { agg := false, sz := 1, zero := some (.nilFunc) }
theorem tyc80_ok : TyC.Ok Try.prog 80 tyc80 := ⟨(fun h => inferInstance), (fun f off a s h => by cases h), (fun e s b h => by cases h), (fun x h => by cases h), (fun v h => by cases h; infer_instance)⟩
def tyc81 : TyC := { agg := false, sz := 1, zero := some (.nilFunc) }
theorem tyc81_ok : TyC.Ok Try.prog 81 tyc81 := ⟨(fun h => inferInstance), (fun f off a s h => by cases h), (fun e s b h => by cases h), (fun x h => by cases h), (fun v h => by cases h; infer_instance)⟩
def tyc82 : TyC := { agg := false, sz := 1, zero := some (.nilFunc) }
theorem tyc82_ok : TyC.Ok Try.prog 82 tyc82 := ⟨(fun h => inferInstance), (fun f off a s h => by cases h), (fun e s b h => by cases h), (fun x h => by cases h), (fun v h => by cases h; infer_instance)⟩
def tyc83 : TyC := { agg := false, sz := 1, zero := some (.nilFunc) }
theorem tyc83_ok : TyC.Ok Try.prog 83 tyc83 := ⟨(fun h => inferInstance), (fun f off a s h => by cases h), (fun e s b h => by cases h), (fun x h => by cases h), (fun v h => by cases h; infer_instance)⟩
def tyc84 : TyC := { agg := false, sz := 1, zero := some (.nilFunc) }
theorem tyc84_ok : TyC.Ok Try.prog 84 tyc84 := ⟨(fun h => inferInstance), (fun f off a s h => by cases h), (fun e s b h => by cases h), (fun x h => by cases h), (fun v h => by cases h; infer_instance)⟩
def tyc85 : TyC := { agg := false, sz := 1, zero := some (.nilFunc) }
theorem tyc85_ok : TyC.Ok Try.prog 85 tyc85 := ⟨(fun h => inferInstance), (fun f off a s h => by cases h), (fun e s b h => by cases h), (fun x h => by cases h), (fun v h => by cases h; infer_instance)⟩
def tyc86 : TyC := { agg := false, sz := 1, zero := some (.nilFunc) }
theorem tyc86_ok : TyC.Ok Try.prog 86 tyc86 := ⟨(fun h => inferInstance), (fun f off a s h => by cases h), (fun e s b h => by cases h), (fun x h => by cases h), (fun v h => by cases h; infer_instance)⟩
def tyc87 : TyC := { agg := false, sz := 1, zero := some (.pointer none) }
theorem tyc87_ok : TyC.Ok Try.prog 87 tyc87 := ⟨(fun h => inferInstance), (fun f off a s h => by cases h), (fun e s b h => by cases h), (fun x h => by cases h), (fun v h => by cases h; infer_instance)⟩
def tyc88 : TyC := { agg := false, sz := 1, zero := some (.nilFunc) }
theorem tyc88_ok : TyC.Ok Try.prog 88 tyc88 := ⟨(fun h => inferInstance), (fun f off a s h => by cases h), (fun e s b h => by cases h), (fun x h => by cases h), (fun v h => by cases h; infer_instance)⟩
def tyc89 : TyC := { agg := false, sz := 1, zero := some (.nilFunc) }
theorem tyc89_ok : TyC.Ok Try.prog 89 tyc89 := ⟨(fun h => inferInstance), (fun f off a s h => by cases h), (fun e s b h => by cases h), (fun x h => by cases h), (fun v h => by cases h; infer_instance)⟩
def tyc90 : TyC := { agg := false, sz := 1, zero := some (.nilFunc) }
theorem tyc90_ok : TyC.Ok Try.prog 90 tyc90 := ⟨(fun h => inferInstance), (fun f off a s h => by cases h), (fun e s b h => by cases h), (fun x h => by cases h), (fun v h => by cases h; infer_instance)⟩
def tyc91 : TyC := { agg := false, sz := 1, desc := some (.map 3 3), zero := some (.map none) }
theorem tyc91_ok : TyC.Ok Try.prog 91 tyc91 := ⟨(fun h => inferInstance), (fun f off a s h => by cases h), (fun e s b h => by cases h), (fun x h => by cases h; infer_instance), (fun v h => by cases h; infer_instance)⟩
def tyc92 : TyC := { agg := false, sz := 1, zero := some (.nilFunc) }
theorem tyc92_ok : TyC.Ok Try.prog 92 tyc92 := ⟨(fun h => inferInstance), (fun f off a s h => by cases h), (fun e s b h => by cases h), (fun x h => by cases h), (fun v h => by cases h; infer_instance)⟩
def tyc93 : TyC := { agg := false, sz := 1, zero := some (.nilFunc) }
theorem tyc93_ok : TyC.Ok Try.prog 93 tyc93 := ⟨(fun h => inferInstance), (fun f off a s h => by cases h), (fun e s b h => by cases h), (fun x h => by cases h), (fun v h => by cases h; infer_instance)⟩
def tyc94 : TyC := { agg := false, sz := 1, zero := some (.nilFunc) }
theorem tyc94_ok : TyC.Ok Try.prog 94 tyc94 := ⟨(fun h => inferInstance), (fun f off a s h => by cases h), (fun e s b h => by cases h), (fun x h => by cases h), (fun v h => by cases h; infer_instance)⟩
def tyc95 : TyC := { agg := false, sz := 1, zero := some (.nilFunc) }
theorem tyc95_ok : TyC.Ok Try.prog 95 tyc95 := ⟨(fun h => inferInstance), (fun f off a s h => by cases h), (fun e s b h => by cases h), (fun x h => by cases h), (fun v h => by cases h; infer_instance)⟩
def tyc96 : TyC := { agg := false, sz := 1, desc := some (.int .i64), zero := some (.int .i64 0) }
theorem tyc96_ok : TyC.Ok Try.prog 96 tyc96 := ⟨(fun h => inferInstance), (fun f off a s h => by cases h), (fun e s b h => by cases h), (fun x h => by cases h; infer_instance), (fun v h => by cases h; infer_instance)⟩
def tyc98 : TyC := { agg := false, sz := 1, zero := some (.nilFunc) }
theorem tyc98_ok : TyC.Ok Try.prog 98 tyc98 := ⟨(fun h => inferInstance), (fun f off a s h => by cases h), (fun e s b h => by cases h), (fun x h => by cases h), (fun v h => by cases h; infer_instance)⟩
def tyc99 : TyC := { agg := false, sz := 1, zero := some (.nilFunc) }
theorem tyc99_ok : TyC.Ok Try.prog 99 tyc99 := ⟨(fun h => inferInstance), (fun f off a s h => by cases h), (fun e s b h => by cases h), (fun x h => by cases h), (fun v h => by cases h; infer_instance)⟩
def tyc100 : TyC := { agg := false, sz := 1, zero := some (.nilFunc) }
theorem tyc100_ok : TyC.Ok Try.prog 100 tyc100 := ⟨(fun h => inferInstance), (fun f off a s h => by cases h), (fun e s b h => by cases h), (fun x h => by cases h), (fun v h => by cases h; infer_instance)⟩
def tyc101 : TyC := { agg := false, sz := 1, zero := some (.nilFunc) }
theorem tyc101_ok : TyC.Ok Try.prog 101 tyc101 := ⟨(fun h => inferInstance), (fun f off a s h => by cases h), (fun e s b h => by cases h), (fun x h => by cases h), (fun v h => by cases h; infer_instance)⟩
def tyc102 : TyC := { agg := false, sz := 1, zero := some (.nilFunc) }
theorem tyc102_ok : TyC.Ok Try.prog 102 tyc102 := ⟨(fun h => inferInstance), (fun f off a s h => by cases h), (fun e s b h => by cases h), (fun x h => by cases h), (fun v h => by cases h; infer_instance)⟩
def tyc103 : TyC := { agg := false, sz := 1, zero := some (.nilFunc) }
theorem tyc103_ok : TyC.Ok Try.prog 103 tyc103 := ⟨(fun h => inferInstance), (fun f off a s h => by cases h), (fun e s b h => by cases h), (fun x h => by cases h), (fun v h => by cases h; infer_instance)⟩
def tyc104 : TyC := { agg := false, sz := 1, zero := some (.nilFunc) }
theorem tyc104_ok : TyC.Ok Try.prog 104 tyc104 := ⟨(fun h => inferInstance), (fun f off a s h => by cases h), (fun e s b h => by cases h), (fun x h => by cases h), (fun v h => by cases h; infer_instance)⟩
def tyc105 : TyC := { agg := false, sz := 1, zero := some (.pointer none) }
theorem tyc105_ok : TyC.Ok Try.prog 105 tyc105 := ⟨(fun h => inferInstance), (fun f off a s h => by cases h), (fun e s b h => by cases h), (fun x h => by cases h), (fun v h => by cases h; infer_instance)⟩
def tyc106 : TyC := { agg := true, sz := 8, fields := [(0, true, 6), (6, false, 1), (7, false, 1)], zero := some (.agg #[.string ByteArray.empty, .slice none 0 0, .slice none 0 0, .slice none 0 0, .slice none 0 0, .slice none 0 0, .slice none 0 0, .slice none 0 0]) }
theorem tyc106_ok : TyC.Ok Try.prog 106 tyc106 := ⟨(fun h => inferInstance), (fldAll ⟨(inferInstance : TyField Try.prog 106 0 0 true 6), (inferInstance : TyField Try.prog 106 1 6 false 1), (inferInstance : TyField Try.prog 106 2 7 false 1), trivial⟩), (fun e s b h => by cases h), (fun x h => by cases h), (fun v h => by cases h; infer_instance)⟩
def tyc107 : TyC := { agg := true, sz := 8, fields := [(0, true, 6), (6, false, 1), (7, false, 1)], zero := some (.agg #[.string ByteArray.empty, .slice none 0 0, .slice none 0 0, .slice none 0 0, .slice none 0 0, .slice none 0 0, .slice none 0 0, .slice none 0 0]) }
theorem tyc107_ok : TyC.Ok Try.prog 107 tyc107 := ⟨(fun h => inferInstance), (fldAll ⟨(inferInstance : TyField Try.prog 107 0 0 true 6), (inferInstance : TyField Try.prog 107 1 6 false 1), (inferInstance : TyField Try.prog 107 2 7 false 1), trivial⟩), (fun e s b h => by cases h), (fun x h => by cases h), (fun v h => by cases h; infer_instance)⟩
def tyc108 : TyC := { agg := false, sz := 1, zero := some (.nilFunc) }
theorem tyc108_ok : TyC.Ok Try.prog 108 tyc108 := ⟨(fun h => inferInstance), (fun f off a s h => by cases h), (fun e s b h => by cases h), (fun x h => by cases h), (fun v h => by cases h; infer_instance)⟩
def tyc109 : TyC := { agg := false, sz := 1, zero := some (.nilFunc) }
theorem tyc109_ok : TyC.Ok Try.prog 109 tyc109 := ⟨(fun h => inferInstance), (fun f off a s h => by cases h), (fun e s b h => by cases h), (fun x h => by cases h), (fun v h => by cases h; infer_instance)⟩
def tyc110 : TyC := { agg := false, sz := 1, zero := some (.nilFunc) }
theorem tyc110_ok : TyC.Ok Try.prog 110 tyc110 := ⟨(fun h => inferInstance), (fun f off a s h => by cases h), (fun e s b h => by cases h), (fun x h => by cases h), (fun v h => by cases h; infer_instance)⟩
def tyc111 : TyC := { agg := false, sz := 1, zero := some (.nilFunc) }
theorem tyc111_ok : TyC.Ok Try.prog 111 tyc111 := ⟨(fun h => inferInstance), (fun f off a s h => by cases h), (fun e s b h => by cases h), (fun x h => by cases h), (fun v h => by cases h; infer_instance)⟩
def tyc112 : TyC := { agg := false, sz := 1, zero := some (.nilFunc) }
theorem tyc112_ok : TyC.Ok Try.prog 112 tyc112 := ⟨(fun h => inferInstance), (fun f off a s h => by cases h), (fun e s b h => by cases h), (fun x h => by cases h), (fun v h => by cases h; infer_instance)⟩
def tyc113 : TyC := { agg := false, sz := 1, sl := some (9, 1, 16), zero := some (.slice none 0 0) }
theorem tyc113_ok : TyC.Ok Try.prog 113 tyc113 := ⟨(fun h => inferInstance), (fun f off a s h => by cases h), (fun e s b h => by cases h; infer_instance), (fun x h => by cases h), (fun v h => by cases h; infer_instance)⟩
def tyc114 : TyC := { agg := false, sz := 1, zero := some (.nilFunc) }
theorem tyc114_ok : TyC.Ok Try.prog 114 tyc114 := ⟨(fun h => inferInstance), (fun f off a s h => by cases h), (fun e s b h => by cases h), (fun x h => by cases h), (fun v h => by cases h; infer_instance)⟩
def tyc115 : TyC := { agg := false, sz := 1, zero := some (.nilFunc) }
theorem tyc115_ok : TyC.Ok Try.prog 115 tyc115 := ⟨(fun h => inferInstance), (fun f off a s h => by cases h), (fun e s b h => by cases h), (fun x h => by cases h), (fun v h => by cases h; infer_instance)⟩
def tyc116 : TyC := { agg := false, sz := 1, zero := some (.nilFunc) }
theorem tyc116_ok : TyC.Ok Try.prog 116 tyc116 := ⟨(fun h => inferInstance), (fun f off a s h => by cases h), (fun e s b h => by cases h), (fun x h => by cases h), (fun v h => by cases h; infer_instance)⟩
def tyc117 : TyC := { agg := false, sz := 1, zero := some (.nilFunc) }
theorem tyc117_ok : TyC.Ok Try.prog 117 tyc117 := ⟨(fun h => inferInstance), (fun f off a s h => by cases h), (fun e s b h => by cases h), (fun x h => by cases h), (fun v h => by cases h; infer_instance)⟩
def tyc118 : TyC := { agg := false, sz := 1, zero := some (.nilFunc) }
theorem tyc118_ok : TyC.Ok Try.prog 118 tyc118 := ⟨(fun h => inferInstance), (fun f off a s h => by cases h), (fun e s b h => by cases h), (fun x h => by cases h), (fun v h => by cases h; infer_instance)⟩
def tyc119 : TyC := { agg := false, sz := 1, zero := some (.nilFunc) }
theorem tyc119_ok : TyC.Ok Try.prog 119 tyc119 := ⟨(fun h => inferInstance), (fun f off a s h => by cases h), (fun e s b h => by cases h), (fun x h => by cases h), (fun v h => by cases h; infer_instance)⟩
def tyc120 : TyC := { agg := false, sz := 1, zero := some (.nilFunc) }
theorem tyc120_ok : TyC.Ok Try.prog 120 tyc120 := ⟨(fun h => inferInstance), (fun f off a s h => by cases h), (fun e s b h => by cases h), (fun x h => by cases h), (fun v h => by cases h; infer_instance)⟩
def tyc121 : TyC := { agg := false, sz := 1, zero := some (.nilFunc) }
theorem tyc121_ok : TyC.Ok Try.prog 121 tyc121 := ⟨(fun h => inferInstance), (fun f off a s h => by cases h), (fun e s b h => by cases h), (fun x h => by cases h), (fun v h => by cases h; infer_instance)⟩
def tyc122 : TyC := { agg := false, sz := 1, zero := some (.nilFunc) }
theorem tyc122_ok : TyC.Ok Try.prog 122 tyc122 := ⟨(fun h => inferInstance), (fun f off a s h => by cases h), (fun e s b h => by cases h), (fun x h => by cases h), (fun v h => by cases h; infer_instance)⟩
def tyc123 : TyC := { agg := false, sz := 1, zero := some (.nilFunc) }
theorem tyc123_ok : TyC.Ok Try.prog 123 tyc123 := ⟨(fun h => inferInstance), (fun f off a s h => by cases h), (fun e s b h => by cases h), (fun x h => by cases h), (fun v h => by cases h; infer_instance)⟩
def tyc124 : TyC := { agg := false, sz := 1, zero := some (.nilFunc) }
theorem tyc124_ok : TyC.Ok Try.prog 124 tyc124 := ⟨(fun h => inferInstance), (fun f off a s h => by cases h), (fun e s b h => by cases h), (fun x h => by cases h), (fun v h => by cases h; infer_instance)⟩
def tyc125 : TyC := { agg := false, sz := 1, zero := some (.nilFunc) }
theorem tyc125_ok : TyC.Ok Try.prog 125 tyc125 := ⟨(fun h => inferInstance), (fun f off a s h => by cases h), (fun e s b h => by cases h), (fun x h => by cases h), (fun v h => by cases h; infer_instance)⟩
def tyc126 : TyC := { agg := false, sz := 1, zero := some (.nilFunc) }
theorem tyc126_ok : TyC.Ok Try.prog 126 tyc126 := ⟨(fun h => inferInstance), (fun f off a s h => by cases h), (fun e s b h => by cases h), (fun x h => by cases h), (fun v h => by cases h; infer_instance)⟩
def tyc127 : TyC := { agg := false, sz := 1, zero := some (.nilFunc) }
theorem tyc127_ok : TyC.Ok Try.prog 127 tyc127 := ⟨(fun h => inferInstance), (fun f off a s h => by cases h), (fun e s b h => by cases h), (fun x h => by cases h), (fun v h => by cases h; infer_instance)⟩
def tyc128 : TyC := { agg := false, sz := 1, zero := some (.nilFunc) }
theorem tyc128_ok : TyC.Ok Try.prog 128 tyc128 := ⟨(fun h => inferInstance), (fun f off a s h => by cases h), (fun e s b h => by cases h), (fun x h => by cases h), (fun v h => by cases h; infer_instance)⟩
def tyc129 : TyC := { agg := false, sz := 1, zero := some (.nilFunc) }
theorem tyc129_ok : TyC.Ok Try.prog 129 tyc129 := ⟨(fun h => inferInstance), (fun f off a s h => by cases h), (fun e s b h => by cases h), (fun x h => by cases h), (fun v h => by cases h; infer_instance)⟩
def tyc131 : TyC := { agg := false, sz := 1, zero := some (.nilFunc) }
theorem tyc131_ok : TyC.Ok Try.prog 131 tyc131 := ⟨(fun h => inferInstance), (fun f off a s h => by cases h), (fun e s b h => by cases h), (fun x h => by cases h), (fun v h => by cases h; infer_instance)⟩
def tyc132 : TyC := { agg := false, sz := 1, zero := some (.nilFunc) }
theorem tyc132_ok : TyC.Ok Try.prog 132 tyc132 := ⟨(fun h => inferInstance), (fun f off a s h => by cases h), (fun e s b h => by cases h), (fun x h => by cases h), (fun v h => by cases h; infer_instance)⟩
def tyc133 : TyC := { agg := false, sz := 1, sl := some (5, 1, 1), zero := some (.slice none 0 0) }
theorem tyc133_ok : TyC.Ok Try.prog 133 tyc133 := ⟨(fun h => inferInstance), (fun f off a s h => by cases h), (fun e s b h => by cases h; infer_instance), (fun x h => by cases h), (fun v h => by cases h; infer_instance)⟩
def tyc134 : TyC := { agg := false, sz := 1, desc := some (.map 9 4), zero := some (.map none) }
theorem tyc134_ok : TyC.Ok Try.prog 134 tyc134 := ⟨(fun h => inferInstance), (fun f off a s h => by cases h), (fun e s b h => by cases h), (fun x h => by cases h; infer_instance), (fun v h => by cases h; infer_instance)⟩
def tyc135 : TyC := { agg := false, sz := 1, zero := some (.nilFunc) }
theorem tyc135_ok : TyC.Ok Try.prog 135 tyc135 := ⟨(fun h => inferInstance), (fun f off a s h => by cases h), (fun e s b h => by cases h), (fun x h => by cases h), (fun v h => by cases h; infer_instance)⟩
def tyc136 : TyC := { agg := false, sz := 1, zero := some (.nilFunc) }
theorem tyc136_ok : TyC.Ok Try.prog 136 tyc136 := ⟨(fun h => inferInstance), (fun f off a s h => by cases h), (fun e s b h => by cases h), (fun x h => by cases h), (fun v h => by cases h; infer_instance)⟩
def tyc137 : TyC := { agg := false, sz := 1, zero := some (.nilFunc) }
theorem tyc137_ok : TyC.Ok Try.prog 137 tyc137 := ⟨(fun h => inferInstance), (fun f off a s h => by cases h), (fun e s b h => by cases h), (fun x h => by cases h), (fun v h => by cases h; infer_instance)⟩
def tyc138 : TyC := { agg := false, sz := 1, zero := some (.nilFunc) }
theorem tyc138_ok : TyC.Ok Try.prog 138 tyc138 := ⟨(fun h => inferInstance), (fun f off a s h => by cases h), (fun e s b h => by cases h), (fun x h => by cases h), (fun v h => by cases h; infer_instance)⟩
def tyc139 : TyC := { agg := false, sz := 1, zero := some (.nilFunc) }
theorem tyc139_ok : TyC.Ok Try.prog 139 tyc139 := ⟨(fun h => inferInstance), (fun f off a s h => by cases h), (fun e s b h => by cases h), (fun x h => by cases h), (fun v h => by cases h; infer_instance)⟩
def tyc140 : TyC := { agg := false, sz := 1, zero := some (.nilFunc) }
theorem tyc140_ok : TyC.Ok Try.prog 140 tyc140 := ⟨(fun h => inferInstance), (fun f off a s h => by cases h), (fun e s b h => by cases h), (fun x h => by cases h), (fun v h => by cases h; infer_instance)⟩
def tyc141 : TyC := { agg := false, sz := 1, zero := some (.nilFunc) }
theorem tyc141_ok : TyC.Ok Try.prog 141 tyc141 := ⟨(fun h => inferInstance), (fun f off a s h => by cases h), (fun e s b h => by cases h), (fun x h => by cases h), (fun v h => by cases h; infer_instance)⟩
def tyc142 : TyC := { agg := false, sz := 1, desc := some (.int .u64), zero := some (.int .u64 0) }
theorem tyc142_ok : TyC.Ok Try.prog 142 tyc142 := ⟨(fun h => inferInstance), (fun f off a s h => by cases h), (fun e s b h => by cases h), (fun x h => by cases h; infer_instance), (fun v h => by cases h; infer_instance)⟩
def tyc143 : TyC := { agg := false, sz := 1, zero := some (.nilFunc) }
theorem tyc143_ok : TyC.Ok Try.prog 143 tyc143 := ⟨(fun h => inferInstance), (fun f off a s h => by cases h), (fun e s b h => by cases h), (fun x h => by cases h), (fun v h => by cases h; infer_instance)⟩
def tyc144 : TyC := { agg := true, sz := 3, zero := some (.agg #[.int .i64 0, .int .i64 0, .int .i64 0]) }
theorem tyc144_ok : TyC.Ok Try.prog 144 tyc144 := ⟨(fun h => inferInstance), (fun f off a s h => by cases h), (fun e s b h => by cases h), (fun x h => by cases h), (fun v h => by cases h; infer_instance)⟩
def tyc145 : TyC := { agg := false, sz := 1, zero := some (.nilFunc) }
theorem tyc145_ok : TyC.Ok Try.prog 145 tyc145 := ⟨(fun h => inferInstance), (fun f off a s h => by cases h), (fun e s b h => by cases h), (fun x h => by cases h), (fun v h => by cases h; infer_instance)⟩
def tyc146 : TyC := { agg := false, sz := 1, zero := some (.nilFunc) }
theorem tyc146_ok : TyC.Ok Try.prog 146 tyc146 := ⟨(fun h => inferInstance), (fun f off a s h => by cases h), (fun e s b h => by cases h), (fun x h => by cases h), (fun v h => by cases h; infer_instance)⟩
def tyc147 : TyC := { agg := false, sz := 1, zero := some (.nilFunc) }
theorem tyc147_ok : TyC.Ok Try.prog 147 tyc147 := ⟨(fun h => inferInstance), (fun f off a s h => by cases h), (fun e s b h => by cases h), (fun x h => by cases h), (fun v h => by cases h; infer_instance)⟩
def tyc148 : TyC := { agg := false, sz := 1, desc := some (.int .i64), zero := some (.int .i64 0) }
theorem tyc148_ok : TyC.Ok Try.prog 148 tyc148 := ⟨(fun h => inferInstance), (fun f off a s h => by cases h), (fun e s b h => by cases h), (fun x h => by cases h; infer_instance), (fun v h => by cases h; infer_instance)⟩
def tyc150 : TyC := { agg := false, sz := 1, zero := some (.nilFunc) }
theorem tyc150_ok : TyC.Ok Try.prog 150 tyc150 := ⟨(fun h => inferInstance), (fun f off a s h => by cases h), (fun e s b h => by cases h), (fun x h => by cases h), (fun v h => by cases h; infer_instance)⟩
def tyc151 : TyC := { agg := false, sz := 1, zero := some (.nilFunc) }
theorem tyc151_ok : TyC.Ok Try.prog 151 tyc151 := ⟨(fun h => inferInstance), (fun f off a s h => by cases h), (fun e s b h => by cases h), (fun x h => by cases h), (fun v h => by cases h; infer_instance)⟩
def tyc152 : TyC := { agg := false, sz := 1, zero := some (.nilFunc) }
theorem tyc152_ok : TyC.Ok Try.prog 152 tyc152 := ⟨(fun h => inferInstance), (fun f off a s h => by cases h), (fun e s b h => by cases h), (fun x h => by cases h), (fun v h => by cases h; infer_instance)⟩
def tyc153 : TyC := { agg := false, sz := 1, zero := some (.nilFunc) }
theorem tyc153_ok : TyC.Ok Try.prog 153 tyc153 := ⟨(fun h => inferInstance), (fun f off a s h => by cases h), (fun e s b h => by cases h), (fun x h => by cases h), (fun v h => by cases h; infer_instance)⟩
def tyc154 : TyC := { agg := false, sz := 1, zero := some (.nilFunc) }
theorem tyc154_ok : TyC.Ok Try.prog 154 tyc154 := ⟨(fun h => inferInstance), (fun f off a s h => by cases h), (fun e s b h => by cases h), (fun x h => by cases h), (fun v h => by cases h; infer_instance)⟩
def tyc155 : TyC := { agg := false, sz := 1, desc := some (.int .u32), zero := some (.int .u32 0) }
theorem tyc155_ok : TyC.Ok Try.prog 155 tyc155 := ⟨(fun h => inferInstance), (fun f off a s h => by cases h), (fun e s b h => by cases h), (fun x h => by cases h; infer_instance), (fun v h => by cases h; infer_instance)⟩
def tyc156 : TyC := { agg := false, sz := 1, zero := some (.nilFunc) }
theorem tyc156_ok : TyC.Ok Try.prog 156 tyc156 := ⟨(fun h => inferInstance), (fun f off a s h => by cases h), (fun e s b h => by cases h), (fun x h => by cases h), (fun v h => by cases h; infer_instance)⟩
def tyc157 : TyC := { agg := false, sz := 1, desc := some (.int .u64), zero := some (.int .u64 0) }
theorem tyc157_ok : TyC.Ok Try.prog 157 tyc157 := ⟨(fun h => inferInstance), (fun f off a s h => by cases h), (fun e s b h => by cases h), (fun x h => by cases h; infer_instance), (fun v h => by cases h; infer_instance)⟩
def tyc158 : TyC := { agg := false, sz := 1, zero := some (.nilFunc) }
theorem tyc158_ok : TyC.Ok Try.prog 158 tyc158 := ⟨(fun h => inferInstance), (fun f off a s h => by cases h), (fun e s b h => by cases h), (fun x h => by cases h), (fun v h => by cases h; infer_instance)⟩
def tyc159 : TyC := { agg := false, sz := 1, zero := some (.nilFunc) }
theorem tyc159_ok : TyC.Ok Try.prog 159 tyc159 := ⟨(fun h => inferInstance), (fun f off a s h => by cases h), (fun e s b h => by cases h), (fun x h => by cases h), (fun v h => by cases h; infer_instance)⟩
def tyc160 : TyC := { agg := false, sz := 1, zero := some (.nilFunc) }
theorem tyc160_ok : TyC.Ok Try.prog 160 tyc160 := ⟨(fun h => inferInstance), (fun f off a s h => by cases h), (fun e s b h => by cases h), (fun x h => by cases h), (fun v h => by cases h; infer_instance)⟩
def tyc161 : TyC := { agg := false, sz := 1, zero := some (.pointer none) }
theorem tyc161_ok : TyC.Ok Try.prog 161 tyc161 := ⟨(fun h => inferInstance), (fun f off a s h => by cases h), (fun e s b h => by cases h), (fun x h => by cases h), (fun v h => by cases h; infer_instance)⟩
def tyc162 : TyC := { agg := false, sz := 1, zero := some (.nilFunc) }
theorem tyc162_ok : TyC.Ok Try.prog 162 tyc162 := ⟨(fun h => inferInstance), (fun f off a s h => by cases h), (fun e s b h => by cases h), (fun x h => by cases h), (fun v h => by cases h; infer_instance)⟩
def tyc163 : TyC := { agg := false, sz := 1, zero := some (.pointer none) }
theorem tyc163_ok : TyC.Ok Try.prog 163 tyc163 := ⟨(fun h => inferInstance), (fun f off a s h => by cases h), (fun e s b h => by cases h), (fun x h => by cases h), (fun v h => by cases h; infer_instance)⟩
def tyc165 : TyC := { agg := false, sz := 1, zero := some (.nilFunc) }
theorem tyc165_ok : TyC.Ok Try.prog 165 tyc165 := ⟨(fun h => inferInstance), (fun f off a s h => by cases h), (fun e s b h => by cases h), (fun x h => by cases h), (fun v h => by cases h; infer_instance)⟩
def tyc166 : TyC := { agg := false, sz := 1, zero := some (.nilFunc) }
theorem tyc166_ok : TyC.Ok Try.prog 166 tyc166 := ⟨(fun h => inferInstance), (fun f off a s h => by cases h), (fun e s b h => by cases h), (fun x h => by cases h), (fun v h => by cases h; infer_instance)⟩
def tyc167 : TyC := { agg := true, sz := 4, fields := [(0, false, 1), (1, false, 1), (2, false, 1), (3, false, 1)], zero := some (.agg #[.pointer none, .pointer none, .pointer none, .string ByteArray.empty]) }
theorem tyc167_ok : TyC.Ok Try.prog 167 tyc167 := ⟨(fun h => inferInstance), (fldAll ⟨(inferInstance : TyField Try.prog 167 0 0 false 1), (inferInstance : TyField Try.prog 167 1 1 false 1), (inferInstance : TyField Try.prog 167 2 2 false 1), (inferInstance : TyField Try.prog 167 3 3 false 1), trivial⟩), (fun e s b h => by cases h), (fun x h => by cases h), (fun v h => by cases h; infer_instance)⟩
def tyc168 : TyC := { agg := true, sz := 4, fields := [(0, false, 1), (1, false, 1), (2, false, 1), (3, false, 1)], zero := some (.agg #[.pointer none, .pointer none, .pointer none, .string ByteArray.empty]) }
theorem tyc168_ok : TyC.Ok Try.prog 168 tyc168 := ⟨(fun h => inferInstance), (fldAll ⟨(inferInstance : TyField Try.prog 168 0 0 false 1), (inferInstance : TyField Try.prog 168 1 1 false 1), (inferInstance : TyField Try.prog 168 2 2 false 1), (inferInstance : TyField Try.prog 168 3 3 false 1), trivial⟩), (fun e s b h => by cases h), (fun x h => by cases h), (fun v h => by cases h; infer_instance)⟩
def tyc169 : TyC := { agg := true, sz := 0, zero := some (.agg #[]) }
theorem tyc169_ok : TyC.Ok Try.prog 169 tyc169 := ⟨(fun h => by cases h), (fun f off a s h => by cases h), (fun e s b h => by cases h), (fun x h => by cases h), (fun v h => by cases h; infer_instance)⟩
def tyc170 : TyC := { agg := true, sz := 0, zero := some (.agg #[]) }
theorem tyc170_ok : TyC.Ok Try.prog 170 tyc170 := ⟨(fun h => by cases h), (fun f off a s h => by cases h), (fun e s b h => by cases h), (fun x h => by cases h), (fun v h => by cases h; infer_instance)⟩
def tyc171 : TyC := { agg := true, sz := 0, zero := some (.agg #[]) }
theorem tyc171_ok : TyC.Ok Try.prog 171 tyc171 := ⟨(fun h => by cases h), (fun f off a s h => by cases h), (fun e s b h => by cases h), (fun x h => by cases h), (fun v h => by cases h; infer_instance)⟩
def tyc172 : TyC := { agg := false, sz := 1, zero := some (.nilFunc) }
theorem tyc172_ok : TyC.Ok Try.prog 172 tyc172 := ⟨(fun h => inferInstance), (fun f off a s h => by cases h), (fun e s b h => by cases h), (fun x h => by cases h), (fun v h => by cases h; infer_instance)⟩
def tyc173 : TyC := { agg := false, sz := 1, desc := some (.int .u8), zero := some (.int .u8 0) }
theorem tyc173_ok : TyC.Ok Try.prog 173 tyc173 := ⟨(fun h => inferInstance), (fun f off a s h => by cases h), (fun e s b h => by cases h), (fun x h => by cases h; infer_instance), (fun v h => by cases h; infer_instance)⟩
def tyc174 : TyC := { agg := false, sz := 1, desc := some (.int .u8), zero := some (.int .u8 0) }
theorem tyc174_ok : TyC.Ok Try.prog 174 tyc174 := ⟨(fun h => inferInstance), (fun f off a s h => by cases h), (fun e s b h => by cases h), (fun x h => by cases h; infer_instance), (fun v h => by cases h; infer_instance)⟩
def tyc175 : TyC := { agg := false, sz := 1, zero := some (.nilFunc) }
theorem tyc175_ok : TyC.Ok Try.prog 175 tyc175 := ⟨(fun h => inferInstance), (fun f off a s h => by cases h), (fun e s b h => by cases h), (fun x h => by cases h), (fun v h => by cases h; infer_instance)⟩
def tyc176 : TyC := { agg := false, sz := 1, zero := some (.pointer none) }
theorem tyc176_ok : TyC.Ok Try.prog 176 tyc176 := ⟨(fun h => inferInstance), (fun f off a s h => by cases h), (fun e s b h => by cases h), (fun x h => by cases h), (fun v h => by cases h; infer_instance)⟩
def tyc177 : TyC := { agg := false, sz := 1, desc := some (.int .i32), zero := some (.int .i32 0) }
theorem tyc177_ok : TyC.Ok Try.prog 177 tyc177 := ⟨(fun h => inferInstance), (fun f off a s h => by cases h), (fun e s b h => by cases h), (fun x h => by cases h; infer_instance), (fun v h => by cases h; infer_instance)⟩
def tyc178 : TyC := { agg := false, sz := 1, desc := some (.int .i32), zero := some (.int .i32 0) }
theorem tyc178_ok : TyC.Ok Try.prog 178 tyc178 := ⟨(fun h => inferInstance), (fun f off a s h => by cases h), (fun e s b h => by cases h), (fun x h => by cases h; infer_instance), (fun v h => by cases h; infer_instance)⟩
def tyc179 : TyC := { agg := true, sz := 11, fields := [(0, false, 1), (1, false, 1), (2, false, 1), (3, false, 1), (4, false, 1), (5, false, 1), (6, false, 1), (7, false, 1), (8, false, 1), (9, false, 1), (10, false, 1)], zero := some (.agg #[.int .u64 0, .int .u64 0, .int .u32 0, .int .u8 0, .int .u8 0, .int .u8 0, .int .u8 0, .nilFunc, .pointer none, .int .i32 0, .int .i32 0]) }
theorem tyc179_ok : TyC.Ok Try.prog 179 tyc179 := ⟨(fun h => inferInstance), (fldAll ⟨(inferInstance : TyField Try.prog 179 0 0 false 1), (inferInstance : TyField Try.prog 179 1 1 false 1), (inferInstance : TyField Try.prog 179 2 2 false 1), (inferInstance : TyField Try.prog 179 3 3 false 1), (inferInstance : TyField Try.prog 179 4 4 false 1), (inferInstance : TyField Try.prog 179 5 5 false 1), (inferInstance : TyField Try.prog 179 6 6 false 1), (inferInstance : TyField Try.prog 179 7 7 false 1), (inferInstance : TyField Try.prog 179 8 8 false 1), (inferInstance : TyField Try.prog 179 9 9 false 1), (inferInstance : TyField Try.prog 179 10 10 false 1), trivial⟩), (fun e s b h => by cases h), (fun x h => by cases h), (fun v h => by cases h; infer_instance)⟩
def tyc180 : TyC := { agg := true, sz := 11, fields := [(0, false, 1), (1, false, 1), (2, false, 1), (3, false, 1), (4, false, 1), (5, false, 1), (6, false, 1), (7, false, 1), (8, false, 1), (9, false, 1), (10, false, 1)], zero := some (.agg #[.int .u64 0, .int .u64 0, .int .u32 0, .int .u8 0, .int .u8 0, .int .u8 0, .int .u8 0, .nilFunc, .pointer none, .int .i32 0, .int .i32 0]) }
theorem tyc180_ok : TyC.Ok Try.prog 180 tyc180 := ⟨(fun h => inferInstance), (fldAll ⟨(inferInstance : TyField Try.prog 180 0 0 false 1), (inferInstance : TyField Try.prog 180 1 1 false 1), (inferInstance : TyField Try.prog 180 2 2 false 1), (inferInstance : TyField Try.prog 180 3 3 false 1), (inferInstance : TyField Try.prog 180 4 4 false 1), (inferInstance : TyField Try.prog 180 5 5 false 1), (inferInstance : TyField Try.prog 180 6 6 false 1), (inferInstance : TyField Try.prog 180 7 7 false 1), (inferInstance : TyField Try.prog 180 8 8 false 1), (inferInstance : TyField Try.prog 180 9 9 false 1), (inferInstance : TyField Try.prog 180 10 10 false 1), trivial⟩), (fun e s b h => by cases h), (fun x h => by cases h), (fun v h => by cases h; infer_instance)⟩
def tycs (t : TypeId) : TyC := (bif Nat.blt t 90 then (bif Nat.blt t 46 then (bif Nat.blt t 22 then (bif Nat.blt t 11 then (bif Nat.blt t 6 then (bif Nat.blt t 3 then (bif Nat.blt t 2 then (bif Nat.beq t 1 then tyc1 else {}) else (bif Nat.beq t 2 then tyc2 else {})) else (bif Nat.blt t 4 then (bif Nat.beq t 3 then tyc3 else {}) else (bif Nat.blt t 5 then (bif Nat.beq t 4 then tyc4 else {}) else (bif Nat.beq t 5 then tyc5 else {})))) else (bif Nat.blt t 8 then (bif Nat.blt t 7 then (bif Nat.beq t 6 then tyc6 else {}) else (bif Nat.beq t 7 then tyc7 else {})) else (bif Nat.blt t 9 then (bif Nat.beq t 8 then tyc8 else {}) else (bif Nat.blt t 10 then (bif Nat.beq t 9 then tyc9 else {}) else (bif Nat.beq t 10 then tyc10 else {}))))) else (bif Nat.blt t 16 then (bif Nat.blt t 13 then (bif Nat.blt t 12 then (bif Nat.beq t 11 then tyc11 else {}) else (bif Nat.beq t 12 then tyc12 else {})) else (bif Nat.blt t 14 then (bif Nat.beq t 13 then tyc13 else {}) else (bif Nat.blt t 15 then (bif Nat.beq t 14 then tyc14 else {}) else (bif Nat.beq t 15 then tyc15 else {})))) else (bif Nat.blt t 19 then (bif Nat.blt t 17 then (bif Nat.beq t 16 then tyc16 else {}) else (bif Nat.blt t 18 then (bif Nat.beq t 17 then tyc17 else {}) else (bif Nat.beq t 18 then tyc18 else {}))) else (bif Nat.blt t 20 then (bif Nat.beq t 19 then tyc19 else {}) else (bif Nat.blt t 21 then (bif Nat.beq t 20 then tyc20 else {}) else (bif Nat.beq t 21 then tyc21 else {})))))) else (bif Nat.blt t 34 then (bif Nat.blt t 27 then (bif Nat.blt t 24 then (bif Nat.blt t 23 then (bif Nat.beq t 22 then tyc22 else {}) else (bif Nat.beq t 23 then tyc23 else {})) else (bif Nat.blt t 25 then (bif Nat.beq t 24 then tyc24 else {}) else (bif Nat.blt t 26 then (bif Nat.beq t 25 then tyc25 else {}) else (bif Nat.beq t 26 then tyc26 else {})))) else (bif Nat.blt t 30 then (bif Nat.blt t 28 then (bif Nat.beq t 27 then tyc27 else {}) else (bif Nat.blt t 29 then (bif Nat.beq t 28 then tyc28 else {}) else (bif Nat.beq t 29 then tyc29 else {}))) else (bif Nat.blt t 31 then (bif Nat.beq t 30 then tyc30 else {}) else (bif Nat.blt t 33 then (bif Nat.beq t 31 then tyc31 else {}) else (bif Nat.beq t 33 then tyc33 else {}))))) else (bif Nat.blt t 39 then (bif Nat.blt t 36 then (bif Nat.blt t 35 then (bif Nat.beq t 34 then tyc34 else {}) else (bif Nat.beq t 35 then tyc35 else {})) else (bif Nat.blt t 37 then (bif Nat.beq t 36 then tyc36 else {}) else (bif Nat.blt t 38 then (bif Nat.beq t 37 then tyc37 else {}) else (bif Nat.beq t 38 then tyc38 else {})))) else (bif Nat.blt t 43 then (bif Nat.blt t 40 then (bif Nat.beq t 39 then tyc39 else {}) else (bif Nat.blt t 41 then (bif Nat.beq t 40 then tyc40 else {}) else (bif Nat.beq t 41 then tyc41 else {}))) else (bif Nat.blt t 44 then (bif Nat.beq t 43 then tyc43 else {}) else (bif Nat.blt t 45 then (bif Nat.beq t 44 then tyc44 else {}) else (bif Nat.beq t 45 then tyc45 else {}))))))) else (bif Nat.blt t 68 then (bif Nat.blt t 57 then (bif Nat.blt t 51 then (bif Nat.blt t 48 then (bif Nat.blt t 47 then (bif Nat.beq t 46 then tyc46 else {}) else (bif Nat.beq t 47 then tyc47 else {})) else (bif Nat.blt t 49 then (bif Nat.beq t 48 then tyc48 else {}) else (bif Nat.blt t 50 then (bif Nat.beq t 49 then tyc49 else {}) else (bif Nat.beq t 50 then tyc50 else {})))) else (bif Nat.blt t 54 then (bif Nat.blt t 52 then (bif Nat.beq t 51 then tyc51 else {}) else (bif Nat.blt t 53 then (bif Nat.beq t 52 then tyc52 else {}) else (bif Nat.beq t 53 then tyc53 else {}))) else (bif Nat.blt t 55 then (bif Nat.beq t 54 then tyc54 else {}) else (bif Nat.blt t 56 then (bif Nat.beq t 55 then tyc55 else {}) else (bif Nat.beq t 56 then tyc56 else {}))))) else (bif Nat.blt t 62 then (bif Nat.blt t 59 then (bif Nat.blt t 58 then (bif Nat.beq t 57 then tyc57 else {}) else (bif Nat.beq t 58 then tyc58 else {})) else (bif Nat.blt t 60 then (bif Nat.beq t 59 then tyc59 else {}) else (bif Nat.blt t 61 then (bif Nat.beq t 60 then tyc60 else {}) else (bif Nat.beq t 61 then tyc61 else {})))) else (bif Nat.blt t 65 then (bif Nat.blt t 63 then (bif Nat.beq t 62 then tyc62 else {}) else (bif Nat.blt t 64 then (bif Nat.beq t 63 then tyc63 else {}) else (bif Nat.beq t 64 then tyc64 else {}))) else (bif Nat.blt t 66 then (bif Nat.beq t 65 then tyc65 else {}) else (bif Nat.blt t 67 then (bif Nat.beq t 66 then tyc66 else {}) else (bif Nat.beq t 67 then tyc67 else {})))))) else (bif Nat.blt t 79 then (bif Nat.blt t 73 then (bif Nat.blt t 70 then (bif Nat.blt t 69 then (bif Nat.beq t 68 then tyc68 else {}) else (bif Nat.beq t 69 then tyc69 else {})) else (bif Nat.blt t 71 then (bif Nat.beq t 70 then tyc70 else {}) else (bif Nat.blt t 72 then (bif Nat.beq t 71 then tyc71 else {}) else (bif Nat.beq t 72 then tyc72 else {})))) else (bif Nat.blt t 76 then (bif Nat.blt t 74 then (bif Nat.beq t 73 then tyc73 else {}) else (bif Nat.blt t 75 then (bif Nat.beq t 74 then tyc74 else {}) else (bif Nat.beq t 75 then tyc75 else {}))) else (bif Nat.blt t 77 then (bif Nat.beq t 76 then tyc76 else {}) else (bif Nat.blt t 78 then (bif Nat.beq t 77 then tyc77 else {}) else (bif Nat.beq t 78 then tyc78 else {}))))) else (bif Nat.blt t 84 then (bif Nat.blt t 81 then (bif Nat.blt t 80 then (bif Nat.beq t 79 then tyc79 else {}) else (bif Nat.beq t 80 then tyc80 else {})) else (bif Nat.blt t 82 then (bif Nat.beq t 81 then tyc81 else {}) else (bif Nat.blt t 83 then (bif Nat.beq t 82 then tyc82 else {}) else (bif Nat.beq t 83 then tyc83 else {})))) else (bif Nat.blt t 87 then (bif Nat.blt t 85 then (bif Nat.beq t 84 then tyc84 else {}) else (bif Nat.blt t 86 then (bif Nat.beq t 85 then tyc85 else {}) else (bif Nat.beq t 86 then tyc86 else {}))) else (bif Nat.blt t 88 then (bif Nat.beq t 87 then tyc87 else {}) else (bif Nat.blt t 89 then (bif Nat.beq t 88 then tyc88 else {}) else (bif Nat.beq t 89 then tyc89 else {})))))))) else (bif Nat.blt t 135 then (bif Nat.blt t 112 then (bif Nat.blt t 101 then (bif Nat.blt t 95 then (bif Nat.blt t 92 then (bif Nat.blt t 91 then (bif Nat.beq t 90 then tyc90 else {}) else (bif Nat.beq t 91 then tyc91 else {})) else (bif Nat.blt t 93 then (bif Nat.beq t 92 then tyc92 else {}) else (bif Nat.blt t 94 then (bif Nat.beq t 93 then tyc93 else {}) else (bif Nat.beq t 94 then tyc94 else {})))) else (bif Nat.blt t 98 then (bif Nat.blt t 96 then (bif Nat.beq t 95 then tyc95 else {}) else (bif Nat.beq t 96 then tyc96 else {})) else (bif Nat.blt t 99 then (bif Nat.beq t 98 then tyc98 else {}) else (bif Nat.blt t 100 then (bif Nat.beq t 99 then tyc99 else {}) else (bif Nat.beq t 100 then tyc100 else {}))))) else (bif Nat.blt t 106 then (bif Nat.blt t 103 then (bif Nat.blt t 102 then (bif Nat.beq t 101 then tyc101 else {}) else (bif Nat.beq t 102 then tyc102 else {})) else (bif Nat.blt t 104 then (bif Nat.beq t 103 then tyc103 else {}) else (bif Nat.blt t 105 then (bif Nat.beq t 104 then tyc104 else {}) else (bif Nat.beq t 105 then tyc105 else {})))) else (bif Nat.blt t 109 then (bif Nat.blt t 107 then (bif Nat.beq t 106 then tyc106 else {}) else (bif Nat.blt t 108 then (bif Nat.beq t 107 then tyc107 else {}) else (bif Nat.beq t 108 then tyc108 else {}))) else (bif Nat.blt t 110 then (bif Nat.beq t 109 then tyc109 else {}) else (bif Nat.blt t 111 then (bif Nat.beq t 110 then tyc110 else {}) else (bif Nat.beq t 111 then tyc111 else {})))))) else (bif Nat.blt t 123 then (bif Nat.blt t 117 then (bif Nat.blt t 114 then (bif Nat.blt t 113 then (bif Nat.beq t 112 then tyc112 else {}) else (bif Nat.beq t 113 then tyc113 else {})) else (bif Nat.blt t 115 then (bif Nat.beq t 114 then tyc114 else {}) else (bif Nat.blt t 116 then (bif Nat.beq t 115 then tyc115 else {}) else (bif Nat.beq t 116 then tyc116 else {})))) else (bif Nat.blt t 120 then (bif Nat.blt t 118 then (bif Nat.beq t 117 then tyc117 else {}) else (bif Nat.blt t 119 then (bif Nat.beq t 118 then tyc118 else {}) else (bif Nat.beq t 119 then tyc119 else {}))) else (bif Nat.blt t 121 then (bif Nat.beq t 120 then tyc120 else {}) else (bif Nat.blt t 122 then (bif Nat.beq t 121 then tyc121 else {}) else (bif Nat.beq t 122 then tyc122 else {}))))) else (bif Nat.blt t 128 then (bif Nat.blt t 125 then (bif Nat.blt t 124 then (bif Nat.beq t 123 then tyc123 else {}) else (bif Nat.beq t 124 then tyc124 else {})) else (bif Nat.blt t 126 then (bif Nat.beq t 125 then tyc125 else {}) else (bif Nat.blt t 127 then (bif Nat.beq t 126 then tyc126 else {}) else (bif Nat.beq t 127 then tyc127 else {})))) else (bif Nat.blt t 132 then (bif Nat.blt t 129 then (bif Nat.beq t 128 then tyc128 else {}) else (bif Nat.blt t 131 then (bif Nat.beq t 129 then tyc129 else {}) else (bif Nat.beq t 131 then tyc131 else {}))) else (bif Nat.blt t 133 then (bif Nat.beq t 132 then tyc132 else {}) else (bif Nat.blt t 134 then (bif Nat.beq t 133 then tyc133 else {}) else (bif Nat.beq t 134 then tyc134 else {}))))))) else (bif Nat.blt t 158 then (bif Nat.blt t 146 then (bif Nat.blt t 140 then (bif Nat.blt t 137 then (bif Nat.blt t 136 then (bif Nat.beq t 135 then tyc135 else {}) else (bif Nat.beq t 136 then tyc136 else {})) else (bif Nat.blt t 138 then (bif Nat.beq t 137 then tyc137 else {}) else (bif Nat.blt t 139 then (bif Nat.beq t 138 then tyc138 else {}) else (bif Nat.beq t 139 then tyc139 else {})))) else (bif Nat.blt t 143 then (bif Nat.blt t 141 then (bif Nat.beq t 140 then tyc140 else {}) else (bif Nat.blt t 142 then (bif Nat.beq t 141 then tyc141 else {}) else (bif Nat.beq t 142 then tyc142 else {}))) else (bif Nat.blt t 144 then (bif Nat.beq t 143 then tyc143 else {}) else (bif Nat.blt t 145 then (bif Nat.beq t 144 then tyc144 else {}) else (bif Nat.beq t 145 then tyc145 else {}))))) else (bif Nat.blt t 152 then (bif Nat.blt t 148 then (bif Nat.blt t 147 then (bif Nat.beq t 146 then tyc146 else {}) else (bif Nat.beq t 147 then tyc147 else {})) else (bif Nat.blt t 150 then (bif Nat.beq t 148 then tyc148 else {}) else (bif Nat.blt t 151 then (bif Nat.beq t 150 then tyc150 else {}) else (bif Nat.beq t 151 then tyc151 else {})))) else (bif Nat.blt t 155 then (bif Nat.blt t 153 then (bif Nat.beq t 152 then tyc152 else {}) else (bif Nat.blt t 154 then (bif Nat.beq t 153 then tyc153 else {}) else (bif Nat.beq t 154 then tyc154 else {}))) else (bif Nat.blt t 156 then (bif Nat.beq t 155 then tyc155 else {}) else (bif Nat.blt t 157 then (bif Nat.beq t 156 then tyc156 else {}) else (bif Nat.beq t 157 then tyc157 else {})))))) else (bif Nat.blt t 170 then (bif Nat.blt t 163 then (bif Nat.blt t 160 then (bif Nat.blt t 159 then (bif Nat.beq t 158 then tyc158 else {}) else (bif Nat.beq t 159 then tyc159 else {})) else (bif Nat.blt t 161 then (bif Nat.beq t 160 then tyc160 else {}) else (bif Nat.blt t 162 then (bif Nat.beq t 161 then tyc161 else {}) else (bif Nat.beq t 162 then tyc162 else {})))) else (bif Nat.blt t 167 then (bif Nat.blt t 165 then (bif Nat.beq t 163 then tyc163 else {}) else (bif Nat.blt t 166 then (bif Nat.beq t 165 then tyc165 else {}) else (bif Nat.beq t 166 then tyc166 else {}))) else (bif Nat.blt t 168 then (bif Nat.beq t 167 then tyc167 else {}) else (bif Nat.blt t 169 then (bif Nat.beq t 168 then tyc168 else {}) else (bif Nat.beq t 169 then tyc169 else {}))))) else (bif Nat.blt t 175 then (bif Nat.blt t 172 then (bif Nat.blt t 171 then (bif Nat.beq t 170 then tyc170 else {}) else (bif Nat.beq t 171 then tyc171 else {})) else (bif Nat.blt t 173 then (bif Nat.beq t 172 then tyc172 else {}) else (bif Nat.blt t 174 then (bif Nat.beq t 173 then tyc173 else {}) else (bif Nat.beq t 174 then tyc174 else {})))) else (bif Nat.blt t 178 then (bif Nat.blt t 176 then (bif Nat.beq t 175 then tyc175 else {}) else (bif Nat.blt t 177 then (bif Nat.beq t 176 then tyc176 else {}) else (bif Nat.beq t 177 then tyc177 else {}))) else (bif Nat.blt t 179 then (bif Nat.beq t 178 then tyc178 else {}) else (bif Nat.blt t 180 then (bif Nat.beq t 179 then tyc179 else {}) else (bif Nat.beq t 180 then tyc180 else {})))))))))
theorem tycs_ok (t : TypeId) : TyC.Ok Try.prog t (tycs t) := (okNode (okNode (okNode (okNode (okNode (okNode (okNode (okLeaf tyc1_ok) (okLeaf tyc2_ok)) (okNode (okLeaf tyc3_ok) (okNode (okLeaf tyc4_ok) (okLeaf tyc5_ok)))) (okNode (okNode (okLeaf tyc6_ok) (okLeaf tyc7_ok)) (okNode (okLeaf tyc8_ok) (okNode (okLeaf tyc9_ok) (okLeaf tyc10_ok))))) (okNode (okNode (okNode (okLeaf tyc11_ok) (okLeaf tyc12_ok)) (okNode (okLeaf tyc13_ok) (okNode (okLeaf tyc14_ok) (okLeaf tyc15_ok)))) (okNode (okNode (okLeaf tyc16_ok) (okNode (okLeaf tyc17_ok) (okLeaf tyc18_ok))) (okNode (okLeaf tyc19_ok) (okNode (okLeaf tyc20_ok) (okLeaf tyc21_ok)))))) (okNode (okNode (okNode (okNode (okLeaf tyc22_ok) (okLeaf tyc23_ok)) (okNode (okLeaf tyc24_ok) (okNode (okLeaf tyc25_ok) (okLeaf tyc26_ok)))) (okNode (okNode (okLeaf tyc27_ok) (okNode (okLeaf tyc28_ok) (okLeaf tyc29_ok))) (okNode (okLeaf tyc30_ok) (okNode (okLeaf tyc31_ok) (okLeaf tyc33_ok))))) (okNode (okNode (okNode (okLeaf tyc34_ok) (okLeaf tyc35_ok)) (okNode (okLeaf tyc36_ok) (okNode (okLeaf tyc37_ok) (okLeaf tyc38_ok)))) (okNode (okNode (okLeaf tyc39_ok) (okNode (okLeaf tyc40_ok) (okLeaf tyc41_ok))) (okNode (okLeaf tyc43_ok) (okNode (okLeaf tyc44_ok) (okLeaf tyc45_ok))))))) (okNode (okNode (okNode (okNode (okNode (okLeaf tyc46_ok) (okLeaf tyc47_ok)) (okNode (okLeaf tyc48_ok) (okNode (okLeaf tyc49_ok) (okLeaf tyc50_ok)))) (okNode (okNode (okLeaf tyc51_ok) (okNode (okLeaf tyc52_ok) (okLeaf tyc53_ok))) (okNode (okLeaf tyc54_ok) (okNode (okLeaf tyc55_ok) (okLeaf tyc56_ok))))) (okNode (okNode (okNode (okLeaf tyc57_ok) (okLeaf tyc58_ok)) (okNode (okLeaf tyc59_ok) (okNode (okLeaf tyc60_ok) (okLeaf tyc61_ok)))) (okNode (okNode (okLeaf tyc62_ok) (okNode (okLeaf tyc63_ok) (okLeaf tyc64_ok))) (okNode (okLeaf tyc65_ok) (okNode (okLeaf tyc66_ok) (okLeaf tyc67_ok)))))) (okNode (okNode (okNode (okNode (okLeaf tyc68_ok) (okLeaf tyc69_ok)) (okNode (okLeaf tyc70_ok) (okNode (okLeaf tyc71_ok) (okLeaf tyc72_ok)))) (okNode (okNode (okLeaf tyc73_ok) (okNode (okLeaf tyc74_ok) (okLeaf tyc75_ok))) (okNode (okLeaf tyc76_ok) (okNode (okLeaf tyc77_ok) (okLeaf tyc78_ok))))) (okNode (okNode (okNode (okLeaf tyc79_ok) (okLeaf tyc80_ok)) (okNode (okLeaf tyc81_ok) (okNode (okLeaf tyc82_ok) (okLeaf tyc83_ok)))) (okNode (okNode (okLeaf tyc84_ok) (okNode (okLeaf tyc85_ok) (okLeaf tyc86_ok))) (okNode (okLeaf tyc87_ok) (okNode (okLeaf tyc88_ok) (okLeaf tyc89_ok)))))))) (okNode (okNode (okNode (okNode (okNode (okNode (okLeaf tyc90_ok) (okLeaf tyc91_ok)) (okNode (okLeaf tyc92_ok) (okNode (okLeaf tyc93_ok) (okLeaf tyc94_ok)))) (okNode (okNode (okLeaf tyc95_ok) (okLeaf tyc96_ok)) (okNode (okLeaf tyc98_ok) (okNode (okLeaf tyc99_ok) (okLeaf tyc100_ok))))) (okNode (okNode (okNode (okLeaf tyc101_ok) (okLeaf tyc102_ok)) (okNode (okLeaf tyc103_ok) (okNode (okLeaf tyc104_ok) (okLeaf tyc105_ok)))) (okNode (okNode (okLeaf tyc106_ok) (okNode (okLeaf tyc107_ok) (okLeaf tyc108_ok))) (okNode (okLeaf tyc109_ok) (okNode (okLeaf tyc110_ok) (okLeaf tyc111_ok)))))) (okNode (okNode (okNode (okNode (okLeaf tyc112_ok) (okLeaf tyc113_ok)) (okNode (okLeaf tyc114_ok) (okNode (okLeaf tyc115_ok) (okLeaf tyc116_ok)))) (okNode (okNode (okLeaf tyc117_ok) (okNode (okLeaf tyc118_ok) (okLeaf tyc119_ok))) (okNode (okLeaf tyc120_ok) (okNode (okLeaf tyc121_ok) (okLeaf tyc122_ok))))) (okNode (okNode (okNode (okLeaf tyc123_ok) (okLeaf tyc124_ok)) (okNode (okLeaf tyc125_ok) (okNode (okLeaf tyc126_ok) (okLeaf tyc127_ok)))) (okNode (okNode (okLeaf tyc128_ok) (okNode (okLeaf tyc129_ok) (okLeaf tyc131_ok))) (okNode (okLeaf tyc132_ok) (okNode (okLeaf tyc133_ok) (okLeaf tyc134_ok))))))) (okNode (okNode (okNode (okNode (okNode (okLeaf tyc135_ok) (okLeaf tyc136_ok)) (okNode (okLeaf tyc137_ok) (okNode (okLeaf tyc138_ok) (okLeaf tyc139_ok)))) (okNode (okNode (okLeaf tyc140_ok) (okNode (okLeaf tyc141_ok) (okLeaf tyc142_ok))) (okNode (okLeaf tyc143_ok) (okNode (okLeaf tyc144_ok) (okLeaf tyc145_ok))))) (okNode (okNode (okNode (okLeaf tyc146_ok) (okLeaf tyc147_ok)) (okNode (okLeaf tyc148_ok) (okNode (okLeaf tyc150_ok) (okLeaf tyc151_ok)))) (okNode (okNode (okLeaf tyc152_ok) (okNode (okLeaf tyc153_ok) (okLeaf tyc154_ok))) (okNode (okLeaf tyc155_ok) (okNode (okLeaf tyc156_ok) (okLeaf tyc157_ok)))))) (okNode (okNode (okNode (okNode (okLeaf tyc158_ok) (okLeaf tyc159_ok)) (okNode (okLeaf tyc160_ok) (okNode (okLeaf tyc161_ok) (okLeaf tyc162_ok)))) (okNode (okNode (okLeaf tyc163_ok) (okNode (okLeaf tyc165_ok) (okLeaf tyc166_ok))) (okNode (okLeaf tyc167_ok) (okNode (okLeaf tyc168_ok) (okLeaf tyc169_ok))))) (okNode (okNode (okNode (okLeaf tyc170_ok) (okLeaf tyc171_ok)) (okNode (okLeaf tyc172_ok) (okNode (okLeaf tyc173_ok) (okLeaf tyc174_ok)))) (okNode (okNode (okLeaf tyc175_ok) (okNode (okLeaf tyc176_ok) (okLeaf tyc177_ok))) (okNode (okLeaf tyc178_ok) (okNode (okLeaf tyc179_ok) (okLeaf tyc180_ok)))))))))
instance : Tys Try.prog := ⟨tycs, tycs_ok⟩
instance : Mixed Try.prog := ⟨by kernel_rfl⟩
end Go.Abs


set_option linter.unusedVariables false
set_option linter.unusedSectionVars false
set_option linter.unusedSimpArgs false
namespace Go.Abs
open Go
structure Typ where
  width : Int
  signed : Bool
deriving DecidableEq
def Typ.z : Typ := ⟨0, false⟩
def Typ.e (x : Typ) : Nat → T
  | 0 => .int .i64 x.width
  | 1 => .bool x.signed
  | _ => .any
def Fn.z : Fn := ⟨ByteArray.empty, [], [], [], [], []⟩
@[reducible] def suD : Nat → Type
  | 0 => Inst
  | 1 => Edge
  | 2 => Term
  | 3 => Block
  | 4 => Arr
  | 5 => Strm
  | 6 => Fn
  | 7 => Typ
  | _ => Unit
def suZ : (i : Nat) → suD i
  | 0 => Inst.z
  | 1 => Edge.z
  | 2 => Term.z
  | 3 => Block.z
  | 4 => Arr.z
  | 5 => Strm.z
  | 6 => Fn.z
  | 7 => Typ.z
  | _ + 8 => ()
def suSz : Nat → Nat
  | 0 => 5
  | 1 => 2
  | 2 => 4
  | 3 => 9
  | 4 => 5
  | 5 => 3
  | 6 => 6
  | 7 => 2
  | _ => 0
def suEnc : (i : Nat) → suD i → Nat → T
  | 0, x => Inst.e x
  | 1, x => Edge.e x
  | 2, x => Term.e x
  | 3, x => Block.e x
  | 4, x => Arr.e x
  | 5, x => Strm.e x
  | 6, x => Fn.e x
  | 7, x => Typ.e x
  | _ + 8, _ => fun _ => .any
instance : SU := ⟨suD, suZ, suSz, suEnc⟩
def set0 : (τ : Ty) → EV → Option τ.D
  | .bool, .b y => some y
  | .int k, .i k' n => bif kindEq k k' then some n else none
  | .str, .s y => some y
  | .sl e, .fz e' l => castF List e' e l
  | .sl e, .nils => some []
  | _, _ => none
def cell0 : (τ : Ty) → τ.D → EV
  | .bool, x => .b x
  | .int k, x => .i k x
  | .str, x => .s x
  | .sl e, l => .fz e l
  | .st i, x => .un
  | .ol _ _, x => .un
theorem set0_ok {τ : Ty} {v : EV} {y : τ.D} (h : set0 τ v = some y) : ∀ len, Wk (toV len v) (toV len (cell0 τ y)) := fun len => by
  cases τ with
  | bool => cases v <;> simp only [set0] at h <;> first | (cases h; done) | (injection h with h; subst h; exact Wk.refl _)
  | int k =>
    cases v <;> simp only [set0] at h <;> try (cases h; done)
    rename_i k' n
    cases hk : kindEq k k' with
    | false => rw [hk] at h; cases h
    | true =>
      have := kindEq_eq hk
      subst this
      rw [hk] at h
      simp only [cond_true] at h
      injection h with h; subst h; exact Wk.refl _
  | str => cases v <;> simp only [set0] at h <;> first | (cases h; done) | (injection h with h; subst h; exact Wk.refl _)
  | st i => simp only [cell0, toV]; exact Wk.un _
  | ol _ _ => simp only [cell0, toV]; exact Wk.un _
  | sl e =>
    cases v <;> simp only [set0] at h <;> try (cases h; done)
    · obtain ⟨rfl, h⟩ := castL_ok h
      obtain rfl := eq_of_heq h
      exact Wk.refl _
    · injection h with h; subst h
      simp only [cell0, toV, encL]
      exact Wk.nils _ _
def Inst.c (x : Inst) : Nat → EV
  | 0 => .i .i64 (x.op)
  | 1 => .i .i64 (x.dest)
  | 2 => .fz (.int .i64) (x.args)
  | 3 => .i .u64 (x.num)
  | 4 => .i .i64 (x.mem)
  | _ => .un
def Inst.s (x : Inst) (j : Nat) (v : EV) : Option Inst := match j with
  | 0 => match set0 (.int .i64) v with
    | some y => some { x with op := y }
    | none => none
  | 1 => match set0 (.int .i64) v with
    | some y => some { x with dest := y }
    | none => none
  | 2 => match set0 (.sl (.int .i64)) v with
    | some y => some { x with args := y }
    | none => none
  | 3 => match set0 (.int .u64) v with
    | some y => some { x with num := y }
    | none => none
  | 4 => match set0 (.int .i64) v with
    | some y => some { x with mem := y }
    | none => none
  | _ => none
def Inst.m : List EV → Option Inst
  | [a0, a1, a2, a3, a4] => match set0 (.int .i64) a0, set0 (.int .i64) a1, set0 (.sl (.int .i64)) a2, set0 (.int .u64) a3, set0 (.int .i64) a4 with
    | some y0, some y1, some y2, some y3, some y4 => some ⟨y0, y1, y2, y3, y4⟩
    | _, _, _, _, _ => none
  | _ => none
theorem Inst.c_ok (x : Inst) (len : Len) : ∀ j, j < 5 → toV len (Inst.c x j) = .t (Inst.e x j)
  | 0, _ => by simp only [Inst.c, toV]; rfl
  | 1, _ => by simp only [Inst.c, toV]; rfl
  | 2, _ => by simp only [Inst.c, toV]; rfl
  | 3, _ => by simp only [Inst.c, toV]; rfl
  | 4, _ => by simp only [Inst.c, toV]; rfl
  | n + 5, h => absurd h (by omega)
theorem Inst.c_dat (x : Inst) : ∀ j, (Inst.c x j).dat = true
  | 0 => rfl
  | 1 => rfl
  | 2 => rfl
  | 3 => rfl
  | 4 => rfl
  | n + 5 => rfl
theorem Inst.s_ok (x : Inst) (j : Nat) (v : EV) (y : Inst) (h : Inst.s x j v = some y) : (∀ len, Wk (toV len v) (toV len (Inst.c y j))) ∧ ∀ j', j' ≠ j → Inst.c y j' = Inst.c x j' := by
  match j with
  | 0 =>
    simp only [Inst.s] at h
    split at h
    · rename_i a ha
      injection h with h
      subst h
      refine ⟨set0_ok ha, fun j' hj => ?_⟩
      match j', hj with
      | 0, hj => exact absurd rfl hj
      | 1, hj => exact rfl
      | 2, hj => exact rfl
      | 3, hj => exact rfl
      | 4, hj => exact rfl
      | n + 5, _ => rfl
    · cases h
  | 1 =>
    simp only [Inst.s] at h
    split at h
    · rename_i a ha
      injection h with h
      subst h
      refine ⟨set0_ok ha, fun j' hj => ?_⟩
      match j', hj with
      | 0, hj => exact rfl
      | 1, hj => exact absurd rfl hj
      | 2, hj => exact rfl
      | 3, hj => exact rfl
      | 4, hj => exact rfl
      | n + 5, _ => rfl
    · cases h
  | 2 =>
    simp only [Inst.s] at h
    split at h
    · rename_i a ha
      injection h with h
      subst h
      refine ⟨set0_ok ha, fun j' hj => ?_⟩
      match j', hj with
      | 0, hj => exact rfl
      | 1, hj => exact rfl
      | 2, hj => exact absurd rfl hj
      | 3, hj => exact rfl
      | 4, hj => exact rfl
      | n + 5, _ => rfl
    · cases h
  | 3 =>
    simp only [Inst.s] at h
    split at h
    · rename_i a ha
      injection h with h
      subst h
      refine ⟨set0_ok ha, fun j' hj => ?_⟩
      match j', hj with
      | 0, hj => exact rfl
      | 1, hj => exact rfl
      | 2, hj => exact rfl
      | 3, hj => exact absurd rfl hj
      | 4, hj => exact rfl
      | n + 5, _ => rfl
    · cases h
  | 4 =>
    simp only [Inst.s] at h
    split at h
    · rename_i a ha
      injection h with h
      subst h
      refine ⟨set0_ok ha, fun j' hj => ?_⟩
      match j', hj with
      | 0, hj => exact rfl
      | 1, hj => exact rfl
      | 2, hj => exact rfl
      | 3, hj => exact rfl
      | 4, hj => exact absurd rfl hj
      | n + 5, _ => rfl
    · cases h
  | n + 5 => simp [Inst.s] at h
theorem Inst.m_ok (l : List EV) (y : Inst) (h : Inst.m l = some y) : l.length = 5 ∧ ∀ j, j < 5 → ∀ len, Wk (toVs len l j) (toV len (Inst.c y j)) := by
  unfold Inst.m at h
  split at h
  · split at h
    · rename_i h0 h1 h2 h3 h4
      injection h with h
      subst h
      refine ⟨rfl, fun j hj len => ?_⟩
      match j, hj with
      | 0, _ => simp only [toVs]; exact set0_ok h0 len
      | 1, _ => simp only [toVs]; exact set0_ok h1 len
      | 2, _ => simp only [toVs]; exact set0_ok h2 len
      | 3, _ => simp only [toVs]; exact set0_ok h3 len
      | 4, _ => simp only [toVs]; exact set0_ok h4 len
      | n + 5, h => exact absurd h (by omega)
    · cases h
  · cases h
def Edge.c (x : Edge) : Nat → EV
  | 0 => .i .i64 (x.block)
  | 1 => .fz (.int .i64) (x.args)
  | _ => .un
def Edge.s (x : Edge) (j : Nat) (v : EV) : Option Edge := match j with
  | 0 => match set0 (.int .i64) v with
    | some y => some { x with block := y }
    | none => none
  | 1 => match set0 (.sl (.int .i64)) v with
    | some y => some { x with args := y }
    | none => none
  | _ => none
def Edge.m : List EV → Option Edge
  | [a0, a1] => match set0 (.int .i64) a0, set0 (.sl (.int .i64)) a1 with
    | some y0, some y1 => some ⟨y0, y1⟩
    | _, _ => none
  | _ => none
theorem Edge.c_ok (x : Edge) (len : Len) : ∀ j, j < 2 → toV len (Edge.c x j) = .t (Edge.e x j)
  | 0, _ => by simp only [Edge.c, toV]; rfl
  | 1, _ => by simp only [Edge.c, toV]; rfl
  | n + 2, h => absurd h (by omega)
theorem Edge.c_dat (x : Edge) : ∀ j, (Edge.c x j).dat = true
  | 0 => rfl
  | 1 => rfl
  | n + 2 => rfl
theorem Edge.s_ok (x : Edge) (j : Nat) (v : EV) (y : Edge) (h : Edge.s x j v = some y) : (∀ len, Wk (toV len v) (toV len (Edge.c y j))) ∧ ∀ j', j' ≠ j → Edge.c y j' = Edge.c x j' := by
  match j with
  | 0 =>
    simp only [Edge.s] at h
    split at h
    · rename_i a ha
      injection h with h
      subst h
      refine ⟨set0_ok ha, fun j' hj => ?_⟩
      match j', hj with
      | 0, hj => exact absurd rfl hj
      | 1, hj => exact rfl
      | n + 2, _ => rfl
    · cases h
  | 1 =>
    simp only [Edge.s] at h
    split at h
    · rename_i a ha
      injection h with h
      subst h
      refine ⟨set0_ok ha, fun j' hj => ?_⟩
      match j', hj with
      | 0, hj => exact rfl
      | 1, hj => exact absurd rfl hj
      | n + 2, _ => rfl
    · cases h
  | n + 2 => simp [Edge.s] at h
theorem Edge.m_ok (l : List EV) (y : Edge) (h : Edge.m l = some y) : l.length = 2 ∧ ∀ j, j < 2 → ∀ len, Wk (toVs len l j) (toV len (Edge.c y j)) := by
  unfold Edge.m at h
  split at h
  · split at h
    · rename_i h0 h1
      injection h with h
      subst h
      refine ⟨rfl, fun j hj len => ?_⟩
      match j, hj with
      | 0, _ => simp only [toVs]; exact set0_ok h0 len
      | 1, _ => simp only [toVs]; exact set0_ok h1 len
      | n + 2, h => exact absurd h (by omega)
    · cases h
  · cases h
def Term.c (x : Term) : Nat → EV
  | 0 => .i .i64 (x.kind)
  | 1 => .i .i64 (x.cond)
  | 2 => .fz (.st 1) (x.to)
  | 3 => .fz (.int .i64) (x.rets)
  | _ => .un
def Term.s (x : Term) (j : Nat) (v : EV) : Option Term := match j with
  | 0 => match set0 (.int .i64) v with
    | some y => some { x with kind := y }
    | none => none
  | 1 => match set0 (.int .i64) v with
    | some y => some { x with cond := y }
    | none => none
  | 2 => match set0 (.sl (.st 1)) v with
    | some y => some { x with to := y }
    | none => none
  | 3 => match set0 (.sl (.int .i64)) v with
    | some y => some { x with rets := y }
    | none => none
  | _ => none
def Term.m : List EV → Option Term
  | [a0, a1, a2, a3] => match set0 (.int .i64) a0, set0 (.int .i64) a1, set0 (.sl (.st 1)) a2, set0 (.sl (.int .i64)) a3 with
    | some y0, some y1, some y2, some y3 => some ⟨y0, y1, y2, y3⟩
    | _, _, _, _ => none
  | _ => none
theorem Term.c_ok (x : Term) (len : Len) : ∀ j, j < 4 → toV len (Term.c x j) = .t (Term.e x j)
  | 0, _ => by simp only [Term.c, toV]; rfl
  | 1, _ => by simp only [Term.c, toV]; rfl
  | 2, _ => by simp only [Term.c, toV]; rfl
  | 3, _ => by simp only [Term.c, toV]; rfl
  | n + 4, h => absurd h (by omega)
theorem Term.c_dat (x : Term) : ∀ j, (Term.c x j).dat = true
  | 0 => rfl
  | 1 => rfl
  | 2 => rfl
  | 3 => rfl
  | n + 4 => rfl
theorem Term.s_ok (x : Term) (j : Nat) (v : EV) (y : Term) (h : Term.s x j v = some y) : (∀ len, Wk (toV len v) (toV len (Term.c y j))) ∧ ∀ j', j' ≠ j → Term.c y j' = Term.c x j' := by
  match j with
  | 0 =>
    simp only [Term.s] at h
    split at h
    · rename_i a ha
      injection h with h
      subst h
      refine ⟨set0_ok ha, fun j' hj => ?_⟩
      match j', hj with
      | 0, hj => exact absurd rfl hj
      | 1, hj => exact rfl
      | 2, hj => exact rfl
      | 3, hj => exact rfl
      | n + 4, _ => rfl
    · cases h
  | 1 =>
    simp only [Term.s] at h
    split at h
    · rename_i a ha
      injection h with h
      subst h
      refine ⟨set0_ok ha, fun j' hj => ?_⟩
      match j', hj with
      | 0, hj => exact rfl
      | 1, hj => exact absurd rfl hj
      | 2, hj => exact rfl
      | 3, hj => exact rfl
      | n + 4, _ => rfl
    · cases h
  | 2 =>
    simp only [Term.s] at h
    split at h
    · rename_i a ha
      injection h with h
      subst h
      refine ⟨set0_ok ha, fun j' hj => ?_⟩
      match j', hj with
      | 0, hj => exact rfl
      | 1, hj => exact rfl
      | 2, hj => exact absurd rfl hj
      | 3, hj => exact rfl
      | n + 4, _ => rfl
    · cases h
  | 3 =>
    simp only [Term.s] at h
    split at h
    · rename_i a ha
      injection h with h
      subst h
      refine ⟨set0_ok ha, fun j' hj => ?_⟩
      match j', hj with
      | 0, hj => exact rfl
      | 1, hj => exact rfl
      | 2, hj => exact rfl
      | 3, hj => exact absurd rfl hj
      | n + 4, _ => rfl
    · cases h
  | n + 4 => simp [Term.s] at h
theorem Term.m_ok (l : List EV) (y : Term) (h : Term.m l = some y) : l.length = 4 ∧ ∀ j, j < 4 → ∀ len, Wk (toVs len l j) (toV len (Term.c y j)) := by
  unfold Term.m at h
  split at h
  · split at h
    · rename_i h0 h1 h2 h3
      injection h with h
      subst h
      refine ⟨rfl, fun j hj len => ?_⟩
      match j, hj with
      | 0, _ => simp only [toVs]; exact set0_ok h0 len
      | 1, _ => simp only [toVs]; exact set0_ok h1 len
      | 2, _ => simp only [toVs]; exact set0_ok h2 len
      | 3, _ => simp only [toVs]; exact set0_ok h3 len
      | n + 4, h => exact absurd h (by omega)
    · cases h
  · cases h
def Block.c (x : Block) : Nat → EV
  | 0 => .fz (.int .i64) (x.params)
  | 1 => .fz (.st 0) (x.insts)
  | 2 => .i .i64 (x.term.kind)
  | 3 => .i .i64 (x.term.cond)
  | 4 => .fz (.st 1) (x.term.to)
  | 5 => .fz (.int .i64) (x.term.rets)
  | 6 => .i .i64 (x.pipeline)
  | 7 => .i .i64 (x.unroll)
  | 8 => .i .i64 (x.line)
  | _ => .un
def Block.s (x : Block) (j : Nat) (v : EV) : Option Block := match j with
  | 0 => match set0 (.sl (.int .i64)) v with
    | some y => some { x with params := y }
    | none => none
  | 1 => match set0 (.sl (.st 0)) v with
    | some y => some { x with insts := y }
    | none => none
  | 2 => match set0 (.int .i64) v with
    | some y => some { x with term := { x.term with kind := y } }
    | none => none
  | 3 => match set0 (.int .i64) v with
    | some y => some { x with term := { x.term with cond := y } }
    | none => none
  | 4 => match set0 (.sl (.st 1)) v with
    | some y => some { x with term := { x.term with to := y } }
    | none => none
  | 5 => match set0 (.sl (.int .i64)) v with
    | some y => some { x with term := { x.term with rets := y } }
    | none => none
  | 6 => match set0 (.int .i64) v with
    | some y => some { x with pipeline := y }
    | none => none
  | 7 => match set0 (.int .i64) v with
    | some y => some { x with unroll := y }
    | none => none
  | 8 => match set0 (.int .i64) v with
    | some y => some { x with line := y }
    | none => none
  | _ => none
def Block.m : List EV → Option Block
  | [a0, a1, a2, a3, a4, a5, a6, a7, a8] => match set0 (.sl (.int .i64)) a0, set0 (.sl (.st 0)) a1, set0 (.int .i64) a2, set0 (.int .i64) a3, set0 (.sl (.st 1)) a4, set0 (.sl (.int .i64)) a5, set0 (.int .i64) a6, set0 (.int .i64) a7, set0 (.int .i64) a8 with
    | some y0, some y1, some y2, some y3, some y4, some y5, some y6, some y7, some y8 => some ⟨y0, y1, ⟨y2, y3, y4, y5⟩, y6, y7, y8⟩
    | _, _, _, _, _, _, _, _, _ => none
  | _ => none
theorem Block.c_ok (x : Block) (len : Len) : ∀ j, j < 9 → toV len (Block.c x j) = .t (Block.e x j)
  | 0, _ => by simp only [Block.c, toV]; rfl
  | 1, _ => by simp only [Block.c, toV]; rfl
  | 2, _ => by simp only [Block.c, toV]; rfl
  | 3, _ => by simp only [Block.c, toV]; rfl
  | 4, _ => by simp only [Block.c, toV]; rfl
  | 5, _ => by simp only [Block.c, toV]; rfl
  | 6, _ => by simp only [Block.c, toV]; rfl
  | 7, _ => by simp only [Block.c, toV]; rfl
  | 8, _ => by simp only [Block.c, toV]; rfl
  | n + 9, h => absurd h (by omega)
theorem Block.c_dat (x : Block) : ∀ j, (Block.c x j).dat = true
  | 0 => rfl
  | 1 => rfl
  | 2 => rfl
  | 3 => rfl
  | 4 => rfl
  | 5 => rfl
  | 6 => rfl
  | 7 => rfl
  | 8 => rfl
  | n + 9 => rfl
theorem Block.s_ok (x : Block) (j : Nat) (v : EV) (y : Block) (h : Block.s x j v = some y) : (∀ len, Wk (toV len v) (toV len (Block.c y j))) ∧ ∀ j', j' ≠ j → Block.c y j' = Block.c x j' := by
  match j with
  | 0 =>
    simp only [Block.s] at h
    split at h
    · rename_i a ha
      injection h with h
      subst h
      refine ⟨set0_ok ha, fun j' hj => ?_⟩
      match j', hj with
      | 0, hj => exact absurd rfl hj
      | 1, hj => exact rfl
      | 2, hj => exact rfl
      | 3, hj => exact rfl
      | 4, hj => exact rfl
      | 5, hj => exact rfl
      | 6, hj => exact rfl
      | 7, hj => exact rfl
      | 8, hj => exact rfl
      | n + 9, _ => rfl
    · cases h
  | 1 =>
    simp only [Block.s] at h
    split at h
    · rename_i a ha
      injection h with h
      subst h
      refine ⟨set0_ok ha, fun j' hj => ?_⟩
      match j', hj with
      | 0, hj => exact rfl
      | 1, hj => exact absurd rfl hj
      | 2, hj => exact rfl
      | 3, hj => exact rfl
      | 4, hj => exact rfl
      | 5, hj => exact rfl
      | 6, hj => exact rfl
      | 7, hj => exact rfl
      | 8, hj => exact rfl
      | n + 9, _ => rfl
    · cases h
  | 2 =>
    simp only [Block.s] at h
    split at h
    · rename_i a ha
      injection h with h
      subst h
      refine ⟨set0_ok ha, fun j' hj => ?_⟩
      match j', hj with
      | 0, hj => exact rfl
      | 1, hj => exact rfl
      | 2, hj => exact absurd rfl hj
      | 3, hj => exact rfl
      | 4, hj => exact rfl
      | 5, hj => exact rfl
      | 6, hj => exact rfl
      | 7, hj => exact rfl
      | 8, hj => exact rfl
      | n + 9, _ => rfl
    · cases h
  | 3 =>
    simp only [Block.s] at h
    split at h
    · rename_i a ha
      injection h with h
      subst h
      refine ⟨set0_ok ha, fun j' hj => ?_⟩
      match j', hj with
      | 0, hj => exact rfl
      | 1, hj => exact rfl
      | 2, hj => exact rfl
      | 3, hj => exact absurd rfl hj
      | 4, hj => exact rfl
      | 5, hj => exact rfl
      | 6, hj => exact rfl
      | 7, hj => exact rfl
      | 8, hj => exact rfl
      | n + 9, _ => rfl
    · cases h
  | 4 =>
    simp only [Block.s] at h
    split at h
    · rename_i a ha
      injection h with h
      subst h
      refine ⟨set0_ok ha, fun j' hj => ?_⟩
      match j', hj with
      | 0, hj => exact rfl
      | 1, hj => exact rfl
      | 2, hj => exact rfl
      | 3, hj => exact rfl
      | 4, hj => exact absurd rfl hj
      | 5, hj => exact rfl
      | 6, hj => exact rfl
      | 7, hj => exact rfl
      | 8, hj => exact rfl
      | n + 9, _ => rfl
    · cases h
  | 5 =>
    simp only [Block.s] at h
    split at h
    · rename_i a ha
      injection h with h
      subst h
      refine ⟨set0_ok ha, fun j' hj => ?_⟩
      match j', hj with
      | 0, hj => exact rfl
      | 1, hj => exact rfl
      | 2, hj => exact rfl
      | 3, hj => exact rfl
      | 4, hj => exact rfl
      | 5, hj => exact absurd rfl hj
      | 6, hj => exact rfl
      | 7, hj => exact rfl
      | 8, hj => exact rfl
      | n + 9, _ => rfl
    · cases h
  | 6 =>
    simp only [Block.s] at h
    split at h
    · rename_i a ha
      injection h with h
      subst h
      refine ⟨set0_ok ha, fun j' hj => ?_⟩
      match j', hj with
      | 0, hj => exact rfl
      | 1, hj => exact rfl
      | 2, hj => exact rfl
      | 3, hj => exact rfl
      | 4, hj => exact rfl
      | 5, hj => exact rfl
      | 6, hj => exact absurd rfl hj
      | 7, hj => exact rfl
      | 8, hj => exact rfl
      | n + 9, _ => rfl
    · cases h
  | 7 =>
    simp only [Block.s] at h
    split at h
    · rename_i a ha
      injection h with h
      subst h
      refine ⟨set0_ok ha, fun j' hj => ?_⟩
      match j', hj with
      | 0, hj => exact rfl
      | 1, hj => exact rfl
      | 2, hj => exact rfl
      | 3, hj => exact rfl
      | 4, hj => exact rfl
      | 5, hj => exact rfl
      | 6, hj => exact rfl
      | 7, hj => exact absurd rfl hj
      | 8, hj => exact rfl
      | n + 9, _ => rfl
    · cases h
  | 8 =>
    simp only [Block.s] at h
    split at h
    · rename_i a ha
      injection h with h
      subst h
      refine ⟨set0_ok ha, fun j' hj => ?_⟩
      match j', hj with
      | 0, hj => exact rfl
      | 1, hj => exact rfl
      | 2, hj => exact rfl
      | 3, hj => exact rfl
      | 4, hj => exact rfl
      | 5, hj => exact rfl
      | 6, hj => exact rfl
      | 7, hj => exact rfl
      | 8, hj => exact absurd rfl hj
      | n + 9, _ => rfl
    · cases h
  | n + 9 => simp [Block.s] at h
theorem Block.m_ok (l : List EV) (y : Block) (h : Block.m l = some y) : l.length = 9 ∧ ∀ j, j < 9 → ∀ len, Wk (toVs len l j) (toV len (Block.c y j)) := by
  unfold Block.m at h
  split at h
  · split at h
    · rename_i h0 h1 h2 h3 h4 h5 h6 h7 h8
      injection h with h
      subst h
      refine ⟨rfl, fun j hj len => ?_⟩
      match j, hj with
      | 0, _ => simp only [toVs]; exact set0_ok h0 len
      | 1, _ => simp only [toVs]; exact set0_ok h1 len
      | 2, _ => simp only [toVs]; exact set0_ok h2 len
      | 3, _ => simp only [toVs]; exact set0_ok h3 len
      | 4, _ => simp only [toVs]; exact set0_ok h4 len
      | 5, _ => simp only [toVs]; exact set0_ok h5 len
      | 6, _ => simp only [toVs]; exact set0_ok h6 len
      | 7, _ => simp only [toVs]; exact set0_ok h7 len
      | 8, _ => simp only [toVs]; exact set0_ok h8 len
      | n + 9, h => exact absurd h (by omega)
    · cases h
  · cases h
def Arr.c (x : Arr) : Nat → EV
  | 0 => .s (x.name)
  | 1 => .i .i64 (x.width)
  | 2 => .i .i64 (x.len)
  | 3 => .i .i64 (x.kind)
  | 4 => .i .i64 (x.factor)
  | _ => .un
def Arr.s (x : Arr) (j : Nat) (v : EV) : Option Arr := match j with
  | 0 => match set0 (.str) v with
    | some y => some { x with name := y }
    | none => none
  | 1 => match set0 (.int .i64) v with
    | some y => some { x with width := y }
    | none => none
  | 2 => match set0 (.int .i64) v with
    | some y => some { x with len := y }
    | none => none
  | 3 => match set0 (.int .i64) v with
    | some y => some { x with kind := y }
    | none => none
  | 4 => match set0 (.int .i64) v with
    | some y => some { x with factor := y }
    | none => none
  | _ => none
def Arr.m : List EV → Option Arr
  | [a0, a1, a2, a3, a4] => match set0 (.str) a0, set0 (.int .i64) a1, set0 (.int .i64) a2, set0 (.int .i64) a3, set0 (.int .i64) a4 with
    | some y0, some y1, some y2, some y3, some y4 => some ⟨y0, y1, y2, y3, y4⟩
    | _, _, _, _, _ => none
  | _ => none
theorem Arr.c_ok (x : Arr) (len : Len) : ∀ j, j < 5 → toV len (Arr.c x j) = .t (Arr.e x j)
  | 0, _ => by simp only [Arr.c, toV]; rfl
  | 1, _ => by simp only [Arr.c, toV]; rfl
  | 2, _ => by simp only [Arr.c, toV]; rfl
  | 3, _ => by simp only [Arr.c, toV]; rfl
  | 4, _ => by simp only [Arr.c, toV]; rfl
  | n + 5, h => absurd h (by omega)
theorem Arr.c_dat (x : Arr) : ∀ j, (Arr.c x j).dat = true
  | 0 => rfl
  | 1 => rfl
  | 2 => rfl
  | 3 => rfl
  | 4 => rfl
  | n + 5 => rfl
theorem Arr.s_ok (x : Arr) (j : Nat) (v : EV) (y : Arr) (h : Arr.s x j v = some y) : (∀ len, Wk (toV len v) (toV len (Arr.c y j))) ∧ ∀ j', j' ≠ j → Arr.c y j' = Arr.c x j' := by
  match j with
  | 0 =>
    simp only [Arr.s] at h
    split at h
    · rename_i a ha
      injection h with h
      subst h
      refine ⟨set0_ok ha, fun j' hj => ?_⟩
      match j', hj with
      | 0, hj => exact absurd rfl hj
      | 1, hj => exact rfl
      | 2, hj => exact rfl
      | 3, hj => exact rfl
      | 4, hj => exact rfl
      | n + 5, _ => rfl
    · cases h
  | 1 =>
    simp only [Arr.s] at h
    split at h
    · rename_i a ha
      injection h with h
      subst h
      refine ⟨set0_ok ha, fun j' hj => ?_⟩
      match j', hj with
      | 0, hj => exact rfl
      | 1, hj => exact absurd rfl hj
      | 2, hj => exact rfl
      | 3, hj => exact rfl
      | 4, hj => exact rfl
      | n + 5, _ => rfl
    · cases h
  | 2 =>
    simp only [Arr.s] at h
    split at h
    · rename_i a ha
      injection h with h
      subst h
      refine ⟨set0_ok ha, fun j' hj => ?_⟩
      match j', hj with
      | 0, hj => exact rfl
      | 1, hj => exact rfl
      | 2, hj => exact absurd rfl hj
      | 3, hj => exact rfl
      | 4, hj => exact rfl
      | n + 5, _ => rfl
    · cases h
  | 3 =>
    simp only [Arr.s] at h
    split at h
    · rename_i a ha
      injection h with h
      subst h
      refine ⟨set0_ok ha, fun j' hj => ?_⟩
      match j', hj with
      | 0, hj => exact rfl
      | 1, hj => exact rfl
      | 2, hj => exact rfl
      | 3, hj => exact absurd rfl hj
      | 4, hj => exact rfl
      | n + 5, _ => rfl
    · cases h
  | 4 =>
    simp only [Arr.s] at h
    split at h
    · rename_i a ha
      injection h with h
      subst h
      refine ⟨set0_ok ha, fun j' hj => ?_⟩
      match j', hj with
      | 0, hj => exact rfl
      | 1, hj => exact rfl
      | 2, hj => exact rfl
      | 3, hj => exact rfl
      | 4, hj => exact absurd rfl hj
      | n + 5, _ => rfl
    · cases h
  | n + 5 => simp [Arr.s] at h
theorem Arr.m_ok (l : List EV) (y : Arr) (h : Arr.m l = some y) : l.length = 5 ∧ ∀ j, j < 5 → ∀ len, Wk (toVs len l j) (toV len (Arr.c y j)) := by
  unfold Arr.m at h
  split at h
  · split at h
    · rename_i h0 h1 h2 h3 h4
      injection h with h
      subst h
      refine ⟨rfl, fun j hj len => ?_⟩
      match j, hj with
      | 0, _ => simp only [toVs]; exact set0_ok h0 len
      | 1, _ => simp only [toVs]; exact set0_ok h1 len
      | 2, _ => simp only [toVs]; exact set0_ok h2 len
      | 3, _ => simp only [toVs]; exact set0_ok h3 len
      | 4, _ => simp only [toVs]; exact set0_ok h4 len
      | n + 5, h => exact absurd h (by omega)
    · cases h
  · cases h
def Strm.c (x : Strm) : Nat → EV
  | 0 => .s (x.name)
  | 1 => .i .i64 (x.width)
  | 2 => .b (x.out)
  | _ => .un
def Strm.s (x : Strm) (j : Nat) (v : EV) : Option Strm := match j with
  | 0 => match set0 (.str) v with
    | some y => some { x with name := y }
    | none => none
  | 1 => match set0 (.int .i64) v with
    | some y => some { x with width := y }
    | none => none
  | 2 => match set0 (.bool) v with
    | some y => some { x with out := y }
    | none => none
  | _ => none
def Strm.m : List EV → Option Strm
  | [a0, a1, a2] => match set0 (.str) a0, set0 (.int .i64) a1, set0 (.bool) a2 with
    | some y0, some y1, some y2 => some ⟨y0, y1, y2⟩
    | _, _, _ => none
  | _ => none
theorem Strm.c_ok (x : Strm) (len : Len) : ∀ j, j < 3 → toV len (Strm.c x j) = .t (Strm.e x j)
  | 0, _ => by simp only [Strm.c, toV]; rfl
  | 1, _ => by simp only [Strm.c, toV]; rfl
  | 2, _ => by simp only [Strm.c, toV]; rfl
  | n + 3, h => absurd h (by omega)
theorem Strm.c_dat (x : Strm) : ∀ j, (Strm.c x j).dat = true
  | 0 => rfl
  | 1 => rfl
  | 2 => rfl
  | n + 3 => rfl
theorem Strm.s_ok (x : Strm) (j : Nat) (v : EV) (y : Strm) (h : Strm.s x j v = some y) : (∀ len, Wk (toV len v) (toV len (Strm.c y j))) ∧ ∀ j', j' ≠ j → Strm.c y j' = Strm.c x j' := by
  match j with
  | 0 =>
    simp only [Strm.s] at h
    split at h
    · rename_i a ha
      injection h with h
      subst h
      refine ⟨set0_ok ha, fun j' hj => ?_⟩
      match j', hj with
      | 0, hj => exact absurd rfl hj
      | 1, hj => exact rfl
      | 2, hj => exact rfl
      | n + 3, _ => rfl
    · cases h
  | 1 =>
    simp only [Strm.s] at h
    split at h
    · rename_i a ha
      injection h with h
      subst h
      refine ⟨set0_ok ha, fun j' hj => ?_⟩
      match j', hj with
      | 0, hj => exact rfl
      | 1, hj => exact absurd rfl hj
      | 2, hj => exact rfl
      | n + 3, _ => rfl
    · cases h
  | 2 =>
    simp only [Strm.s] at h
    split at h
    · rename_i a ha
      injection h with h
      subst h
      refine ⟨set0_ok ha, fun j' hj => ?_⟩
      match j', hj with
      | 0, hj => exact rfl
      | 1, hj => exact rfl
      | 2, hj => exact absurd rfl hj
      | n + 3, _ => rfl
    · cases h
  | n + 3 => simp [Strm.s] at h
theorem Strm.m_ok (l : List EV) (y : Strm) (h : Strm.m l = some y) : l.length = 3 ∧ ∀ j, j < 3 → ∀ len, Wk (toVs len l j) (toV len (Strm.c y j)) := by
  unfold Strm.m at h
  split at h
  · split at h
    · rename_i h0 h1 h2
      injection h with h
      subst h
      refine ⟨rfl, fun j hj len => ?_⟩
      match j, hj with
      | 0, _ => simp only [toVs]; exact set0_ok h0 len
      | 1, _ => simp only [toVs]; exact set0_ok h1 len
      | 2, _ => simp only [toVs]; exact set0_ok h2 len
      | n + 3, h => exact absurd h (by omega)
    · cases h
  · cases h
def Fn.c (x : Fn) : Nat → EV
  | 0 => .s (x.name)
  | 1 => .fz (.int .i64) (x.widths)
  | 2 => .fz (.st 4) (x.arrays)
  | 3 => .fz (.st 5) (x.streams)
  | 4 => .fz (.int .i64) (x.rets)
  | 5 => .fz (.st 3) (x.blocks)
  | _ => .un
def Fn.s (x : Fn) (j : Nat) (v : EV) : Option Fn := match j with
  | 0 => match set0 (.str) v with
    | some y => some { x with name := y }
    | none => none
  | 1 => match set0 (.sl (.int .i64)) v with
    | some y => some { x with widths := y }
    | none => none
  | 2 => match set0 (.sl (.st 4)) v with
    | some y => some { x with arrays := y }
    | none => none
  | 3 => match set0 (.sl (.st 5)) v with
    | some y => some { x with streams := y }
    | none => none
  | 4 => match set0 (.sl (.int .i64)) v with
    | some y => some { x with rets := y }
    | none => none
  | 5 => match set0 (.sl (.st 3)) v with
    | some y => some { x with blocks := y }
    | none => none
  | _ => none
def Fn.m : List EV → Option Fn
  | [a0, a1, a2, a3, a4, a5] => match set0 (.str) a0, set0 (.sl (.int .i64)) a1, set0 (.sl (.st 4)) a2, set0 (.sl (.st 5)) a3, set0 (.sl (.int .i64)) a4, set0 (.sl (.st 3)) a5 with
    | some y0, some y1, some y2, some y3, some y4, some y5 => some ⟨y0, y1, y2, y3, y4, y5⟩
    | _, _, _, _, _, _ => none
  | _ => none
theorem Fn.c_ok (x : Fn) (len : Len) : ∀ j, j < 6 → toV len (Fn.c x j) = .t (Fn.e x j)
  | 0, _ => by simp only [Fn.c, toV]; rfl
  | 1, _ => by simp only [Fn.c, toV]; rfl
  | 2, _ => by simp only [Fn.c, toV]; rfl
  | 3, _ => by simp only [Fn.c, toV]; rfl
  | 4, _ => by simp only [Fn.c, toV]; rfl
  | 5, _ => by simp only [Fn.c, toV]; rfl
  | n + 6, h => absurd h (by omega)
theorem Fn.c_dat (x : Fn) : ∀ j, (Fn.c x j).dat = true
  | 0 => rfl
  | 1 => rfl
  | 2 => rfl
  | 3 => rfl
  | 4 => rfl
  | 5 => rfl
  | n + 6 => rfl
theorem Fn.s_ok (x : Fn) (j : Nat) (v : EV) (y : Fn) (h : Fn.s x j v = some y) : (∀ len, Wk (toV len v) (toV len (Fn.c y j))) ∧ ∀ j', j' ≠ j → Fn.c y j' = Fn.c x j' := by
  match j with
  | 0 =>
    simp only [Fn.s] at h
    split at h
    · rename_i a ha
      injection h with h
      subst h
      refine ⟨set0_ok ha, fun j' hj => ?_⟩
      match j', hj with
      | 0, hj => exact absurd rfl hj
      | 1, hj => exact rfl
      | 2, hj => exact rfl
      | 3, hj => exact rfl
      | 4, hj => exact rfl
      | 5, hj => exact rfl
      | n + 6, _ => rfl
    · cases h
  | 1 =>
    simp only [Fn.s] at h
    split at h
    · rename_i a ha
      injection h with h
      subst h
      refine ⟨set0_ok ha, fun j' hj => ?_⟩
      match j', hj with
      | 0, hj => exact rfl
      | 1, hj => exact absurd rfl hj
      | 2, hj => exact rfl
      | 3, hj => exact rfl
      | 4, hj => exact rfl
      | 5, hj => exact rfl
      | n + 6, _ => rfl
    · cases h
  | 2 =>
    simp only [Fn.s] at h
    split at h
    · rename_i a ha
      injection h with h
      subst h
      refine ⟨set0_ok ha, fun j' hj => ?_⟩
      match j', hj with
      | 0, hj => exact rfl
      | 1, hj => exact rfl
      | 2, hj => exact absurd rfl hj
      | 3, hj => exact rfl
      | 4, hj => exact rfl
      | 5, hj => exact rfl
      | n + 6, _ => rfl
    · cases h
  | 3 =>
    simp only [Fn.s] at h
    split at h
    · rename_i a ha
      injection h with h
      subst h
      refine ⟨set0_ok ha, fun j' hj => ?_⟩
      match j', hj with
      | 0, hj => exact rfl
      | 1, hj => exact rfl
      | 2, hj => exact rfl
      | 3, hj => exact absurd rfl hj
      | 4, hj => exact rfl
      | 5, hj => exact rfl
      | n + 6, _ => rfl
    · cases h
  | 4 =>
    simp only [Fn.s] at h
    split at h
    · rename_i a ha
      injection h with h
      subst h
      refine ⟨set0_ok ha, fun j' hj => ?_⟩
      match j', hj with
      | 0, hj => exact rfl
      | 1, hj => exact rfl
      | 2, hj => exact rfl
      | 3, hj => exact rfl
      | 4, hj => exact absurd rfl hj
      | 5, hj => exact rfl
      | n + 6, _ => rfl
    · cases h
  | 5 =>
    simp only [Fn.s] at h
    split at h
    · rename_i a ha
      injection h with h
      subst h
      refine ⟨set0_ok ha, fun j' hj => ?_⟩
      match j', hj with
      | 0, hj => exact rfl
      | 1, hj => exact rfl
      | 2, hj => exact rfl
      | 3, hj => exact rfl
      | 4, hj => exact rfl
      | 5, hj => exact absurd rfl hj
      | n + 6, _ => rfl
    · cases h
  | n + 6 => simp [Fn.s] at h
theorem Fn.m_ok (l : List EV) (y : Fn) (h : Fn.m l = some y) : l.length = 6 ∧ ∀ j, j < 6 → ∀ len, Wk (toVs len l j) (toV len (Fn.c y j)) := by
  unfold Fn.m at h
  split at h
  · split at h
    · rename_i h0 h1 h2 h3 h4 h5
      injection h with h
      subst h
      refine ⟨rfl, fun j hj len => ?_⟩
      match j, hj with
      | 0, _ => simp only [toVs]; exact set0_ok h0 len
      | 1, _ => simp only [toVs]; exact set0_ok h1 len
      | 2, _ => simp only [toVs]; exact set0_ok h2 len
      | 3, _ => simp only [toVs]; exact set0_ok h3 len
      | 4, _ => simp only [toVs]; exact set0_ok h4 len
      | 5, _ => simp only [toVs]; exact set0_ok h5 len
      | n + 6, h => exact absurd h (by omega)
    · cases h
  · cases h
def Typ.c (x : Typ) : Nat → EV
  | 0 => .i .i64 (x.width)
  | 1 => .b (x.signed)
  | _ => .un
def Typ.s (x : Typ) (j : Nat) (v : EV) : Option Typ := match j with
  | 0 => match set0 (.int .i64) v with
    | some y => some { x with width := y }
    | none => none
  | 1 => match set0 (.bool) v with
    | some y => some { x with signed := y }
    | none => none
  | _ => none
def Typ.m : List EV → Option Typ
  | [a0, a1] => match set0 (.int .i64) a0, set0 (.bool) a1 with
    | some y0, some y1 => some ⟨y0, y1⟩
    | _, _ => none
  | _ => none
theorem Typ.c_ok (x : Typ) (len : Len) : ∀ j, j < 2 → toV len (Typ.c x j) = .t (Typ.e x j)
  | 0, _ => by simp only [Typ.c, toV]; rfl
  | 1, _ => by simp only [Typ.c, toV]; rfl
  | n + 2, h => absurd h (by omega)
theorem Typ.c_dat (x : Typ) : ∀ j, (Typ.c x j).dat = true
  | 0 => rfl
  | 1 => rfl
  | n + 2 => rfl
theorem Typ.s_ok (x : Typ) (j : Nat) (v : EV) (y : Typ) (h : Typ.s x j v = some y) : (∀ len, Wk (toV len v) (toV len (Typ.c y j))) ∧ ∀ j', j' ≠ j → Typ.c y j' = Typ.c x j' := by
  match j with
  | 0 =>
    simp only [Typ.s] at h
    split at h
    · rename_i a ha
      injection h with h
      subst h
      refine ⟨set0_ok ha, fun j' hj => ?_⟩
      match j', hj with
      | 0, hj => exact absurd rfl hj
      | 1, hj => exact rfl
      | n + 2, _ => rfl
    · cases h
  | 1 =>
    simp only [Typ.s] at h
    split at h
    · rename_i a ha
      injection h with h
      subst h
      refine ⟨set0_ok ha, fun j' hj => ?_⟩
      match j', hj with
      | 0, hj => exact rfl
      | 1, hj => exact absurd rfl hj
      | n + 2, _ => rfl
    · cases h
  | n + 2 => simp [Typ.s] at h
theorem Typ.m_ok (l : List EV) (y : Typ) (h : Typ.m l = some y) : l.length = 2 ∧ ∀ j, j < 2 → ∀ len, Wk (toVs len l j) (toV len (Typ.c y j)) := by
  unfold Typ.m at h
  split at h
  · split at h
    · rename_i h0 h1
      injection h with h
      subst h
      refine ⟨rfl, fun j hj len => ?_⟩
      match j, hj with
      | 0, _ => simp only [toVs]; exact set0_ok h0 len
      | 1, _ => simp only [toVs]; exact set0_ok h1 len
      | n + 2, h => exact absurd h (by omega)
    · cases h
  · cases h
def suCell : (i : Nat) → suD i → Nat → Cell
  | 0, x => fun j => .ev (Inst.c x j)
  | 1, x => fun j => .ev (Edge.c x j)
  | 2, x => fun j => .ev (Term.c x j)
  | 3, x => fun j => .ev (Block.c x j)
  | 4, x => fun j => .ev (Arr.c x j)
  | 5, x => fun j => .ev (Strm.c x j)
  | 6, x => fun j => .ev (Fn.c x j)
  | 7, x => fun j => .ev (Typ.c x j)
  | _ + 8, _ => fun _ => .ev .un
def suSet : (i : Nat) → suD i → Nat → EV → Option (suD i)
  | 0, x => Inst.s x
  | 1, x => Edge.s x
  | 2, x => Term.s x
  | 3, x => Block.s x
  | 4, x => Arr.s x
  | 5, x => Strm.s x
  | 6, x => Fn.s x
  | 7, x => Typ.s x
  | _ + 8, _ => fun _ _ => none
def suMake : (i : Nat) → List EV → Option (suD i)
  | 0 => Inst.m
  | 1 => Edge.m
  | 2 => Term.m
  | 3 => Block.m
  | 4 => Arr.m
  | 5 => Strm.m
  | 6 => Fn.m
  | 7 => Typ.m
  | _ + 8 => fun _ => none
def suFro : Nat → Bool := fun i => Nat.blt i 8
instance : Codes where
  fro := suFro
  cell := suCell
  set := suSet
  setK := fun _ _ _ _ _ _ => none
  make := suMake
  cell_ok := fun i x j hf => match i, x, hf with
    | 0, x, _ => ⟨_, rfl, fun hj len => Inst.c_ok x len j hj⟩
    | 1, x, _ => ⟨_, rfl, fun hj len => Edge.c_ok x len j hj⟩
    | 2, x, _ => ⟨_, rfl, fun hj len => Term.c_ok x len j hj⟩
    | 3, x, _ => ⟨_, rfl, fun hj len => Block.c_ok x len j hj⟩
    | 4, x, _ => ⟨_, rfl, fun hj len => Arr.c_ok x len j hj⟩
    | 5, x, _ => ⟨_, rfl, fun hj len => Strm.c_ok x len j hj⟩
    | 6, x, _ => ⟨_, rfl, fun hj len => Fn.c_ok x len j hj⟩
    | 7, x, _ => ⟨_, rfl, fun hj len => Typ.c_ok x len j hj⟩
    | n + 8, _, hf => absurd (Nat.le_of_ble_eq_true hf) (by omega)
  set_ok := fun i x j v y h => match i, x, y, h with
    | 0, x, y, h => ⟨⟨_, rfl⟩, ⟨_, rfl, (Inst.s_ok x j v y h).1⟩, fun j' hj => congrArg Cell.ev ((Inst.s_ok x j v y h).2 j' hj)⟩
    | 1, x, y, h => ⟨⟨_, rfl⟩, ⟨_, rfl, (Edge.s_ok x j v y h).1⟩, fun j' hj => congrArg Cell.ev ((Edge.s_ok x j v y h).2 j' hj)⟩
    | 2, x, y, h => ⟨⟨_, rfl⟩, ⟨_, rfl, (Term.s_ok x j v y h).1⟩, fun j' hj => congrArg Cell.ev ((Term.s_ok x j v y h).2 j' hj)⟩
    | 3, x, y, h => ⟨⟨_, rfl⟩, ⟨_, rfl, (Block.s_ok x j v y h).1⟩, fun j' hj => congrArg Cell.ev ((Block.s_ok x j v y h).2 j' hj)⟩
    | 4, x, y, h => ⟨⟨_, rfl⟩, ⟨_, rfl, (Arr.s_ok x j v y h).1⟩, fun j' hj => congrArg Cell.ev ((Arr.s_ok x j v y h).2 j' hj)⟩
    | 5, x, y, h => ⟨⟨_, rfl⟩, ⟨_, rfl, (Strm.s_ok x j v y h).1⟩, fun j' hj => congrArg Cell.ev ((Strm.s_ok x j v y h).2 j' hj)⟩
    | 6, x, y, h => ⟨⟨_, rfl⟩, ⟨_, rfl, (Fn.s_ok x j v y h).1⟩, fun j' hj => congrArg Cell.ev ((Fn.s_ok x j v y h).2 j' hj)⟩
    | 7, x, y, h => ⟨⟨_, rfl⟩, ⟨_, rfl, (Typ.s_ok x j v y h).1⟩, fun j' hj => congrArg Cell.ev ((Typ.s_ok x j v y h).2 j' hj)⟩
    | n + 8, _, _, h => by cases h
  setK_ok := fun i x j t e l y h => by cases h
  cell_dat := fun i x j u h => match i, x, h with
    | 0, x, h => by injection h with h; subst h; exact Inst.c_dat x j
    | 1, x, h => by injection h with h; subst h; exact Edge.c_dat x j
    | 2, x, h => by injection h with h; subst h; exact Term.c_dat x j
    | 3, x, h => by injection h with h; subst h; exact Block.c_dat x j
    | 4, x, h => by injection h with h; subst h; exact Arr.c_dat x j
    | 5, x, h => by injection h with h; subst h; exact Strm.c_dat x j
    | 6, x, h => by injection h with h; subst h; exact Fn.c_dat x j
    | 7, x, h => by injection h with h; subst h; exact Typ.c_dat x j
    | n + 8, _, h => by injection h with h; subst h; rfl
  z_own := fun i j t e l h => match i, h with
    | 0, h => by cases h
    | 1, h => by cases h
    | 2, h => by cases h
    | 3, h => by cases h
    | 4, h => by cases h
    | 5, h => by cases h
    | 6, h => by cases h
    | 7, h => by cases h
    | n + 8, h => by cases h
  make_ok := fun i l y h => match i, y, h with
    | 0, y, h => ⟨(Inst.m_ok l y h).1, fun j hj => ⟨_, rfl, (Inst.m_ok l y h).2 j hj⟩⟩
    | 1, y, h => ⟨(Edge.m_ok l y h).1, fun j hj => ⟨_, rfl, (Edge.m_ok l y h).2 j hj⟩⟩
    | 2, y, h => ⟨(Term.m_ok l y h).1, fun j hj => ⟨_, rfl, (Term.m_ok l y h).2 j hj⟩⟩
    | 3, y, h => ⟨(Block.m_ok l y h).1, fun j hj => ⟨_, rfl, (Block.m_ok l y h).2 j hj⟩⟩
    | 4, y, h => ⟨(Arr.m_ok l y h).1, fun j hj => ⟨_, rfl, (Arr.m_ok l y h).2 j hj⟩⟩
    | 5, y, h => ⟨(Strm.m_ok l y h).1, fun j hj => ⟨_, rfl, (Strm.m_ok l y h).2 j hj⟩⟩
    | 6, y, h => ⟨(Fn.m_ok l y h).1, fun j hj => ⟨_, rfl, (Fn.m_ok l y h).2 j hj⟩⟩
    | 7, y, h => ⟨(Typ.m_ok l y h).1, fun j hj => ⟨_, rfl, (Typ.m_ok l y h).2 j hj⟩⟩
    | n + 8, _, h => by cases h
end Go.Abs


set_option linter.unusedVariables false
namespace Go.Abs
open Go Go.Proofs
def ZeroOk (t : TypeId) (τ : Ty) : Prop := froT τ = true ∧ ∀ z, (Tys.c Try.prog t).zero = some z → τ.sz = z.cells.size ∧ ∀ j, j < τ.sz → ∃ u, cellC τ τ.z j = .ev u ∧ ∀ len, Wk (V.cell (z.cells.getD j undef)) (toV len u)
theorem tyz2 : ZeroOk 2 (.int .i64) := ⟨rfl, fun z h => by
  injection h with h; subst h
  refine ⟨rfl, fun j hj => ?_⟩
  match j, hj with
  | 0, _ => exact ⟨_, rfl, fun len => by first | exact Wk.refl _ | exact Wk.nils _ _⟩
  | n + 1, h => exact absurd h (by show ¬ n + 1 < 1; omega)⟩
theorem tyz3 : ZeroOk 3 (.int .i64) := ⟨rfl, fun z h => by
  injection h with h; subst h
  refine ⟨rfl, fun j hj => ?_⟩
  match j, hj with
  | 0, _ => exact ⟨_, rfl, fun len => by first | exact Wk.refl _ | exact Wk.nils _ _⟩
  | n + 1, h => exact absurd h (by show ¬ n + 1 < 1; omega)⟩
theorem tyz4 : ZeroOk 4 .bool := ⟨rfl, fun z h => by
  injection h with h; subst h
  refine ⟨rfl, fun j hj => ?_⟩
  match j, hj with
  | 0, _ => exact ⟨_, rfl, fun len => by first | exact Wk.refl _ | exact Wk.nils _ _⟩
  | n + 1, h => exact absurd h (by show ¬ n + 1 < 1; omega)⟩
theorem tyz5 : ZeroOk 5 (.int .u8) := ⟨rfl, fun z h => by
  injection h with h; subst h
  refine ⟨rfl, fun j hj => ?_⟩
  match j, hj with
  | 0, _ => exact ⟨_, rfl, fun len => by first | exact Wk.refl _ | exact Wk.nils _ _⟩
  | n + 1, h => exact absurd h (by show ¬ n + 1 < 1; omega)⟩
theorem tyz6 : ZeroOk 6 (.int .u8) := ⟨rfl, fun z h => by
  injection h with h; subst h
  refine ⟨rfl, fun j hj => ?_⟩
  match j, hj with
  | 0, _ => exact ⟨_, rfl, fun len => by first | exact Wk.refl _ | exact Wk.nils _ _⟩
  | n + 1, h => exact absurd h (by show ¬ n + 1 < 1; omega)⟩
theorem tyz9 : ZeroOk 9 .str := ⟨rfl, fun z h => by
  injection h with h; subst h
  refine ⟨rfl, fun j hj => ?_⟩
  match j, hj with
  | 0, _ => exact ⟨_, rfl, fun len => by first | exact Wk.refl _ | exact Wk.nils _ _⟩
  | n + 1, h => exact absurd h (by show ¬ n + 1 < 1; omega)⟩
theorem tyz10 : ZeroOk 10 .str := ⟨rfl, fun z h => by
  injection h with h; subst h
  refine ⟨rfl, fun j hj => ?_⟩
  match j, hj with
  | 0, _ => exact ⟨_, rfl, fun len => by first | exact Wk.refl _ | exact Wk.nils _ _⟩
  | n + 1, h => exact absurd h (by show ¬ n + 1 < 1; omega)⟩
theorem tyz11 : ZeroOk 11 .str := ⟨rfl, fun z h => by
  injection h with h; subst h
  refine ⟨rfl, fun j hj => ?_⟩
  match j, hj with
  | 0, _ => exact ⟨_, rfl, fun len => by first | exact Wk.refl _ | exact Wk.nils _ _⟩
  | n + 1, h => exact absurd h (by show ¬ n + 1 < 1; omega)⟩
theorem tyz12 : ZeroOk 12 (.int .u64) := ⟨rfl, fun z h => by
  injection h with h; subst h
  refine ⟨rfl, fun j hj => ?_⟩
  match j, hj with
  | 0, _ => exact ⟨_, rfl, fun len => by first | exact Wk.refl _ | exact Wk.nils _ _⟩
  | n + 1, h => exact absurd h (by show ¬ n + 1 < 1; omega)⟩
theorem tyz21 : ZeroOk 21 (.int .i32) := ⟨rfl, fun z h => by
  injection h with h; subst h
  refine ⟨rfl, fun j hj => ?_⟩
  match j, hj with
  | 0, _ => exact ⟨_, rfl, fun len => by first | exact Wk.refl _ | exact Wk.nils _ _⟩
  | n + 1, h => exact absurd h (by show ¬ n + 1 < 1; omega)⟩
theorem tyz25 : ZeroOk 25 (.sl (.int .i64)) := ⟨rfl, fun z h => by
  injection h with h; subst h
  refine ⟨rfl, fun j hj => ?_⟩
  match j, hj with
  | 0, _ => exact ⟨_, rfl, fun len => by first | exact Wk.refl _ | exact Wk.nils _ _⟩
  | n + 1, h => exact absurd h (by show ¬ n + 1 < 1; omega)⟩
theorem tyz26 : ZeroOk 26 (.sl (.st 4)) := ⟨rfl, fun z h => by
  injection h with h; subst h
  refine ⟨rfl, fun j hj => ?_⟩
  match j, hj with
  | 0, _ => exact ⟨_, rfl, fun len => by first | exact Wk.refl _ | exact Wk.nils _ _⟩
  | n + 1, h => exact absurd h (by show ¬ n + 1 < 1; omega)⟩
theorem tyz27 : ZeroOk 27 (.sl (.st 5)) := ⟨rfl, fun z h => by
  injection h with h; subst h
  refine ⟨rfl, fun j hj => ?_⟩
  match j, hj with
  | 0, _ => exact ⟨_, rfl, fun len => by first | exact Wk.refl _ | exact Wk.nils _ _⟩
  | n + 1, h => exact absurd h (by show ¬ n + 1 < 1; omega)⟩
theorem tyz28 : ZeroOk 28 (.sl (.st 3)) := ⟨rfl, fun z h => by
  injection h with h; subst h
  refine ⟨rfl, fun j hj => ?_⟩
  match j, hj with
  | 0, _ => exact ⟨_, rfl, fun len => by first | exact Wk.refl _ | exact Wk.nils _ _⟩
  | n + 1, h => exact absurd h (by show ¬ n + 1 < 1; omega)⟩
theorem tyz30 : ZeroOk 30 (.st 6) := ⟨rfl, fun z h => by
  injection h with h; subst h
  refine ⟨rfl, fun j hj => ?_⟩
  match j, hj with
  | 0, _ => exact ⟨_, rfl, fun len => by first | exact Wk.refl _ | exact Wk.nils _ _⟩
  | 1, _ => exact ⟨_, rfl, fun len => by first | exact Wk.refl _ | exact Wk.nils _ _⟩
  | 2, _ => exact ⟨_, rfl, fun len => by first | exact Wk.refl _ | exact Wk.nils _ _⟩
  | 3, _ => exact ⟨_, rfl, fun len => by first | exact Wk.refl _ | exact Wk.nils _ _⟩
  | 4, _ => exact ⟨_, rfl, fun len => by first | exact Wk.refl _ | exact Wk.nils _ _⟩
  | 5, _ => exact ⟨_, rfl, fun len => by first | exact Wk.refl _ | exact Wk.nils _ _⟩
  | n + 6, h => exact absurd h (by show ¬ n + 6 < 6; omega)⟩
theorem tyz36 : ZeroOk 36 (.sl (.st 0)) := ⟨rfl, fun z h => by
  injection h with h; subst h
  refine ⟨rfl, fun j hj => ?_⟩
  match j, hj with
  | 0, _ => exact ⟨_, rfl, fun len => by first | exact Wk.refl _ | exact Wk.nils _ _⟩
  | n + 1, h => exact absurd h (by show ¬ n + 1 < 1; omega)⟩
theorem tyz37 : ZeroOk 37 (.sl (.st 1)) := ⟨rfl, fun z h => by
  injection h with h; subst h
  refine ⟨rfl, fun j hj => ?_⟩
  match j, hj with
  | 0, _ => exact ⟨_, rfl, fun len => by first | exact Wk.refl _ | exact Wk.nils _ _⟩
  | n + 1, h => exact absurd h (by show ¬ n + 1 < 1; omega)⟩
theorem tyz39 : ZeroOk 39 (.st 2) := ⟨rfl, fun z h => by
  injection h with h; subst h
  refine ⟨rfl, fun j hj => ?_⟩
  match j, hj with
  | 0, _ => exact ⟨_, rfl, fun len => by first | exact Wk.refl _ | exact Wk.nils _ _⟩
  | 1, _ => exact ⟨_, rfl, fun len => by first | exact Wk.refl _ | exact Wk.nils _ _⟩
  | 2, _ => exact ⟨_, rfl, fun len => by first | exact Wk.refl _ | exact Wk.nils _ _⟩
  | 3, _ => exact ⟨_, rfl, fun len => by first | exact Wk.refl _ | exact Wk.nils _ _⟩
  | n + 4, h => exact absurd h (by show ¬ n + 4 < 4; omega)⟩
theorem tyz41 : ZeroOk 41 (.st 3) := ⟨rfl, fun z h => by
  injection h with h; subst h
  refine ⟨rfl, fun j hj => ?_⟩
  match j, hj with
  | 0, _ => exact ⟨_, rfl, fun len => by first | exact Wk.refl _ | exact Wk.nils _ _⟩
  | 1, _ => exact ⟨_, rfl, fun len => by first | exact Wk.refl _ | exact Wk.nils _ _⟩
  | 2, _ => exact ⟨_, rfl, fun len => by first | exact Wk.refl _ | exact Wk.nils _ _⟩
  | 3, _ => exact ⟨_, rfl, fun len => by first | exact Wk.refl _ | exact Wk.nils _ _⟩
  | 4, _ => exact ⟨_, rfl, fun len => by first | exact Wk.refl _ | exact Wk.nils _ _⟩
  | 5, _ => exact ⟨_, rfl, fun len => by first | exact Wk.refl _ | exact Wk.nils _ _⟩
  | 6, _ => exact ⟨_, rfl, fun len => by first | exact Wk.refl _ | exact Wk.nils _ _⟩
  | 7, _ => exact ⟨_, rfl, fun len => by first | exact Wk.refl _ | exact Wk.nils _ _⟩
  | 8, _ => exact ⟨_, rfl, fun len => by first | exact Wk.refl _ | exact Wk.nils _ _⟩
  | n + 9, h => exact absurd h (by show ¬ n + 9 < 9; omega)⟩
theorem tyz44 : ZeroOk 44 (.int .u64) := ⟨rfl, fun z h => by
  injection h with h; subst h
  refine ⟨rfl, fun j hj => ?_⟩
  match j, hj with
  | 0, _ => exact ⟨_, rfl, fun len => by first | exact Wk.refl _ | exact Wk.nils _ _⟩
  | n + 1, h => exact absurd h (by show ¬ n + 1 < 1; omega)⟩
theorem tyz46 : ZeroOk 46 (.st 0) := ⟨rfl, fun z h => by
  injection h with h; subst h
  refine ⟨rfl, fun j hj => ?_⟩
  match j, hj with
  | 0, _ => exact ⟨_, rfl, fun len => by first | exact Wk.refl _ | exact Wk.nils _ _⟩
  | 1, _ => exact ⟨_, rfl, fun len => by first | exact Wk.refl _ | exact Wk.nils _ _⟩
  | 2, _ => exact ⟨_, rfl, fun len => by first | exact Wk.refl _ | exact Wk.nils _ _⟩
  | 3, _ => exact ⟨_, rfl, fun len => by first | exact Wk.refl _ | exact Wk.nils _ _⟩
  | 4, _ => exact ⟨_, rfl, fun len => by first | exact Wk.refl _ | exact Wk.nils _ _⟩
  | n + 5, h => exact absurd h (by show ¬ n + 5 < 5; omega)⟩
theorem tyz51 : ZeroOk 51 (.st 1) := ⟨rfl, fun z h => by
  injection h with h; subst h
  refine ⟨rfl, fun j hj => ?_⟩
  match j, hj with
  | 0, _ => exact ⟨_, rfl, fun len => by first | exact Wk.refl _ | exact Wk.nils _ _⟩
  | 1, _ => exact ⟨_, rfl, fun len => by first | exact Wk.refl _ | exact Wk.nils _ _⟩
  | n + 2, h => exact absurd h (by show ¬ n + 2 < 2; omega)⟩
theorem tyz53 : ZeroOk 53 (.st 4) := ⟨rfl, fun z h => by
  injection h with h; subst h
  refine ⟨rfl, fun j hj => ?_⟩
  match j, hj with
  | 0, _ => exact ⟨_, rfl, fun len => by first | exact Wk.refl _ | exact Wk.nils _ _⟩
  | 1, _ => exact ⟨_, rfl, fun len => by first | exact Wk.refl _ | exact Wk.nils _ _⟩
  | 2, _ => exact ⟨_, rfl, fun len => by first | exact Wk.refl _ | exact Wk.nils _ _⟩
  | 3, _ => exact ⟨_, rfl, fun len => by first | exact Wk.refl _ | exact Wk.nils _ _⟩
  | 4, _ => exact ⟨_, rfl, fun len => by first | exact Wk.refl _ | exact Wk.nils _ _⟩
  | n + 5, h => exact absurd h (by show ¬ n + 5 < 5; omega)⟩
theorem tyz55 : ZeroOk 55 (.st 5) := ⟨rfl, fun z h => by
  injection h with h; subst h
  refine ⟨rfl, fun j hj => ?_⟩
  match j, hj with
  | 0, _ => exact ⟨_, rfl, fun len => by first | exact Wk.refl _ | exact Wk.nils _ _⟩
  | 1, _ => exact ⟨_, rfl, fun len => by first | exact Wk.refl _ | exact Wk.nils _ _⟩
  | 2, _ => exact ⟨_, rfl, fun len => by first | exact Wk.refl _ | exact Wk.nils _ _⟩
  | n + 3, h => exact absurd h (by show ¬ n + 3 < 3; omega)⟩
theorem tyz57 : ZeroOk 57 (.st 7) := ⟨rfl, fun z h => by
  injection h with h; subst h
  refine ⟨rfl, fun j hj => ?_⟩
  match j, hj with
  | 0, _ => exact ⟨_, rfl, fun len => by first | exact Wk.refl _ | exact Wk.nils _ _⟩
  | 1, _ => exact ⟨_, rfl, fun len => by first | exact Wk.refl _ | exact Wk.nils _ _⟩
  | n + 2, h => exact absurd h (by show ¬ n + 2 < 2; omega)⟩
theorem tyz67 : ZeroOk 67 (.sl (.sl (.int .i64))) := ⟨rfl, fun z h => by
  injection h with h; subst h
  refine ⟨rfl, fun j hj => ?_⟩
  match j, hj with
  | 0, _ => exact ⟨_, rfl, fun len => by first | exact Wk.refl _ | exact Wk.nils _ _⟩
  | n + 1, h => exact absurd h (by show ¬ n + 1 < 1; omega)⟩
theorem tyz69 : ZeroOk 69 (.sl .bool) := ⟨rfl, fun z h => by
  injection h with h; subst h
  refine ⟨rfl, fun j hj => ?_⟩
  match j, hj with
  | 0, _ => exact ⟨_, rfl, fun len => by first | exact Wk.refl _ | exact Wk.nils _ _⟩
  | n + 1, h => exact absurd h (by show ¬ n + 1 < 1; omega)⟩
theorem tyz96 : ZeroOk 96 (.int .i64) := ⟨rfl, fun z h => by
  injection h with h; subst h
  refine ⟨rfl, fun j hj => ?_⟩
  match j, hj with
  | 0, _ => exact ⟨_, rfl, fun len => by first | exact Wk.refl _ | exact Wk.nils _ _⟩
  | n + 1, h => exact absurd h (by show ¬ n + 1 < 1; omega)⟩
theorem tyz113 : ZeroOk 113 (.sl .str) := ⟨rfl, fun z h => by
  injection h with h; subst h
  refine ⟨rfl, fun j hj => ?_⟩
  match j, hj with
  | 0, _ => exact ⟨_, rfl, fun len => by first | exact Wk.refl _ | exact Wk.nils _ _⟩
  | n + 1, h => exact absurd h (by show ¬ n + 1 < 1; omega)⟩
theorem tyz133 : ZeroOk 133 (.sl (.int .u8)) := ⟨rfl, fun z h => by
  injection h with h; subst h
  refine ⟨rfl, fun j hj => ?_⟩
  match j, hj with
  | 0, _ => exact ⟨_, rfl, fun len => by first | exact Wk.refl _ | exact Wk.nils _ _⟩
  | n + 1, h => exact absurd h (by show ¬ n + 1 < 1; omega)⟩
theorem tyz142 : ZeroOk 142 (.int .u64) := ⟨rfl, fun z h => by
  injection h with h; subst h
  refine ⟨rfl, fun j hj => ?_⟩
  match j, hj with
  | 0, _ => exact ⟨_, rfl, fun len => by first | exact Wk.refl _ | exact Wk.nils _ _⟩
  | n + 1, h => exact absurd h (by show ¬ n + 1 < 1; omega)⟩
theorem tyz148 : ZeroOk 148 (.int .i64) := ⟨rfl, fun z h => by
  injection h with h; subst h
  refine ⟨rfl, fun j hj => ?_⟩
  match j, hj with
  | 0, _ => exact ⟨_, rfl, fun len => by first | exact Wk.refl _ | exact Wk.nils _ _⟩
  | n + 1, h => exact absurd h (by show ¬ n + 1 < 1; omega)⟩
theorem tyz155 : ZeroOk 155 (.int .u32) := ⟨rfl, fun z h => by
  injection h with h; subst h
  refine ⟨rfl, fun j hj => ?_⟩
  match j, hj with
  | 0, _ => exact ⟨_, rfl, fun len => by first | exact Wk.refl _ | exact Wk.nils _ _⟩
  | n + 1, h => exact absurd h (by show ¬ n + 1 < 1; omega)⟩
theorem tyz157 : ZeroOk 157 (.int .u64) := ⟨rfl, fun z h => by
  injection h with h; subst h
  refine ⟨rfl, fun j hj => ?_⟩
  match j, hj with
  | 0, _ => exact ⟨_, rfl, fun len => by first | exact Wk.refl _ | exact Wk.nils _ _⟩
  | n + 1, h => exact absurd h (by show ¬ n + 1 < 1; omega)⟩
theorem tyz173 : ZeroOk 173 (.int .u8) := ⟨rfl, fun z h => by
  injection h with h; subst h
  refine ⟨rfl, fun j hj => ?_⟩
  match j, hj with
  | 0, _ => exact ⟨_, rfl, fun len => by first | exact Wk.refl _ | exact Wk.nils _ _⟩
  | n + 1, h => exact absurd h (by show ¬ n + 1 < 1; omega)⟩
theorem tyz174 : ZeroOk 174 (.int .u8) := ⟨rfl, fun z h => by
  injection h with h; subst h
  refine ⟨rfl, fun j hj => ?_⟩
  match j, hj with
  | 0, _ => exact ⟨_, rfl, fun len => by first | exact Wk.refl _ | exact Wk.nils _ _⟩
  | n + 1, h => exact absurd h (by show ¬ n + 1 < 1; omega)⟩
theorem tyz177 : ZeroOk 177 (.int .i32) := ⟨rfl, fun z h => by
  injection h with h; subst h
  refine ⟨rfl, fun j hj => ?_⟩
  match j, hj with
  | 0, _ => exact ⟨_, rfl, fun len => by first | exact Wk.refl _ | exact Wk.nils _ _⟩
  | n + 1, h => exact absurd h (by show ¬ n + 1 < 1; omega)⟩
theorem tyz178 : ZeroOk 178 (.int .i32) := ⟨rfl, fun z h => by
  injection h with h; subst h
  refine ⟨rfl, fun j hj => ?_⟩
  match j, hj with
  | 0, _ => exact ⟨_, rfl, fun len => by first | exact Wk.refl _ | exact Wk.nils _ _⟩
  | n + 1, h => exact absurd h (by show ¬ n + 1 < 1; omega)⟩
def ZOk (t : TypeId) (o : Option Ty) : Prop := ∀ τ, o = some τ → ZeroOk t τ
theorem zNode {t : TypeId} {b : Bool} {x y : Option Ty} (h1 : ZOk t x) (h2 : ZOk t y) : ZOk t (bif b then x else y) := by cases b <;> assumption
theorem zLeaf {t n : TypeId} {x : Ty} (h : ZeroOk n x) : ZOk t (bif Nat.beq t n then some x else none) := fun τ e => by
  cases hb : Nat.beq t n with
  | true => rw [hb] at e; obtain rfl := Nat.eq_of_beq_eq_true hb; cases e; exact h
  | false => rw [hb] at e; cases e
def tyes (t : TypeId) : Option Ty := (bif Nat.blt t 44 then (bif Nat.blt t 21 then (bif Nat.blt t 6 then (bif Nat.blt t 4 then (bif Nat.blt t 3 then (bif Nat.beq t 2 then some (.int .i64) else none) else (bif Nat.beq t 3 then some (.int .i64) else none)) else (bif Nat.blt t 5 then (bif Nat.beq t 4 then some .bool else none) else (bif Nat.beq t 5 then some (.int .u8) else none))) else (bif Nat.blt t 10 then (bif Nat.blt t 9 then (bif Nat.beq t 6 then some (.int .u8) else none) else (bif Nat.beq t 9 then some .str else none)) else (bif Nat.blt t 11 then (bif Nat.beq t 10 then some .str else none) else (bif Nat.blt t 12 then (bif Nat.beq t 11 then some .str else none) else (bif Nat.beq t 12 then some (.int .u64) else none))))) else (bif Nat.blt t 30 then (bif Nat.blt t 26 then (bif Nat.blt t 25 then (bif Nat.beq t 21 then some (.int .i32) else none) else (bif Nat.beq t 25 then some (.sl (.int .i64)) else none)) else (bif Nat.blt t 27 then (bif Nat.beq t 26 then some (.sl (.st 4)) else none) else (bif Nat.blt t 28 then (bif Nat.beq t 27 then some (.sl (.st 5)) else none) else (bif Nat.beq t 28 then some (.sl (.st 3)) else none)))) else (bif Nat.blt t 37 then (bif Nat.blt t 36 then (bif Nat.beq t 30 then some (.st 6) else none) else (bif Nat.beq t 36 then some (.sl (.st 0)) else none)) else (bif Nat.blt t 39 then (bif Nat.beq t 37 then some (.sl (.st 1)) else none) else (bif Nat.blt t 41 then (bif Nat.beq t 39 then some (.st 2) else none) else (bif Nat.beq t 41 then some (.st 3) else none)))))) else (bif Nat.blt t 113 then (bif Nat.blt t 55 then (bif Nat.blt t 51 then (bif Nat.blt t 46 then (bif Nat.beq t 44 then some (.int .u64) else none) else (bif Nat.beq t 46 then some (.st 0) else none)) else (bif Nat.blt t 53 then (bif Nat.beq t 51 then some (.st 1) else none) else (bif Nat.beq t 53 then some (.st 4) else none))) else (bif Nat.blt t 67 then (bif Nat.blt t 57 then (bif Nat.beq t 55 then some (.st 5) else none) else (bif Nat.beq t 57 then some (.st 7) else none)) else (bif Nat.blt t 69 then (bif Nat.beq t 67 then some (.sl (.sl (.int .i64))) else none) else (bif Nat.blt t 96 then (bif Nat.beq t 69 then some (.sl .bool) else none) else (bif Nat.beq t 96 then some (.int .i64) else none))))) else (bif Nat.blt t 157 then (bif Nat.blt t 142 then (bif Nat.blt t 133 then (bif Nat.beq t 113 then some (.sl .str) else none) else (bif Nat.beq t 133 then some (.sl (.int .u8)) else none)) else (bif Nat.blt t 148 then (bif Nat.beq t 142 then some (.int .u64) else none) else (bif Nat.blt t 155 then (bif Nat.beq t 148 then some (.int .i64) else none) else (bif Nat.beq t 155 then some (.int .u32) else none)))) else (bif Nat.blt t 174 then (bif Nat.blt t 173 then (bif Nat.beq t 157 then some (.int .u64) else none) else (bif Nat.beq t 173 then some (.int .u8) else none)) else (bif Nat.blt t 177 then (bif Nat.beq t 174 then some (.int .u8) else none) else (bif Nat.blt t 178 then (bif Nat.beq t 177 then some (.int .i32) else none) else (bif Nat.beq t 178 then some (.int .i32) else none)))))))
theorem tyes_ok (t : TypeId) : ZOk t (tyes t) := (zNode (zNode (zNode (zNode (zNode (zLeaf tyz2) (zLeaf tyz3)) (zNode (zLeaf tyz4) (zLeaf tyz5))) (zNode (zNode (zLeaf tyz6) (zLeaf tyz9)) (zNode (zLeaf tyz10) (zNode (zLeaf tyz11) (zLeaf tyz12))))) (zNode (zNode (zNode (zLeaf tyz21) (zLeaf tyz25)) (zNode (zLeaf tyz26) (zNode (zLeaf tyz27) (zLeaf tyz28)))) (zNode (zNode (zLeaf tyz30) (zLeaf tyz36)) (zNode (zLeaf tyz37) (zNode (zLeaf tyz39) (zLeaf tyz41)))))) (zNode (zNode (zNode (zNode (zLeaf tyz44) (zLeaf tyz46)) (zNode (zLeaf tyz51) (zLeaf tyz53))) (zNode (zNode (zLeaf tyz55) (zLeaf tyz57)) (zNode (zLeaf tyz67) (zNode (zLeaf tyz69) (zLeaf tyz96))))) (zNode (zNode (zNode (zLeaf tyz113) (zLeaf tyz133)) (zNode (zLeaf tyz142) (zNode (zLeaf tyz148) (zLeaf tyz155)))) (zNode (zNode (zLeaf tyz157) (zLeaf tyz173)) (zNode (zLeaf tyz174) (zNode (zLeaf tyz177) (zLeaf tyz178)))))))
instance : TyE Try.prog := ⟨tyes, fun t τ h => (tyes_ok t τ h).1, fun t τ z h hz => (tyes_ok t τ h).2 z hz⟩
end Go.Abs


set_option linter.unusedVariables false
namespace Go.Abs
open Go Go.Proofs
def tyx7 : TyXE := { nf := some 4 }
theorem tyx7_ok : TyXE.Ok Try.prog 7 tyx7 := ⟨(fun m h => by cases h; exact ⟨_, Try.underlying7, rfl, by kernel_rfl⟩), (fun l h => by cases h), (fun s e τ h => by cases h), (fun m s h => by cases h)⟩
def tyx8 : TyXE := { nf := some 4 }
theorem tyx8_ok : TyXE.Ok Try.prog 8 tyx8 := ⟨(fun m h => by cases h; exact ⟨_, Try.underlying8, rfl, by kernel_rfl⟩), (fun l h => by cases h), (fun s e τ h => by cases h), (fun m s h => by cases h)⟩
def tyx13 : TyXE := { nf := some 2 }
theorem tyx13_ok : TyXE.Ok Try.prog 13 tyx13 := ⟨(fun m h => by cases h; exact ⟨_, Try.underlying13, rfl, by kernel_rfl⟩), (fun l h => by cases h), (fun s e τ h => by cases h), (fun m s h => by cases h)⟩
def tyx14 : TyXE := { nf := some 2 }
theorem tyx14_ok : TyXE.Ok Try.prog 14 tyx14 := ⟨(fun m h => by cases h; exact ⟨_, Try.underlying14, rfl, by kernel_rfl⟩), (fun l h => by cases h), (fun s e τ h => by cases h), (fun m s h => by cases h)⟩
def tyx18 : TyXE := { nf := some 1 }
theorem tyx18_ok : TyXE.Ok Try.prog 18 tyx18 := ⟨(fun m h => by cases h; exact ⟨_, Try.underlying18, rfl, by kernel_rfl⟩), (fun l h => by cases h), (fun s e τ h => by cases h), (fun m s h => by cases h)⟩
def tyx19 : TyXE := { nf := some 1 }
theorem tyx19_ok : TyXE.Ok Try.prog 19 tyx19 := ⟨(fun m h => by cases h; exact ⟨_, Try.underlying19, rfl, by kernel_rfl⟩), (fun l h => by cases h), (fun s e τ h => by cases h), (fun m s h => by cases h)⟩
def tyx29 : TyXE := { nf := some 6 }
theorem tyx29_ok : TyXE.Ok Try.prog 29 tyx29 := ⟨(fun m h => by cases h; exact ⟨_, Try.underlying29, rfl, by kernel_rfl⟩), (fun l h => by cases h), (fun s e τ h => by cases h), (fun m s h => by cases h)⟩
def tyx30 : TyXE := { nf := some 6 }
theorem tyx30_ok : TyXE.Ok Try.prog 30 tyx30 := ⟨(fun m h => by cases h; exact ⟨_, Try.underlying30, rfl, by kernel_rfl⟩), (fun l h => by cases h), (fun s e τ h => by cases h), (fun m s h => by cases h)⟩
def tyx38 : TyXE := { nf := some 4 }
theorem tyx38_ok : TyXE.Ok Try.prog 38 tyx38 := ⟨(fun m h => by cases h; exact ⟨_, Try.underlying38, rfl, by kernel_rfl⟩), (fun l h => by cases h), (fun s e τ h => by cases h), (fun m s h => by cases h)⟩
def tyx39 : TyXE := { nf := some 4 }
theorem tyx39_ok : TyXE.Ok Try.prog 39 tyx39 := ⟨(fun m h => by cases h; exact ⟨_, Try.underlying39, rfl, by kernel_rfl⟩), (fun l h => by cases h), (fun s e τ h => by cases h), (fun m s h => by cases h)⟩
def tyx40 : TyXE := { nf := some 6 }
theorem tyx40_ok : TyXE.Ok Try.prog 40 tyx40 := ⟨(fun m h => by cases h; exact ⟨_, Try.underlying40, rfl, by kernel_rfl⟩), (fun l h => by cases h), (fun s e τ h => by cases h), (fun m s h => by cases h)⟩
def tyx41 : TyXE := { nf := some 6 }
theorem tyx41_ok : TyXE.Ok Try.prog 41 tyx41 := ⟨(fun m h => by cases h; exact ⟨_, Try.underlying41, rfl, by kernel_rfl⟩), (fun l h => by cases h), (fun s e τ h => by cases h), (fun m s h => by cases h)⟩
def tyx45 : TyXE := { nf := some 5 }
theorem tyx45_ok : TyXE.Ok Try.prog 45 tyx45 := ⟨(fun m h => by cases h; exact ⟨_, Try.underlying45, rfl, by kernel_rfl⟩), (fun l h => by cases h), (fun s e τ h => by cases h), (fun m s h => by cases h)⟩
def tyx46 : TyXE := { nf := some 5 }
theorem tyx46_ok : TyXE.Ok Try.prog 46 tyx46 := ⟨(fun m h => by cases h; exact ⟨_, Try.underlying46, rfl, by kernel_rfl⟩), (fun l h => by cases h), (fun s e τ h => by cases h), (fun m s h => by cases h)⟩
def tyx50 : TyXE := { nf := some 2 }
theorem tyx50_ok : TyXE.Ok Try.prog 50 tyx50 := ⟨(fun m h => by cases h; exact ⟨_, Try.underlying50, rfl, by kernel_rfl⟩), (fun l h => by cases h), (fun s e τ h => by cases h), (fun m s h => by cases h)⟩
def tyx51 : TyXE := { nf := some 2 }
theorem tyx51_ok : TyXE.Ok Try.prog 51 tyx51 := ⟨(fun m h => by cases h; exact ⟨_, Try.underlying51, rfl, by kernel_rfl⟩), (fun l h => by cases h), (fun s e τ h => by cases h), (fun m s h => by cases h)⟩
def tyx52 : TyXE := { nf := some 5 }
theorem tyx52_ok : TyXE.Ok Try.prog 52 tyx52 := ⟨(fun m h => by cases h; exact ⟨_, Try.underlying52, rfl, by kernel_rfl⟩), (fun l h => by cases h), (fun s e τ h => by cases h), (fun m s h => by cases h)⟩
def tyx53 : TyXE := { nf := some 5, eq := some [.string, (.int .i64), (.int .i64), (.int .i64), (.int .i64)] }
theorem tyx53_ok : TyXE.Ok Try.prog 53 tyx53 := ⟨(fun m h => by cases h; exact ⟨_, Try.underlying53, rfl, by kernel_rfl⟩), (fun l h => by cases h; kernel_rfl), (fun s e τ h => by cases h), (fun m s h => by cases h)⟩
def tyx54 : TyXE := { nf := some 3 }
theorem tyx54_ok : TyXE.Ok Try.prog 54 tyx54 := ⟨(fun m h => by cases h; exact ⟨_, Try.underlying54, rfl, by kernel_rfl⟩), (fun l h => by cases h), (fun s e τ h => by cases h), (fun m s h => by cases h)⟩
def tyx55 : TyXE := { nf := some 3, eq := some [.string, (.int .i64), .bool] }
theorem tyx55_ok : TyXE.Ok Try.prog 55 tyx55 := ⟨(fun m h => by cases h; exact ⟨_, Try.underlying55, rfl, by kernel_rfl⟩), (fun l h => by cases h; kernel_rfl), (fun s e τ h => by cases h), (fun m s h => by cases h)⟩
def tyx56 : TyXE := { nf := some 2 }
theorem tyx56_ok : TyXE.Ok Try.prog 56 tyx56 := ⟨(fun m h => by cases h; exact ⟨_, Try.underlying56, rfl, by kernel_rfl⟩), (fun l h => by cases h), (fun s e τ h => by cases h), (fun m s h => by cases h)⟩
def tyx57 : TyXE := { nf := some 2, eq := some [(.int .i64), .bool] }
theorem tyx57_ok : TyXE.Ok Try.prog 57 tyx57 := ⟨(fun m h => by cases h; exact ⟨_, Try.underlying57, rfl, by kernel_rfl⟩), (fun l h => by cases h; kernel_rfl), (fun s e τ h => by cases h), (fun m s h => by cases h)⟩
def tyx58 : TyXE := { ar := some (2, 2) }
theorem tyx58_ok : TyXE.Ok Try.prog 58 tyx58 := ⟨(fun m h => by cases h), (fun l h => by cases h), (fun s e τ h => by cases h), (fun m s h => by cases h; exact ⟨_, inferInstance⟩)⟩
def tyx59 : TyXE := { ar := some (2, 1) }
theorem tyx59_ok : TyXE.Ok Try.prog 59 tyx59 := ⟨(fun m h => by cases h), (fun l h => by cases h), (fun s e τ h => by cases h), (fun m s h => by cases h; exact ⟨_, inferInstance⟩)⟩
def tyx64 : TyXE := { ar := some (2, 1) }
theorem tyx64_ok : TyXE.Ok Try.prog 64 tyx64 := ⟨(fun m h => by cases h), (fun l h => by cases h), (fun s e τ h => by cases h), (fun m s h => by cases h; exact ⟨_, inferInstance⟩)⟩
def tyx91 : TyXE := { mp := some (false, 3, (.int .i64)) }
theorem tyx91_ok : TyXE.Ok Try.prog 91 tyx91 := ⟨(fun m h => by cases h), (fun l h => by cases h), (fun s e τ h => by cases h; exact ⟨⟨_, Try.underlying91, Try.underlying3⟩⟩), (fun m s h => by cases h)⟩
def tyx106 : TyXE := { nf := some 3 }
theorem tyx106_ok : TyXE.Ok Try.prog 106 tyx106 := ⟨(fun m h => by cases h; exact ⟨_, Try.underlying106, rfl, by kernel_rfl⟩), (fun l h => by cases h), (fun s e τ h => by cases h), (fun m s h => by cases h)⟩
def tyx107 : TyXE := { nf := some 3 }
theorem tyx107_ok : TyXE.Ok Try.prog 107 tyx107 := ⟨(fun m h => by cases h; exact ⟨_, Try.underlying107, rfl, by kernel_rfl⟩), (fun l h => by cases h), (fun s e τ h => by cases h), (fun m s h => by cases h)⟩
def tyx134 : TyXE := { mp := some (true, 4, .bool) }
theorem tyx134_ok : TyXE.Ok Try.prog 134 tyx134 := ⟨(fun m h => by cases h), (fun l h => by cases h), (fun s e τ h => by cases h; exact ⟨⟨_, Try.underlying134, Try.underlying9⟩⟩), (fun m s h => by cases h)⟩
def tyx144 : TyXE := { ar := some (3, 1) }
theorem tyx144_ok : TyXE.Ok Try.prog 144 tyx144 := ⟨(fun m h => by cases h), (fun l h => by cases h), (fun s e τ h => by cases h), (fun m s h => by cases h; exact ⟨_, inferInstance⟩)⟩
def tyx167 : TyXE := { nf := some 4 }
theorem tyx167_ok : TyXE.Ok Try.prog 167 tyx167 := ⟨(fun m h => by cases h; exact ⟨_, Try.underlying167, rfl, by kernel_rfl⟩), (fun l h => by cases h), (fun s e τ h => by cases h), (fun m s h => by cases h)⟩
def tyx168 : TyXE := { nf := some 4 }
theorem tyx168_ok : TyXE.Ok Try.prog 168 tyx168 := ⟨(fun m h => by cases h; exact ⟨_, Try.underlying168, rfl, by kernel_rfl⟩), (fun l h => by cases h), (fun s e τ h => by cases h), (fun m s h => by cases h)⟩
def tyx169 : TyXE := { ar := some (0, 1) }
theorem tyx169_ok : TyXE.Ok Try.prog 169 tyx169 := ⟨(fun m h => by cases h), (fun l h => by cases h), (fun s e τ h => by cases h), (fun m s h => by cases h; exact ⟨_, inferInstance⟩)⟩
def tyx179 : TyXE := { nf := some 11 }
theorem tyx179_ok : TyXE.Ok Try.prog 179 tyx179 := ⟨(fun m h => by cases h; exact ⟨_, Try.underlying179, rfl, by kernel_rfl⟩), (fun l h => by cases h), (fun s e τ h => by cases h), (fun m s h => by cases h)⟩
def tyx180 : TyXE := { nf := some 11 }
theorem tyx180_ok : TyXE.Ok Try.prog 180 tyx180 := ⟨(fun m h => by cases h; exact ⟨_, Try.underlying180, rfl, by kernel_rfl⟩), (fun l h => by cases h), (fun s e τ h => by cases h), (fun m s h => by cases h)⟩
theorem xNode {t : TypeId} {b : Bool} {x y : TyXE} (h1 : TyXE.Ok Try.prog t x) (h2 : TyXE.Ok Try.prog t y) : TyXE.Ok Try.prog t (bif b then x else y) := by cases b <;> assumption
theorem xLeaf {t n : TypeId} {x : TyXE} (h : TyXE.Ok Try.prog n x) : TyXE.Ok Try.prog t (bif Nat.beq t n then x else {}) := by
  cases hb : Nat.beq t n with
  | true => obtain rfl := Nat.eq_of_beq_eq_true hb; exact h
  | false => exact ⟨fun m h => (by cases h), fun l h => (by cases h), fun s e τ h => (by cases h), fun m s h => (by cases h)⟩
def tyxs (t : TypeId) : TyXE := (bif Nat.blt t 53 then (bif Nat.blt t 38 then (bif Nat.blt t 18 then (bif Nat.blt t 13 then (bif Nat.blt t 8 then (bif Nat.beq t 7 then tyx7 else {}) else (bif Nat.beq t 8 then tyx8 else {})) else (bif Nat.blt t 14 then (bif Nat.beq t 13 then tyx13 else {}) else (bif Nat.beq t 14 then tyx14 else {}))) else (bif Nat.blt t 29 then (bif Nat.blt t 19 then (bif Nat.beq t 18 then tyx18 else {}) else (bif Nat.beq t 19 then tyx19 else {})) else (bif Nat.blt t 30 then (bif Nat.beq t 29 then tyx29 else {}) else (bif Nat.beq t 30 then tyx30 else {})))) else (bif Nat.blt t 45 then (bif Nat.blt t 40 then (bif Nat.blt t 39 then (bif Nat.beq t 38 then tyx38 else {}) else (bif Nat.beq t 39 then tyx39 else {})) else (bif Nat.blt t 41 then (bif Nat.beq t 40 then tyx40 else {}) else (bif Nat.beq t 41 then tyx41 else {}))) else (bif Nat.blt t 50 then (bif Nat.blt t 46 then (bif Nat.beq t 45 then tyx45 else {}) else (bif Nat.beq t 46 then tyx46 else {})) else (bif Nat.blt t 51 then (bif Nat.beq t 50 then tyx50 else {}) else (bif Nat.blt t 52 then (bif Nat.beq t 51 then tyx51 else {}) else (bif Nat.beq t 52 then tyx52 else {})))))) else (bif Nat.blt t 106 then (bif Nat.blt t 57 then (bif Nat.blt t 55 then (bif Nat.blt t 54 then (bif Nat.beq t 53 then tyx53 else {}) else (bif Nat.beq t 54 then tyx54 else {})) else (bif Nat.blt t 56 then (bif Nat.beq t 55 then tyx55 else {}) else (bif Nat.beq t 56 then tyx56 else {}))) else (bif Nat.blt t 59 then (bif Nat.blt t 58 then (bif Nat.beq t 57 then tyx57 else {}) else (bif Nat.beq t 58 then tyx58 else {})) else (bif Nat.blt t 64 then (bif Nat.beq t 59 then tyx59 else {}) else (bif Nat.blt t 91 then (bif Nat.beq t 64 then tyx64 else {}) else (bif Nat.beq t 91 then tyx91 else {}))))) else (bif Nat.blt t 167 then (bif Nat.blt t 134 then (bif Nat.blt t 107 then (bif Nat.beq t 106 then tyx106 else {}) else (bif Nat.beq t 107 then tyx107 else {})) else (bif Nat.blt t 144 then (bif Nat.beq t 134 then tyx134 else {}) else (bif Nat.beq t 144 then tyx144 else {}))) else (bif Nat.blt t 169 then (bif Nat.blt t 168 then (bif Nat.beq t 167 then tyx167 else {}) else (bif Nat.beq t 168 then tyx168 else {})) else (bif Nat.blt t 179 then (bif Nat.beq t 169 then tyx169 else {}) else (bif Nat.blt t 180 then (bif Nat.beq t 179 then tyx179 else {}) else (bif Nat.beq t 180 then tyx180 else {})))))))
theorem tyxs_ok (t : TypeId) : TyXE.Ok Try.prog t (tyxs t) := (xNode (xNode (xNode (xNode (xNode (xLeaf tyx7_ok) (xLeaf tyx8_ok)) (xNode (xLeaf tyx13_ok) (xLeaf tyx14_ok))) (xNode (xNode (xLeaf tyx18_ok) (xLeaf tyx19_ok)) (xNode (xLeaf tyx29_ok) (xLeaf tyx30_ok)))) (xNode (xNode (xNode (xLeaf tyx38_ok) (xLeaf tyx39_ok)) (xNode (xLeaf tyx40_ok) (xLeaf tyx41_ok))) (xNode (xNode (xLeaf tyx45_ok) (xLeaf tyx46_ok)) (xNode (xLeaf tyx50_ok) (xNode (xLeaf tyx51_ok) (xLeaf tyx52_ok)))))) (xNode (xNode (xNode (xNode (xLeaf tyx53_ok) (xLeaf tyx54_ok)) (xNode (xLeaf tyx55_ok) (xLeaf tyx56_ok))) (xNode (xNode (xLeaf tyx57_ok) (xLeaf tyx58_ok)) (xNode (xLeaf tyx59_ok) (xNode (xLeaf tyx64_ok) (xLeaf tyx91_ok))))) (xNode (xNode (xNode (xLeaf tyx106_ok) (xLeaf tyx107_ok)) (xNode (xLeaf tyx134_ok) (xLeaf tyx144_ok))) (xNode (xNode (xLeaf tyx167_ok) (xLeaf tyx168_ok)) (xNode (xLeaf tyx169_ok) (xNode (xLeaf tyx179_ok) (xLeaf tyx180_ok)))))))
instance : TyX Try.prog := ⟨tyxs, tyxs_ok⟩
end Go.Abs


set_option linter.unusedVariables false
set_option linter.unusedSectionVars false
set_option linter.unusedSimpArgs false
set_option maxHeartbeats 1000000
namespace Go.Abs
open Go Go.Proofs
noncomputable section
def ann42 : Ann := (.seq .o (.seq .o .o))
def go42 (x0 : Int) : (Option (Bool × Unit)) :=
  (bif (decide ((2 : Int) ≤ x0)) then
    (some ((decide (x0 ≤ (20 : Int))), ()))
    else
    (some (false, ())))
theorem run42 (x0 : Int) : runF (P := Try.prog) [] Try.f42 ann42 [(0, (.i .i64))] [] .b [] (x0, ()) () = go42 x0 := by kernel_rfl
def ann78 : Ann := (.seq .o (.seq .o .o))
def go78 (x0 : Int) : (Option (Int × Unit)) :=
  (some ((if ((64 : Int) < (if ((0 : Int) > x0) then (0 : Int) else x0)) then (64 : Int) else (if ((0 : Int) > x0) then (0 : Int) else x0)), ()))
theorem run78 (x0 : Int) : runF (P := Try.prog) [] Try.f78 ann78 [(0, (.i .i64))] [] (.i .i64) [] (x0, ()) () = go78 x0 := by kernel_rfl
def ann79 : Ann := (.seq .o (.seq .o (.join ⟨[(3, (.i .u64))], []⟩ (.seq .o (.block (.loop ⟨[(0, (.fz (.int .i64))), (3, (.i .u64)), (4, (.i .i64))], []⟩ [((.exit 0), ⟨[(3, (.i .u64))], []⟩)] (.join ⟨[(0, (.fz (.int .i64))), (3, (.i .u64)), (4, (.i .i64))], []⟩ (.seq .o (.cond .o .o)) (.join ⟨[(0, (.fz (.int .i64))), (3, (.i .u64)), (4, (.i .i64))], []⟩ (.block .o) .o))))) (.seq .o .o))))
def go79_l1 : (((List Int) × (Int × (Int × Unit))) × Unit) → Option ((((List Int) × (Int × (Int × Unit))) × Unit) ⊕ ((Int × Unit) × Unit)) := (fun (r0 : (((List Int) × (Int × (Int × Unit))) × Unit)) => (bif (decide ((0 : Int) ≤ r0.1.2.2.1)) then
      (grd (okB (((0 : Int) ≤ r0.1.2.2.1) ∧ (r0.1.2.2.1 < ((r0.1.1.length : Nat) : Int))))
        (grd (okB (((-(9223372036854775808 : Int)) ≤ (r0.1.2.2.1 - (1 : Int))) ∧ ((r0.1.2.2.1 - (1 : Int)) ≤ (9223372036854775807 : Int))))
          (some (Sum.inl ((r0.1.1, ((Go.IntKind.wrap Go.IntKind.u64 ((Go.IntKind.wrap Go.IntKind.u64 ((2 : Int) * r0.1.2.1)) + (Go.IntKind.wrap Go.IntKind.u64 (r0.1.1.getD r0.1.2.2.1.toNat (0 : Int))))), ((r0.1.2.2.1 - (1 : Int)), ()))), ())))))
      else
      (some (Sum.inr ((r0.1.2.1, ()), ())))))
def go79 (x0 : (List Int)) : (Option (Int × Unit)) :=
  (grd (okB (((-(9223372036854775808 : Int)) ≤ (((x0.length : Nat) : Int) - (1 : Int))) ∧ ((((x0.length : Nat) : Int) - (1 : Int)) ≤ (9223372036854775807 : Int))))
    (callB (whileO (go79_l1) ((x0, ((0 : Int), ((((x0.length : Nat) : Int) - (1 : Int)), ()))), ()))
      (fun (z0 : ((Int × Unit) × Unit)) => (some (z0.1.1, ())))))
theorem run79 (x0 : (List Int)) : runF (P := Try.prog) [] Try.f79 ann79 [(0, (.fz (.int .i64)))] [] (.i .u64) [] (x0, ()) () = go79 x0 := by kernel_rfl
def Sp.isBinary (op : Int) : Bool := decide (2 ≤ op) && decide (op ≤ 20)
theorem ok42 (op : Int) : go42 op = some (Sp.isBinary op, ()) := by
  unfold go42 Sp.isBinary
  by_cases h : 2 ≤ op <;> simp [h]
def c42 : Ctr Try.prog := mkCtr 42 Try.f42 Try.func42 [] ann42 [(0, (.i .i64))] [] .b [] (fun x _ => some (Sp.isBinary x.1, ())) (fun x _ r h => FE (run42 x.1) (ok42 x.1) h)
def Sp.right (w : Int) : Bool := decide (1 ≤ w) && decide (w ≤ 64)
def Sp.within (f : Fn) (v : Int) : Bool := decide (0 ≤ v) && decide (v < f.widths.length)
abbrev Fn.blk (f : Fn) (i : Nat) : Block := f.blocks.getD i Block.z
def Sp.instSum (l : List Block) : Nat → Int
  | 0 => 0
  | i + 1 => IntKind.i64.wrap (Sp.instSum l i + ((l.getD i Block.z).insts.length : Int))
def Fn.two (f : Fn) : Prop := ∀ i, i < f.blocks.length → (f.blk i).term.kind = 2 → (f.blk i).term.to.length = 2
def Sp.width (w : Int) : Int := if 64 < (if w < 0 then 0 else w) then 64 else (if w < 0 then 0 else w)
theorem width_le (w : Int) : 0 ≤ Sp.width w ∧ Sp.width w ≤ 64 := by unfold Sp.width; split <;> split <;> omega
theorem ok78 (w : Int) : go78 w = some (Sp.width w, ()) := by unfold go78 Sp.width; rfl
def c78 : Ctr Try.prog := mkCtr 78 Try.f78 Try.func78 [] ann78 [(0, (.i .i64))] [] (.i .i64) [] (fun x _ => some (Sp.width x.1, ())) (fun x _ r h => FE (run78 x.1) (ok78 x.1) h)
def Sp.wd (l : List Int) : Nat → Int
  | 0 => 0
  | k + 1 => IntKind.u64.wrap (IntKind.u64.wrap (2 * Sp.wd l k) + IntKind.u64.wrap (l.getD (l.length - 1 - k) 0))
theorem ok79 (l : List Int) (hl : l.length ≤ LEN) : go79 l = some (Sp.wd l l.length, ()) := by
  rw [lenVal] at hl
  unfold go79 go79_l1
  simp (maxSteps := 1000000) (disch := ((try dsimp only); omega)) only [↓grd_dec, ↓grd_blt, ↓grd_true, ↓jpO_eq, ↓callB_some, ↓callB_grd, ↓bif_decide, ↓sumO_inl, ↓sumO_inr, ↓if_pos, ↓if_neg, ↓cond_true, ↓cond_false, ↓bif_not, Int.toNat_natCast, Bool.not_true, Bool.not_false, decide_true, decide_false, Bool.false_eq_true, ↓if_true, ↓if_false, Int.natCast_add, Int.cast_ofNat_Int, Bool.not_eq_true', decide_eq_false_iff_not, not_true_eq_false, not_false_eq_true]
  refine callB_of (whileO_to (st := fun k => ((l, Sp.wd l k, (l.length : Int) - 1 - k, ()), ())) (by simp [Sp.wd]) l.length (X0 := ((Sp.wd l l.length, ()), ())) (fun k hk => ?_) ?_) ?_
  · have e : l.length - 1 - k = ((l.length : Int) - 1 - k).toNat := by omega
    have e2 : (l.length : Int) - 1 - ((k + 1 : Nat) : Int) = (l.length : Int) - 1 - k - 1 := by omega
    simp (maxSteps := 1000000) (disch := ((try dsimp only); omega)) only [↓grd_dec, ↓grd_blt, ↓grd_true, ↓jpO_eq, ↓callB_some, ↓callB_grd, ↓bif_decide, ↓sumO_inl, ↓sumO_inr, ↓if_pos, ↓if_neg, ↓cond_true, ↓cond_false, ↓bif_not, Int.toNat_natCast, Bool.not_true, Bool.not_false, decide_true, decide_false, Bool.false_eq_true, ↓if_true, ↓if_false, Int.natCast_add, Int.cast_ofNat_Int, Bool.not_eq_true', decide_eq_false_iff_not, not_true_eq_false, not_false_eq_true]
    simp only [Sp.wd, e]
    rw [← e2]
    rfl
  · simp (maxSteps := 1000000) (disch := ((try dsimp only); omega)) only [↓grd_dec, ↓grd_blt, ↓grd_true, ↓jpO_eq, ↓callB_some, ↓callB_grd, ↓bif_decide, ↓sumO_inl, ↓sumO_inr, ↓if_pos, ↓if_neg, ↓cond_true, ↓cond_false, ↓bif_not, Int.toNat_natCast, Bool.not_true, Bool.not_false, decide_true, decide_false, Bool.false_eq_true, ↓if_true, ↓if_false, Int.natCast_add, Int.cast_ofNat_Int, Bool.not_eq_true', decide_eq_false_iff_not, not_true_eq_false, not_false_eq_true]
  · rfl
def c79 : Ctr Try.prog := mkCtr 79 Try.f79 Try.func79 [] ann79 [(0, (.fz (.int .i64)))] [] (.i .u64) [] (fun x _ => grd (okB (x.1.length ≤ LEN)) (some (Sp.wd x.1 x.1.length, ()))) (fun x _ r h => FO (run79 x.1) (ok79 x.1) h)
end
end Go.Abs


set_option linter.unusedVariables false
set_option linter.unusedSectionVars false
set_option linter.unusedSimpArgs false
set_option maxHeartbeats 1000000
namespace Go.Abs
open Go Go.Proofs
noncomputable section
def ann76 : Ann := (.seq .o (.seq .o (.join ⟨[(5, (.full 0))], [(.lst 3 (.int .i64))]⟩ (.seq .o (.block (.loop ⟨[(0, (.i .i64)), (1, (.i .u64)), (5, (.full 0)), (6, (.i .i64))], [(.lst 3 (.int .i64))]⟩ [((.exit 0), ⟨[(5, (.full 0))], [(.lst 3 (.int .i64))]⟩)] (.join ⟨[(0, (.i .i64)), (1, (.i .u64)), (5, (.full 0)), (6, (.i .i64))], [(.lst 3 (.int .i64))]⟩ (.seq .o (.cond .o .o)) (.join ⟨[(0, (.i .i64)), (1, (.i .u64)), (5, (.full 0)), (6, (.i .i64))], [(.lst 3 (.int .i64))]⟩ (.block (.seq .o .o)) .o))))) (.seq .o .o))))
def go76_l1 : ((Int × (Int × (Unit × (Int × Unit)))) × ((List Int) × Unit)) → Option (((Int × (Int × (Unit × (Int × Unit)))) × ((List Int) × Unit)) ⊕ ((Unit × Unit) × ((List Int) × Unit))) := (fun (r0 : ((Int × (Int × (Unit × (Int × Unit)))) × ((List Int) × Unit))) => (bif (decide (r0.1.2.2.2.1 < (Sp.width r0.1.1))) then
      (grd (okB ((((r0.2.1.length + 1) * (8 : Nat)) ≤ (140737488355328 : Nat)) ∧ ((r0.2.1.length + 1) ≤ (281474976710656 : Nat))))
        (grd (okB (((-(9223372036854775808 : Int)) ≤ (r0.1.2.2.2.1 + (1 : Int))) ∧ ((r0.1.2.2.2.1 + (1 : Int)) ≤ (9223372036854775807 : Int))))
          (some (Sum.inl ((r0.1.1, ((Go.IntKind.wrap Go.IntKind.u64 (Int.tdiv r0.1.2.1 (2 : Int))), ((), ((r0.1.2.2.2.1 + (1 : Int)), ())))), ((r0.2.1 ++ ((Go.IntKind.wrap Go.IntKind.i64 (Int.tmod r0.1.2.1 (2 : Int))) :: ([] : List Int))), ()))))))
      else
      (some (Sum.inr (((), ()), (r0.2.1, ()))))))
def go76 (x0 : Int) (x1 : Int) : (Option ((List Int) × Unit)) :=
  (callB (whileO (go76_l1) ((x0, (x1, ((), ((0 : Int), ())))), (([] : List Int), ())))
    (fun (z0 : ((Unit × Unit) × ((List Int) × Unit))) => (some (z0.2.1, ()))))
theorem run76 (x0 : Int) (x1 : Int) : runF (P := Try.prog) [c78] Try.f76 ann76 [(0, (.i .i64)), (1, (.i .u64))] [] (.fz (.int .i64)) [] (x0, (x1, ())) () = go76 x0 x1 := by kernel_rfl
def Sp.arity (op : Int) : Int :=
  if op = 1 then 0 else if Sp.isBinary op || decide (op = 25) || decide (op = 28) then 2 else if op = 21 ∨ op = 26 then 3 else if op = 22 ∨ op = 23 ∨ op = 24 ∨ op = 27 then 1 else -1
def Sp.widths (l : List Int) (most : Int) : Bool := l.all Sp.right && decide ((l.length : Int) ≤ most)
def Sp.half (x : Int) : Nat → Int
  | 0 => x
  | k + 1 => IntKind.u64.wrap ((Sp.half x k).tdiv 2)
def Sp.bitsL (x : Int) (n : Nat) : List Int := (List.range n).map fun k => (Sp.half x k).tmod 2
theorem bitsL_succ (x : Int) (n : Nat) : Sp.bitsL x (n + 1) = Sp.bitsL x n ++ [(Sp.half x n).tmod 2] := by simp [Sp.bitsL, List.range_succ]
theorem bitsL_len (x : Int) (n : Nat) : (Sp.bitsL x n).length = n := by simp [Sp.bitsL]
theorem tmod2 (a : Int) : -2 < a.tmod 2 ∧ a.tmod 2 < 2 := ⟨Int.lt_tmod_of_pos a (by decide), Int.tmod_lt_of_pos a (by decide)⟩
theorem ok76 (w x : Int) : go76 w x = some (Sp.bitsL x (Sp.width w).toNat, ()) := by
  have hw := width_le w
  unfold go76 go76_l1
  refine callB_of (whileO_to (st := fun i => ((w, Sp.half x i, (), (i : Int), ()), Sp.bitsL x i, ())) rfl (Sp.width w).toNat (X0 := (((), ()), (Sp.bitsL x (Sp.width w).toNat, ()))) (fun i hi => ?_) ?_) ?_
  · have hl := bitsL_len x i
    have h2 := tmod2 (Sp.half x i)
    simp (maxSteps := 1000000) (disch := ((try dsimp only); omega)) only [↓grd_dec, ↓grd_blt, ↓grd_true, ↓jpO_eq, ↓callB_some, ↓callB_grd, ↓bif_decide, ↓sumO_inl, ↓sumO_inr, ↓if_pos, ↓if_neg, ↓cond_true, ↓cond_false, ↓bif_not, Int.toNat_natCast, Bool.not_true, Bool.not_false, decide_true, decide_false, Bool.false_eq_true, ↓if_true, ↓if_false, Int.natCast_add, Int.cast_ofNat_Int, Bool.not_eq_true', decide_eq_false_iff_not, not_true_eq_false, not_false_eq_true]
    rw [wrap_in (by omega) (by omega), bitsL_succ]
    rfl
  · simp (maxSteps := 1000000) (disch := ((try dsimp only); omega)) only [↓grd_dec, ↓grd_blt, ↓grd_true, ↓jpO_eq, ↓callB_some, ↓callB_grd, ↓bif_decide, ↓sumO_inl, ↓sumO_inr, ↓if_pos, ↓if_neg, ↓cond_true, ↓cond_false, ↓bif_not, Int.toNat_natCast, Bool.not_true, Bool.not_false, decide_true, decide_false, Bool.false_eq_true, ↓if_true, ↓if_false, Int.natCast_add, Int.cast_ofNat_Int, Bool.not_eq_true', decide_eq_false_iff_not, not_true_eq_false, not_false_eq_true]
  · rfl
def c76 : Ctr Try.prog := mkCtr 76 Try.f76 Try.func76 [c78] ann76 [(0, (.i .i64)), (1, (.i .u64))] [] (.fz (.int .i64)) [] (fun x _ => some (Sp.bitsL x.2.1 (Sp.width x.1).toNat, ())) (fun x _ r h => FE (run76 x.1 x.2.1) (ok76 x.1 x.2.1) h)
end
end Go.Abs


set_option linter.unusedVariables false
set_option linter.unusedSectionVars false
set_option linter.unusedSimpArgs false
set_option maxHeartbeats 1000000
namespace Go.Abs
open Go Go.Proofs
noncomputable section
def ann93 : Ann := (.seq .o (.seq .o .o))
def go93 (x0 : Int) (x1 : Int) : (Option (Int × Unit)) :=
  (callB (grd (okB ((Sp.bitsL x1 (Sp.width x0).toNat).length ≤ LEN))
      (some ((Sp.wd (Sp.bitsL x1 (Sp.width x0).toNat) (Sp.bitsL x1 (Sp.width x0).toNat).length), ())))
    (fun (r0 : (Int × Unit)) => (some (r0.1, ()))))
theorem run93 (x0 : Int) (x1 : Int) : runF (P := Try.prog) [c76, c79] Try.f93 ann93 [(0, (.i .i64)), (1, (.i .u64))] [] (.i .u64) [] (x0, (x1, ())) () = go93 x0 x1 := by kernel_rfl
def Sp.result (op : Int) : Bool := decide (0 ≤ Sp.arity op) && !decide (op = 26) && !decide (op = 28)
def Sp.fit (w x : Int) : Int := Sp.wd (Sp.bitsL x (Sp.width w).toNat) (Sp.bitsL x (Sp.width w).toNat).length
theorem ok93 (w x : Int) : go93 w x = some (Sp.fit w x, ()) := by
  have hw := width_le w
  have hlen : (Sp.bitsL x (Sp.width w).toNat).length ≤ LEN := by rw [bitsL_len]; simp only [LEN]; omega
  unfold go93
  rw [grd_ok hlen]; rfl
def c93 : Ctr Try.prog := mkCtr 93 Try.f93 Try.func93 [c76, c79] ann93 [(0, (.i .i64)), (1, (.i .u64))] [] (.i .u64) [] (fun x _ => some (Sp.fit x.1 x.2.1, ())) (fun x _ r h => FE (run93 x.1 x.2.1) (ok93 x.1 x.2.1) h)
end
end Go.Abs


set_option linter.unusedVariables false
set_option linter.unusedSectionVars false
set_option linter.unusedSimpArgs false
set_option maxHeartbeats 1000000
namespace Go.Abs
open Go Go.Proofs
noncomputable section
def ann149 : Ann := (.seq .o (.seq .o .o))
def go149 (x0 : Int) : (Option (Int × Unit)) :=
  (some ((if ((64 : Int) < (if ((0 : Int) > x0) then (0 : Int) else x0)) then (64 : Int) else (if ((0 : Int) > x0) then (0 : Int) else x0)), ()))
theorem run149 (x0 : Int) : runF (P := Try.prog) [] Try.f149 ann149 [(0, (.i .i64))] [] (.i .i64) [] (x0, ()) () = go149 x0 := by kernel_rfl
def ann130 : Ann := (.seq .o (.join ⟨[], []⟩ (.seq .o (.cond (.seq .o .o) .o)) (.seq .o .o)))
def go130 (x0 : Bool) : (Option (Int × Unit)) :=
  (bif x0 then
    (some ((1 : Int), ()))
    else
    (some ((0 : Int), ())))
theorem run130 (x0 : Bool) : runF (P := Try.prog) [] Try.f130 ann130 [(0, .b)] [] (.i .u64) [] (x0, ()) () = go130 x0 := by kernel_rfl
def Sp.wn (w : Int) : Nat := (Sp.width w).toNat
theorem wn_le (w : Int) : Sp.wn w ≤ 64 := by have := width_le w; unfold Sp.wn; omega
theorem wn_eq (w : Int) : (Sp.wn w : Int) = Sp.width w := by have := width_le w; unfold Sp.wn; omega
def Sp.pw (n : Nat) : Int := ((2 ^ n : Nat) : Int)
theorem pw_pos (n : Nat) : 0 < Sp.pw n := by unfold Sp.pw; exact Int.natCast_pos.2 (Nat.two_pow_pos n)
theorem pw_le {n : Nat} (h : n ≤ 64) : Sp.pw n ≤ 18446744073709551616 := by
  unfold Sp.pw
  have : 2 ^ n ≤ 2 ^ 64 := Nat.pow_le_pow_right (by decide) h
  omega
theorem pw_succ (n : Nat) : Sp.pw (n + 1) = 2 * Sp.pw n := by unfold Sp.pw; rw [Nat.pow_succ]; omega
theorem pw_add (n m : Nat) : Sp.pw (n + m) = Sp.pw n * Sp.pw m := by unfold Sp.pw; rw [Nat.pow_add]; exact Int.natCast_mul _ _
theorem pw_eq (n : Nat) : (2 : Int) ^ n = Sp.pw n := by unfold Sp.pw; exact (Int.natCast_pow 2 n).symm
def Sp.low (w x : Int) : Int := x % Sp.pw (Sp.wn w)
theorem low_range (w x : Int) : 0 ≤ Sp.low w x ∧ Sp.low w x < Sp.pw (Sp.wn w) := ⟨Int.emod_nonneg _ (by have := pw_pos (Sp.wn w); omega), Int.emod_lt_of_pos _ (pw_pos _)⟩
theorem low_u64 (w x : Int) : U64 (Sp.low w x) := by have := low_range w x; have := pw_le (wn_le w); exact ⟨by omega, by omega⟩
theorem low_low (w x : Int) : Sp.low w (Sp.low w x) = Sp.low w x := Int.emod_emod_of_dvd _ (Int.dvd_refl _)
theorem wrap64 (n : Int) : IntKind.u64.wrap n = n % 18446744073709551616 := IntKind.wrap_u64 n
theorem low_wrap (w x : Int) : Sp.low w (IntKind.u64.wrap x) = Sp.low w x := by
  rw [wrap64]
  refine Int.emod_emod_of_dvd _ ?_
  have h := pw_add (Sp.wn w) (64 - Sp.wn w)
  rw [Nat.add_sub_cancel' (wn_le w)] at h
  exact ⟨_, h⟩
def Sp.sg (w x : Int) : Int := if Sp.pw (Sp.wn w) ≤ 2 * Sp.low w x ∧ Sp.wn w ≠ 0 then Sp.low w x - Sp.pw (Sp.wn w) else Sp.low w x
theorem sg_range (w x : Int) : -9223372036854775808 ≤ Sp.sg w x ∧ Sp.sg w x ≤ 9223372036854775807 := by
  have h1 := low_range w x
  have h2 := pw_le (wn_le w)
  unfold Sp.sg
  split
  · omega
  · rename_i h
    by_cases h0 : Sp.wn w = 0
    · rw [h0] at h1; simp [Sp.pw] at h1; omega
    · have : ¬ Sp.pw (Sp.wn w) ≤ 2 * Sp.low w x := fun e => h ⟨e, h0⟩
      omega
theorem and_u64 {a b : Int} (ha : U64 a) (hb : U64 b) : bitOp .and .u64 a b = ((a.toNat &&& b.toNat : Nat) : Int) := by
  obtain ⟨m, rfl⟩ := Int.eq_ofNat_of_zero_le ha.1
  obtain ⟨n, rfl⟩ := Int.eq_ofNat_of_zero_le hb.1
  have h1 : m < 18446744073709551616 := by have := ha.2; omega
  have h2 : n < 18446744073709551616 := by have := hb.2; omega
  have h3 : m &&& n ≤ m := Nat.and_le_left
  show IntKind.u64.wrap (((BitVec.ofInt 64 (m : Int) &&& BitVec.ofInt 64 (n : Int) : BitVec 64).toNat : Nat) : Int) = _
  rw [BitVec.toNat_and, ofInt_u64 m h1, ofInt_u64 n h2, wrap64, Int.toNat_natCast, Int.toNat_natCast]
  omega
theorem or_lt {m n k : Nat} (h1 : m < 2 ^ k) (h2 : n < 2 ^ k) : m ||| n < 2 ^ k := Nat.or_lt_two_pow h1 h2
theorem or_u64 {a b : Int} (ha : U64 a) (hb : U64 b) : bitOp .or .u64 a b = ((a.toNat ||| b.toNat : Nat) : Int) := by
  obtain ⟨m, rfl⟩ := Int.eq_ofNat_of_zero_le ha.1
  obtain ⟨n, rfl⟩ := Int.eq_ofNat_of_zero_le hb.1
  have h1 : m < 18446744073709551616 := by have := ha.2; omega
  have h2 : n < 18446744073709551616 := by have := hb.2; omega
  have h3 : m ||| n < 2 ^ 64 := or_lt h1 h2
  show IntKind.u64.wrap (((BitVec.ofInt 64 (m : Int) ||| BitVec.ofInt 64 (n : Int) : BitVec 64).toNat : Nat) : Int) = _
  rw [BitVec.toNat_or, ofInt_u64 m h1, ofInt_u64 n h2, wrap64, Int.toNat_natCast, Int.toNat_natCast]
  omega
theorem xor_u64 {a b : Int} (ha : U64 a) (hb : U64 b) : bitOp .xor .u64 a b = ((a.toNat ^^^ b.toNat : Nat) : Int) := by
  obtain ⟨m, rfl⟩ := Int.eq_ofNat_of_zero_le ha.1
  obtain ⟨n, rfl⟩ := Int.eq_ofNat_of_zero_le hb.1
  have h1 : m < 18446744073709551616 := by have := ha.2; omega
  have h2 : n < 18446744073709551616 := by have := hb.2; omega
  have h3 : m ^^^ n < 2 ^ 64 := Nat.xor_lt_two_pow h1 h2
  show IntKind.u64.wrap (((BitVec.ofInt 64 (m : Int) ^^^ BitVec.ofInt 64 (n : Int) : BitVec 64).toNat : Nat) : Int) = _
  rw [BitVec.toNat_xor, ofInt_u64 m h1, ofInt_u64 n h2, wrap64, Int.toNat_natCast, Int.toNat_natCast]
  omega
theorem and_mask {a : Int} (ha : U64 a) {n : Nat} (hn : n ≤ 64) : bitOp .and .u64 a (Sp.pw n - 1) = a % Sp.pw n := by
  have h1 := pw_pos n
  have h2 := pw_le hn
  rw [and_u64 ha ⟨by omega, by omega⟩]
  obtain ⟨m, rfl⟩ := Int.eq_ofNat_of_zero_le ha.1
  have e : (Sp.pw n - 1).toNat = 2 ^ n - 1 := by unfold Sp.pw; omega
  rw [e, Int.toNat_natCast, Nat.and_two_pow_sub_one_eq_mod]
  unfold Sp.pw
  exact Int.natCast_emod _ _
theorem ok149 (w : Int) : go149 w = some (Sp.width w, ()) := by unfold go149 Sp.width; rfl
def c149 : Ctr Try.prog := mkCtr 149 Try.f149 Try.func149 [] ann149 [(0, (.i .i64))] [] (.i .i64) [] (fun x _ => some (Sp.width x.1, ())) (fun x _ r h => FE (run149 x.1) (ok149 x.1) h)
def Sp.one (b : Bool) : Int := bif b then 1 else 0
theorem ok130 (b : Bool) : go130 b = some (Sp.one b, ()) := by unfold go130 Sp.one; cases b <;> rfl
def c130 : Ctr Try.prog := mkCtr 130 Try.f130 Try.func130 [] ann130 [(0, .b)] [] (.i .u64) [] (fun x _ => some (Sp.one x.1, ())) (fun x _ r h => FE (run130 x.1) (ok130 x.1) h)
end
end Go.Abs


set_option linter.unusedVariables false
set_option linter.unusedSectionVars false
set_option linter.unusedSimpArgs false
set_option maxHeartbeats 1000000
namespace Go.Abs
open Go Go.Proofs
noncomputable section
def ann127 : Ann := (.seq .o (.join ⟨[(0, (.i .i64))], []⟩ (.seq .o (.seq .o (.cond (.seq .o .o) .o))) (.seq .o .o)))
def go127 (x0 : Int) : (Option (Int × Unit)) :=
  (bif (decide ((Sp.width x0) = (0 : Int))) then
    (some ((0 : Int), ()))
    else
    (grd (okB (((-(9223372036854775808 : Int)) ≤ ((64 : Int) - (Sp.width x0))) ∧ (((64 : Int) - (Sp.width x0)) ≤ (9223372036854775807 : Int))))
      (grd (okB ((0 : Int) ≤ ((64 : Int) - (Sp.width x0))))
        (some ((Int.fdiv (18446744073709551615 : Int) (@HPow.hPow Int Nat Int _ (2 : Int) (@Min.min Nat _ ((64 : Int) - (Sp.width x0)).toNat (Go.IntKind.bits Go.IntKind.u64)))), ())))))
theorem run127 (x0 : Int) : runF (P := Try.prog) [c149] Try.f127 ann127 [(0, (.i .i64))] [] (.i .u64) [] (x0, ()) () = go127 x0 := by kernel_rfl
def ann129 : Ann := (.seq .o (.seq .o (.seq .o .o)))
def go129 (x0 : Int) (x1 : Int) : (Option (Bool × Unit)) :=
  (bif (decide ((0 : Int) < (Sp.width x0))) then
    (grd (okB (((-(9223372036854775808 : Int)) ≤ ((Sp.width x0) - (1 : Int))) ∧ (((Sp.width x0) - (1 : Int)) ≤ (9223372036854775807 : Int))))
      (grd (okB ((0 : Int) ≤ ((Sp.width x0) - (1 : Int))))
        (some ((decide ((bitOp Go.BinOp.and Go.IntKind.u64 (Int.fdiv x1 (@HPow.hPow Int Nat Int _ (2 : Int) (@Min.min Nat _ ((Sp.width x0) - (1 : Int)).toNat (Go.IntKind.bits Go.IntKind.u64)))) (1 : Int)) = (1 : Int))), ()))))
    else
    (some (false, ())))
theorem run129 (x0 : Int) (x1 : Int) : runF (P := Try.prog) [c149] Try.f129 ann129 [(0, (.i .i64)), (1, (.i .u64))] [] .b [] (x0, (x1, ())) () = go129 x0 x1 := by kernel_rfl
theorem fdiv_pos {a b : Int} (h : 0 < b) : Int.fdiv a b = a / b := Int.fdiv_eq_ediv_of_nonneg a (by omega)
theorem shift_min {z : Int} (h1 : 0 ≤ z) (h2 : z ≤ 64) : min z.toNat (IntKind.bits .u64) = z.toNat := by
  show min z.toNat 64 = z.toNat
  omega
def Sp.mask (w : Int) : Int := Sp.pw (Sp.wn w) - 1
theorem mask_u64 (w : Int) : U64 (Sp.mask w) := by
  have := pw_pos (Sp.wn w); have := pw_le (wn_le w); unfold Sp.mask; exact ⟨by omega, by omega⟩
theorem ok127 (w : Int) : go127 w = some (Sp.mask w, ()) := by
  have hw := width_le w
  have hn := wn_eq w
  unfold go127 Sp.mask
  by_cases h : Sp.width w = 0
  · have : Sp.wn w = 0 := by omega
    rw [decide_eq_true h, this]; rfl
  · simp (maxSteps := 1000000) (disch := ((try dsimp only); omega)) only [↓grd_dec, ↓grd_blt, ↓grd_true, ↓jpO_eq, ↓callB_some, ↓callB_grd, ↓bif_decide, ↓sumO_inl, ↓sumO_inr, ↓if_pos, ↓if_neg, ↓cond_true, ↓cond_false, ↓bif_not, Int.toNat_natCast, Bool.not_true, Bool.not_false, decide_true, decide_false, Bool.false_eq_true, ↓if_true, ↓if_false, Int.natCast_add, Int.cast_ofNat_Int, Bool.not_eq_true', decide_eq_false_iff_not, not_true_eq_false, not_false_eq_true]
    have e := pw_add (Sp.wn w) (64 - Sp.wn w)
    rw [Nat.add_sub_cancel' (wn_le w)] at e
    have e2 : (64 - Sp.width w).toNat = 64 - Sp.wn w := by omega
    rw [shift_min (by omega) (by omega), e2, pw_eq, fdiv_pos (pw_pos _)]
    have hB := pw_pos (64 - Sp.wn w)
    have e3 : (18446744073709551615 : Int) = (Sp.pw (64 - Sp.wn w) - 1) + (Sp.pw (Sp.wn w) - 1) * Sp.pw (64 - Sp.wn w) := by
      rw [Int.sub_mul, ← e]
      have : Sp.pw 64 = 18446744073709551616 := by unfold Sp.pw; rfl
      omega
    rw [e3, Int.add_mul_ediv_right _ _ (by omega), Int.ediv_eq_zero_of_lt (by omega) (by omega)]
    simp
def c127 : Ctr Try.prog := mkCtr 127 Try.f127 Try.func127 [c149] ann127 [(0, (.i .i64))] [] (.i .u64) [] (fun x _ => some (Sp.mask x.1, ())) (fun x _ r h => FE (run127 x.1) (ok127 x.1) h)
def Sp.neg (w x : Int) : Bool := decide (Sp.pw (Sp.wn w) ≤ 2 * Sp.low w x ∧ Sp.wn w ≠ 0)
theorem top_bit {m n : Nat} : (m / 2 ^ n) % 2 = 1 ↔ 2 ^ (n + 1) ≤ 2 * (m % 2 ^ (n + 1)) := by
  have h := Nat.mod_mul (x := m) (a := 2 ^ n) (b := 2)
  rw [← Nat.pow_succ] at h
  have h1 : m % 2 ^ n < 2 ^ n := Nat.mod_lt _ (Nat.two_pow_pos n)
  have h2 : 2 ^ (n + 1) = 2 * 2 ^ n := by rw [Nat.pow_succ]; omega
  rcases Nat.mod_two_eq_zero_or_one (m / 2 ^ n) with h3 | h3
  · rw [h3] at h ⊢; rw [h]; omega
  · rw [h3] at h ⊢; rw [h]; omega
theorem ok129 (w x : Int) (hx : U64 x) : go129 w x = some (Sp.neg w x, ()) := by
  have hw := width_le w
  have hn := wn_eq w
  unfold go129 Sp.neg
  by_cases h : 0 < Sp.width w
  · simp (maxSteps := 1000000) (disch := ((try dsimp only); omega)) only [↓grd_dec, ↓grd_blt, ↓grd_true, ↓jpO_eq, ↓callB_some, ↓callB_grd, ↓bif_decide, ↓sumO_inl, ↓sumO_inr, ↓if_pos, ↓if_neg, ↓cond_true, ↓cond_false, ↓bif_not, Int.toNat_natCast, Bool.not_true, Bool.not_false, decide_true, decide_false, Bool.false_eq_true, ↓if_true, ↓if_false, Int.natCast_add, Int.cast_ofNat_Int, Bool.not_eq_true', decide_eq_false_iff_not, not_true_eq_false, not_false_eq_true]
    obtain ⟨m, rfl⟩ := Int.eq_ofNat_of_zero_le hx.1
    have e2 : (Sp.width w - 1).toNat = Sp.wn w - 1 := by omega
    have e3 : (1 : Int) = Sp.pw 1 - 1 := by rfl
    have e4 : (m : Int) / Sp.pw (Sp.wn w - 1) = ((m / 2 ^ (Sp.wn w - 1) : Nat) : Int) := by unfold Sp.pw; exact (Int.natCast_ediv _ _).symm
    have e5 : m / 2 ^ (Sp.wn w - 1) ≤ m := Nat.div_le_self _ _
    have hm : (m : Int) ≤ 18446744073709551615 := hx.2
    have e6 : Sp.wn w - 1 + 1 = Sp.wn w := by omega
    have tb := top_bit (m := m) (n := Sp.wn w - 1)
    rw [e6] at tb
    rw [shift_min (by omega) (by omega), e2, pw_eq, fdiv_pos (pw_pos _), e4]
    clear e4
    generalize m / 2 ^ (Sp.wn w - 1) = q at *
    have e7 := and_mask (a := ((q : Nat) : Int)) ⟨by omega, by omega⟩ (n := 1) (by decide)
    rw [← e3] at e7
    rw [e7]
    have e8 : Sp.low w (m : Int) = ((m % 2 ^ (Sp.wn w) : Nat) : Int) := by unfold Sp.low Sp.pw; exact (Int.natCast_emod _ _).symm
    rw [e8]
    congr 2
    refine decide_eq_decide.2 ?_
    have e9 : Sp.pw 1 = 2 := rfl
    rw [e9]
    have e10 : Sp.pw (Sp.wn w) = ((2 ^ Sp.wn w : Nat) : Int) := rfl
    rw [e10]
    generalize 2 ^ Sp.wn w = p at *
    generalize m % p = y at *
    omega
  · rw [decide_eq_false h]
    have : Sp.wn w = 0 := by omega
    simp [this]
def c129 : Ctr Try.prog := mkCtr 129 Try.f129 Try.func129 [c149] ann129 [(0, (.i .i64)), (1, (.i .u64))] [] .b [] (fun x _ => grd (okB (U64 x.2.1)) (some (Sp.neg x.1 x.2.1, ()))) (fun x _ r h => FO (run129 x.1 x.2.1) (ok129 x.1 x.2.1) h)
end
end Go.Abs


set_option linter.unusedVariables false
set_option linter.unusedSectionVars false
set_option linter.unusedSimpArgs false
set_option maxHeartbeats 1000000
namespace Go.Abs
open Go Go.Proofs
noncomputable section
def ann103 : Ann := (.seq .o (.seq .o .o))
def go103 (x0 : Int) (x1 : Int) : (Option (Int × Unit)) :=
  (some ((bitOp Go.BinOp.and Go.IntKind.u64 x1 (Sp.mask x0)), ()))
theorem run103 (x0 : Int) (x1 : Int) : runF (P := Try.prog) [c127] Try.f103 ann103 [(0, (.i .i64)), (1, (.i .u64))] [] (.i .u64) [] (x0, (x1, ())) () = go103 x0 x1 := by kernel_rfl
theorem ok103 (w x : Int) (hx : U64 x) : go103 w x = some (Sp.low w x, ()) := by
  unfold go103
  rw [show Sp.mask w = Sp.pw (Sp.wn w) - 1 from rfl, and_mask hx (wn_le w)]
  rfl
def c103 : Ctr Try.prog := mkCtr 103 Try.f103 Try.func103 [c127] ann103 [(0, (.i .i64)), (1, (.i .u64))] [] (.i .u64) [] (fun x _ => grd (okB (U64 x.2.1)) (some (Sp.low x.1 x.2.1, ()))) (fun x _ r h => FO (run103 x.1 x.2.1) (ok103 x.1 x.2.1) h)
end
end Go.Abs

