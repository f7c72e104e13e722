/-
Texts of the proof, part 7: Tc Su Sd.
No statement of the program is proved here.
-/
import Derived.Test.YtlcholjffgaemaaM6
set_option linter.unusedVariables false
namespace Go.Abs
open Go Go.Proofs
def tyc1 : TyC := { agg := false, sz := 1, zero := some (.nilFunc) }
theorem tyc1_ok : TyC.Ok Try.prog 1 tyc1 := ⟨(fun h => inferInstance), (fun f off a s h => by cases h), (fun e s b h => by cases h), (fun x h => by cases h), (fun v h => by cases h; infer_instance)⟩
def tyc2 : TyC := { agg := false, sz := 1, desc := some (.int .i64), zero := some (.int .i64 0) }
theorem tyc2_ok : TyC.Ok Try.prog 2 tyc2 := ⟨(fun h => inferInstance), (fun f off a s h => by cases h), (fun e s b h => by cases h), (fun x h => by cases h; infer_instance), (fun v h => by cases h; infer_instance)⟩
def tyc3 : TyC := { agg := false, sz := 1, desc := some (.int .i64), zero := some (.int .i64 0) }
theorem tyc3_ok : TyC.Ok Try.prog 3 tyc3 := ⟨(fun h => inferInstance), (fun f off a s h => by cases h), (fun e s b h => by cases h), (fun x h => by cases h; infer_instance), (fun v h => by cases h; infer_instance)⟩
def tyc4 : TyC := { agg := false, sz := 1, desc := some .bool, zero := some (.bool false) }
theorem tyc4_ok : TyC.Ok Try.prog 4 tyc4 := ⟨(fun h => inferInstance), (fun f off a s h => by cases h), (fun e s b h => by cases h), (fun x h => by cases h; infer_instance), (fun v h => by cases h; infer_instance)⟩
def tyc5 : TyC := { agg := false, sz := 1, desc := some (.int .u8), zero := some (.int .u8 0) }
theorem tyc5_ok : TyC.Ok Try.prog 5 tyc5 := ⟨(fun h => inferInstance), (fun f off a s h => by cases h), (fun e s b h => by cases h), (fun x h => by cases h; infer_instance), (fun v h => by cases h; infer_instance)⟩
def tyc6 : TyC := { agg := false, sz := 1, desc := some (.int .u8), zero := some (.int .u8 0) }
theorem tyc6_ok : TyC.Ok Try.prog 6 tyc6 := ⟨(fun h => inferInstance), (fun f off a s h => by cases h), (fun e s b h => by cases h), (fun x h => by cases h; infer_instance), (fun v h => by cases h; infer_instance)⟩
def tyc7 : TyC := { agg := true, sz := 4, fields := [(0, false, 1), (1, false, 1), (2, false, 1), (3, false, 1)], zero := some (.agg #[.int .i64 0, .int .i64 0, .bool false, .int .u8 0]) }
theorem tyc7_ok : TyC.Ok Try.prog 7 tyc7 := ⟨(fun h => inferInstance), (fldAll ⟨(inferInstance : TyField Try.prog 7 0 0 false 1), (inferInstance : TyField Try.prog 7 1 1 false 1), (inferInstance : TyField Try.prog 7 2 2 false 1), (inferInstance : TyField Try.prog 7 3 3 false 1), trivial⟩), (fun e s b h => by cases h), (fun x h => by cases h), (fun v h => by cases h; infer_instance)⟩
def tyc8 : TyC := { agg := true, sz := 4, fields := [(0, false, 1), (1, false, 1), (2, false, 1), (3, false, 1)], zero := some (.agg #[.int .i64 0, .int .i64 0, .bool false, .int .u8 0]) }
theorem tyc8_ok : TyC.Ok Try.prog 8 tyc8 := ⟨(fun h => inferInstance), (fldAll ⟨(inferInstance : TyField Try.prog 8 0 0 false 1), (inferInstance : TyField Try.prog 8 1 1 false 1), (inferInstance : TyField Try.prog 8 2 2 false 1), (inferInstance : TyField Try.prog 8 3 3 false 1), trivial⟩), (fun e s b h => by cases h), (fun x h => by cases h), (fun v h => by cases h; infer_instance)⟩
def tyc9 : TyC := { agg := false, sz := 1, desc := some .string, zero := some (.string ByteArray.empty) }
theorem tyc9_ok : TyC.Ok Try.prog 9 tyc9 := ⟨(fun h => inferInstance), (fun f off a s h => by cases h), (fun e s b h => by cases h), (fun x h => by cases h; infer_instance), (fun v h => by cases h; infer_instance)⟩
def tyc10 : TyC := { agg := false, sz := 1, desc := some .string, zero := some (.string ByteArray.empty) }
theorem tyc10_ok : TyC.Ok Try.prog 10 tyc10 := ⟨(fun h => inferInstance), (fun f off a s h => by cases h), (fun e s b h => by cases h), (fun x h => by cases h; infer_instance), (fun v h => by cases h; infer_instance)⟩
def tyc11 : TyC := { agg := false, sz := 1, desc := some .string, zero := some (.string ByteArray.empty) }
theorem tyc11_ok : TyC.Ok Try.prog 11 tyc11 := ⟨(fun h => inferInstance), (fun f off a s h => by cases h), (fun e s b h => by cases h), (fun x h => by cases h; infer_instance), (fun v h => by cases h; infer_instance)⟩
def tyc12 : TyC := { agg := false, sz := 1, desc := some (.int .u64), zero := some (.int .u64 0) }
theorem tyc12_ok : TyC.Ok Try.prog 12 tyc12 := ⟨(fun h => inferInstance), (fun f off a s h => by cases h), (fun e s b h => by cases h), (fun x h => by cases h; infer_instance), (fun v h => by cases h; infer_instance)⟩
def tyc13 : TyC := { agg := true, sz := 2, fields := [(0, false, 1), (1, false, 1)], zero := some (.agg #[.string ByteArray.empty, .int .u64 0]) }
theorem tyc13_ok : TyC.Ok Try.prog 13 tyc13 := ⟨(fun h => inferInstance), (fldAll ⟨(inferInstance : TyField Try.prog 13 0 0 false 1), (inferInstance : TyField Try.prog 13 1 1 false 1), trivial⟩), (fun e s b h => by cases h), (fun x h => by cases h), (fun v h => by cases h; infer_instance)⟩
def tyc14 : TyC := { agg := true, sz := 2, fields := [(0, false, 1), (1, false, 1)], zero := some (.agg #[.string ByteArray.empty, .int .u64 0]) }
theorem tyc14_ok : TyC.Ok Try.prog 14 tyc14 := ⟨(fun h => inferInstance), (fldAll ⟨(inferInstance : TyField Try.prog 14 0 0 false 1), (inferInstance : TyField Try.prog 14 1 1 false 1), trivial⟩), (fun e s b h => by cases h), (fun x h => by cases h), (fun v h => by cases h; infer_instance)⟩
def tyc15 : TyC := { agg := false, sz := 1, zero := some (.pointer none) }
theorem tyc15_ok : TyC.Ok Try.prog 15 tyc15 := ⟨(fun h => inferInstance), (fun f off a s h => by cases h), (fun e s b h => by cases h), (fun x h => by cases h), (fun v h => by cases h; infer_instance)⟩
def tyc16 : TyC := { agg := false, sz := 1, zero := some (.pointer none) }
theorem tyc16_ok : TyC.Ok Try.prog 16 tyc16 := ⟨(fun h => inferInstance), (fun f off a s h => by cases h), (fun e s b h => by cases h), (fun x h => by cases h), (fun v h => by cases h; infer_instance)⟩
def tyc17 : TyC := { agg := false, sz := 1, zero := some (.pointer none) }
theorem tyc17_ok : TyC.Ok Try.prog 17 tyc17 := ⟨(fun h => inferInstance), (fun f off a s h => by cases h), (fun e s b h => by cases h), (fun x h => by cases h), (fun v h => by cases h; infer_instance)⟩
def tyc18 : TyC := { agg := true, sz := 1, fields := [(0, false, 1)], zero := some (.agg #[.pointer none]) }
theorem tyc18_ok : TyC.Ok Try.prog 18 tyc18 := ⟨(fun h => inferInstance), (fldAll ⟨(inferInstance : TyField Try.prog 18 0 0 false 1), trivial⟩), (fun e s b h => by cases h), (fun x h => by cases h), (fun v h => by cases h; infer_instance)⟩
def tyc19 : TyC := { agg := true, sz := 1, fields := [(0, false, 1)], zero := some (.agg #[.pointer none]) }
theorem tyc19_ok : TyC.Ok Try.prog 19 tyc19 := ⟨(fun h => inferInstance), (fldAll ⟨(inferInstance : TyField Try.prog 19 0 0 false 1), trivial⟩), (fun e s b h => by cases h), (fun x h => by cases h), (fun v h => by cases h; infer_instance)⟩
def tyc20 : TyC := { agg := false, sz := 1, zero := some (.nilIface) }
theorem tyc20_ok : TyC.Ok Try.prog 20 tyc20 := ⟨(fun h => inferInstance), (fun f off a s h => by cases h), (fun e s b h => by cases h), (fun x h => by cases h), (fun v h => by cases h; infer_instance)⟩
def tyc21 : TyC := { agg := false, sz := 1, desc := some (.int .i32), zero := some (.int .i32 0) }
theorem tyc21_ok : TyC.Ok Try.prog 21 tyc21 := ⟨(fun h => inferInstance), (fun f off a s h => by cases h), (fun e s b h => by cases h), (fun x h => by cases h; infer_instance), (fun v h => by cases h; infer_instance)⟩
def tyc22 : TyC := { agg := false, sz := 1, zero := some (.nilFunc) }
theorem tyc22_ok : TyC.Ok Try.prog 22 tyc22 := ⟨(fun h => inferInstance), (fun f off a s h => by cases h), (fun e s b h => by cases h), (fun x h => by cases h), (fun v h => by cases h; infer_instance)⟩
def tyc23 : TyC := { agg := false, sz := 1, zero := some (.nilFunc) }
theorem tyc23_ok : TyC.Ok Try.prog 23 tyc23 := ⟨(fun h => inferInstance), (fun f off a s h => by cases h), (fun e s b h => by cases h), (fun x h => by cases h), (fun v h => by cases h; infer_instance)⟩
def tyc24 : TyC := { agg := false, sz := 1, zero := some (.nilFunc) }
theorem tyc24_ok : TyC.Ok Try.prog 24 tyc24 := ⟨(fun h => inferInstance), (fun f off a s h => by cases h), (fun e s b h => by cases h), (fun x h => by cases h), (fun v h => by cases h; infer_instance)⟩
def tyc25 : TyC := { agg := false, sz := 1, sl := some (3, 1, 8), zero := some (.slice none 0 0) }
theorem tyc25_ok : TyC.Ok Try.prog 25 tyc25 := ⟨(fun h => inferInstance), (fun f off a s h => by cases h), (fun e s b h => by cases h; infer_instance), (fun x h => by cases h), (fun v h => by cases h; infer_instance)⟩
def tyc26 : TyC := { agg := false, sz := 1, sl := some (53, 5, 48), zero := some (.slice none 0 0) }
theorem tyc26_ok : TyC.Ok Try.prog 26 tyc26 := ⟨(fun h => inferInstance), (fun f off a s h => by cases h), (fun e s b h => by cases h; infer_instance), (fun x h => by cases h), (fun v h => by cases h; infer_instance)⟩
def tyc27 : TyC := { agg := false, sz := 1, sl := some (55, 3, 32), zero := some (.slice none 0 0) }
theorem tyc27_ok : TyC.Ok Try.prog 27 tyc27 := ⟨(fun h => inferInstance), (fun f off a s h => by cases h), (fun e s b h => by cases h; infer_instance), (fun x h => by cases h), (fun v h => by cases h; infer_instance)⟩
def tyc28 : TyC := { agg := false, sz := 1, sl := some (41, 9, 136), zero := some (.slice none 0 0) }
theorem tyc28_ok : TyC.Ok Try.prog 28 tyc28 := ⟨(fun h => inferInstance), (fun f off a s h => by cases h), (fun e s b h => by cases h; infer_instance), (fun x h => by cases h), (fun v h => by cases h; infer_instance)⟩
def tyc29 : TyC := { agg := true, sz := 6, fields := [(0, false, 1), (1, false, 1), (2, false, 1), (3, false, 1), (4, false, 1), (5, false, 1)], zero := some (.agg #[.string ByteArray.empty, .slice none 0 0, .slice none 0 0, .slice none 0 0, .slice none 0 0, .slice none 0 0]) }
theorem tyc29_ok : TyC.Ok Try.prog 29 tyc29 := ⟨(fun h => inferInstance), (fldAll ⟨(inferInstance : TyField Try.prog 29 0 0 false 1), (inferInstance : TyField Try.prog 29 1 1 false 1), (inferInstance : TyField Try.prog 29 2 2 false 1), (inferInstance : TyField Try.prog 29 3 3 false 1), (inferInstance : TyField Try.prog 29 4 4 false 1), (inferInstance : TyField Try.prog 29 5 5 false 1), trivial⟩), (fun e s b h => by cases h), (fun x h => by cases h), (fun v h => by cases h; infer_instance)⟩
def tyc30 : TyC := { agg := true, sz := 6, fields := [(0, false, 1), (1, false, 1), (2, false, 1), (3, false, 1), (4, false, 1), (5, false, 1)], zero := some (.agg #[.string ByteArray.empty, .slice none 0 0, .slice none 0 0, .slice none 0 0, .slice none 0 0, .slice none 0 0]) }
theorem tyc30_ok : TyC.Ok Try.prog 30 tyc30 := ⟨(fun h => inferInstance), (fldAll ⟨(inferInstance : TyField Try.prog 30 0 0 false 1), (inferInstance : TyField Try.prog 30 1 1 false 1), (inferInstance : TyField Try.prog 30 2 2 false 1), (inferInstance : TyField Try.prog 30 3 3 false 1), (inferInstance : TyField Try.prog 30 4 4 false 1), (inferInstance : TyField Try.prog 30 5 5 false 1), trivial⟩), (fun e s b h => by cases h), (fun x h => by cases h), (fun v h => by cases h; infer_instance)⟩
def tyc31 : TyC := { agg := false, sz := 1, zero := some (.nilFunc) }
theorem tyc31_ok : TyC.Ok Try.prog 31 tyc31 := ⟨(fun h => inferInstance), (fun f off a s h => by cases h), (fun e s b h => by cases h), (fun x h => by cases h), (fun v h => by cases h; infer_instance)⟩
def tyc33 : TyC := { agg := false, sz := 1, zero := some (.nilFunc) }
theorem tyc33_ok : TyC.Ok Try.prog 33 tyc33 := ⟨(fun h => inferInstance), (fun f off a s h => by cases h), (fun e s b h => by cases h), (fun x h => by cases h), (fun v h => by cases h; infer_instance)⟩
def tyc34 : TyC := { agg := false, sz := 1, zero := some (.nilFunc) }
theorem tyc34_ok : TyC.Ok Try.prog 34 tyc34 := ⟨(fun h => inferInstance), (fun f off a s h => by cases h), (fun e s b h => by cases h), (fun x h => by cases h), (fun v h => by cases h; infer_instance)⟩
def tyc35 : TyC := { agg := false, sz := 1, zero := some (.nilFunc) }
theorem tyc35_ok : TyC.Ok Try.prog 35 tyc35 := ⟨(fun h => inferInstance), (fun f off a s h => by cases h), (fun e s b h => by cases h), (fun x h => by cases h), (fun v h => by cases h; infer_instance)⟩
def tyc36 : TyC := { agg := false, sz := 1, sl := some (46, 5, 56), zero := some (.slice none 0 0) }
theorem tyc36_ok : TyC.Ok Try.prog 36 tyc36 := ⟨(fun h => inferInstance), (fun f off a s h => by cases h), (fun e s b h => by cases h; infer_instance), (fun x h => by cases h), (fun v h => by cases h; infer_instance)⟩
def tyc37 : TyC := { agg := false, sz := 1, sl := some (51, 2, 32), zero := some (.slice none 0 0) }
theorem tyc37_ok : TyC.Ok Try.prog 37 tyc37 := ⟨(fun h => inferInstance), (fun f off a s h => by cases h), (fun e s b h => by cases h; infer_instance), (fun x h => by cases h), (fun v h => by cases h; infer_instance)⟩
def tyc38 : TyC := { agg := true, sz := 4, fields := [(0, false, 1), (1, false, 1), (2, false, 1), (3, false, 1)], zero := some (.agg #[.int .i64 0, .int .i64 0, .slice none 0 0, .slice none 0 0]) }
theorem tyc38_ok : TyC.Ok Try.prog 38 tyc38 := ⟨(fun h => inferInstance), (fldAll ⟨(inferInstance : TyField Try.prog 38 0 0 false 1), (inferInstance : TyField Try.prog 38 1 1 false 1), (inferInstance : TyField Try.prog 38 2 2 false 1), (inferInstance : TyField Try.prog 38 3 3 false 1), trivial⟩), (fun e s b h => by cases h), (fun x h => by cases h), (fun v h => by cases h; infer_instance)⟩
def tyc39 : TyC := { agg := true, sz := 4, fields := [(0, false, 1), (1, false, 1), (2, false, 1), (3, false, 1)], zero := some (.agg #[.int .i64 0, .int .i64 0, .slice none 0 0, .slice none 0 0]) }
theorem tyc39_ok : TyC.Ok Try.prog 39 tyc39 := ⟨(fun h => inferInstance), (fldAll ⟨(inferInstance : TyField Try.prog 39 0 0 false 1), (inferInstance : TyField Try.prog 39 1 1 false 1), (inferInstance : TyField Try.prog 39 2 2 false 1), (inferInstance : TyField Try.prog 39 3 3 false 1), trivial⟩), (fun e s b h => by cases h), (fun x h => by cases h), (fun v h => by cases h; infer_instance)⟩
def tyc40 : TyC := { agg := true, sz := 9, fields := [(0, false, 1), (1, false, 1), (2, true, 4), (6, false, 1), (7, false, 1), (8, false, 1)], zero := some (.agg #[.slice none 0 0, .slice none 0 0, .int .i64 0, .int .i64 0, .slice none 0 0, .slice none 0 0, .int .i64 0, .int .i64 0, .int .i64 0]) }
theorem tyc40_ok : TyC.Ok Try.prog 40 tyc40 := ⟨(fun h => inferInstance), (fldAll ⟨(inferInstance : TyField Try.prog 40 0 0 false 1), (inferInstance : TyField Try.prog 40 1 1 false 1), (inferInstance : TyField Try.prog 40 2 2 true 4), (inferInstance : TyField Try.prog 40 3 6 false 1), (inferInstance : TyField Try.prog 40 4 7 false 1), (inferInstance : TyField Try.prog 40 5 8 false 1), trivial⟩), (fun e s b h => by cases h), (fun x h => by cases h), (fun v h => by cases h; infer_instance)⟩
def tyc41 : TyC := { agg := true, sz := 9, fields := [(0, false, 1), (1, false, 1), (2, true, 4), (6, false, 1), (7, false, 1), (8, false, 1)], zero := some (.agg #[.slice none 0 0, .slice none 0 0, .int .i64 0, .int .i64 0, .slice none 0 0, .slice none 0 0, .int .i64 0, .int .i64 0, .int .i64 0]) }
theorem tyc41_ok : TyC.Ok Try.prog 41 tyc41 := ⟨(fun h => inferInstance), (fldAll ⟨(inferInstance : TyField Try.prog 41 0 0 false 1), (inferInstance : TyField Try.prog 41 1 1 false 1), (inferInstance : TyField Try.prog 41 2 2 true 4), (inferInstance : TyField Try.prog 41 3 6 false 1), (inferInstance : TyField Try.prog 41 4 7 false 1), (inferInstance : TyField Try.prog 41 5 8 false 1), trivial⟩), (fun e s b h => by cases h), (fun x h => by cases h), (fun v h => by cases h; infer_instance)⟩
def tyc43 : TyC := { agg := false, sz := 1, zero := some (.nilFunc) }
theorem tyc43_ok : TyC.Ok Try.prog 43 tyc43 := ⟨(fun h => inferInstance), (fun f off a s h => by cases h), (fun e s b h => by cases h), (fun x h => by cases h), (fun v h => by cases h; infer_instance)⟩
def tyc44 : TyC := { agg := false, sz := 1, desc := some (.int .u64), zero := some (.int .u64 0) }
theorem tyc44_ok : TyC.Ok Try.prog 44 tyc44 := ⟨(fun h => inferInstance), (fun f off a s h => by cases h), (fun e s b h => by cases h), (fun x h => by cases h; infer_instance), (fun v h => by cases h; infer_instance)⟩
def tyc45 : TyC := { agg := true, sz := 5, fields := [(0, false, 1), (1, false, 1), (2, false, 1), (3, false, 1), (4, false, 1)], zero := some (.agg #[.int .i64 0, .int .i64 0, .slice none 0 0, .int .u64 0, .int .i64 0]) }
theorem tyc45_ok : TyC.Ok Try.prog 45 tyc45 := ⟨(fun h => inferInstance), (fldAll ⟨(inferInstance : TyField Try.prog 45 0 0 false 1), (inferInstance : TyField Try.prog 45 1 1 false 1), (inferInstance : TyField Try.prog 45 2 2 false 1), (inferInstance : TyField Try.prog 45 3 3 false 1), (inferInstance : TyField Try.prog 45 4 4 false 1), trivial⟩), (fun e s b h => by cases h), (fun x h => by cases h), (fun v h => by cases h; infer_instance)⟩
def tyc46 : TyC := { agg := true, sz := 5, fields := [(0, false, 1), (1, false, 1), (2, false, 1), (3, false, 1), (4, false, 1)], zero := some (.agg #[.int .i64 0, .int .i64 0, .slice none 0 0, .int .u64 0, .int .i64 0]) }
theorem tyc46_ok : TyC.Ok Try.prog 46 tyc46 := ⟨(fun h => inferInstance), (fldAll ⟨(inferInstance : TyField Try.prog 46 0 0 false 1), (inferInstance : TyField Try.prog 46 1 1 false 1), (inferInstance : TyField Try.prog 46 2 2 false 1), (inferInstance : TyField Try.prog 46 3 3 false 1), (inferInstance : TyField Try.prog 46 4 4 false 1), trivial⟩), (fun e s b h => by cases h), (fun x h => by cases h), (fun v h => by cases h; infer_instance)⟩
def tyc47 : TyC := { agg := false, sz := 1, zero := some (.nilFunc) }
theorem tyc47_ok : TyC.Ok Try.prog 47 tyc47 := ⟨(fun h => inferInstance), (fun f off a s h => by cases h), (fun e s b h => by cases h), (fun x h => by cases h), (fun v h => by cases h; infer_instance)⟩
def tyc48 : TyC := { agg := false, sz := 1, zero := some (.nilFunc) }
theorem tyc48_ok : TyC.Ok Try.prog 48 tyc48 := ⟨(fun h => inferInstance), (fun f off a s h => by cases h), (fun e s b h => by cases h), (fun x h => by cases h), (fun v h => by cases h; infer_instance)⟩
def tyc49 : TyC := { agg := false, sz := 1, zero := some (.nilFunc) }
theorem tyc49_ok : TyC.Ok Try.prog 49 tyc49 := ⟨(fun h => inferInstance), (fun f off a s h => by cases h), (fun e s b h => by cases h), (fun x h => by cases h), (fun v h => by cases h; infer_instance)⟩
def tyc50 : TyC := { agg := true, sz := 2, fields := [(0, false, 1), (1, false, 1)], zero := some (.agg #[.int .i64 0, .slice none 0 0]) }
theorem tyc50_ok : TyC.Ok Try.prog 50 tyc50 := ⟨(fun h => inferInstance), (fldAll ⟨(inferInstance : TyField Try.prog 50 0 0 false 1), (inferInstance : TyField Try.prog 50 1 1 false 1), trivial⟩), (fun e s b h => by cases h), (fun x h => by cases h), (fun v h => by cases h; infer_instance)⟩
def tyc51 : TyC := { agg := true, sz := 2, fields := [(0, false, 1), (1, false, 1)], zero := some (.agg #[.int .i64 0, .slice none 0 0]) }
theorem tyc51_ok : TyC.Ok Try.prog 51 tyc51 := ⟨(fun h => inferInstance), (fldAll ⟨(inferInstance : TyField Try.prog 51 0 0 false 1), (inferInstance : TyField Try.prog 51 1 1 false 1), trivial⟩), (fun e s b h => by cases h), (fun x h => by cases h), (fun v h => by cases h; infer_instance)⟩
def tyc52 : TyC := { agg := true, sz := 5, fields := [(0, false, 1), (1, false, 1), (2, false, 1), (3, false, 1), (4, false, 1)], zero := some (.agg #[.string ByteArray.empty, .int .i64 0, .int .i64 0, .int .i64 0, .int .i64 0]) }
theorem tyc52_ok : TyC.Ok Try.prog 52 tyc52 := ⟨(fun h => inferInstance), (fldAll ⟨(inferInstance : TyField Try.prog 52 0 0 false 1), (inferInstance : TyField Try.prog 52 1 1 false 1), (inferInstance : TyField Try.prog 52 2 2 false 1), (inferInstance : TyField Try.prog 52 3 3 false 1), (inferInstance : TyField Try.prog 52 4 4 false 1), trivial⟩), (fun e s b h => by cases h), (fun x h => by cases h), (fun v h => by cases h; infer_instance)⟩
def tyc53 : TyC := { agg := true, sz := 5, fields := [(0, false, 1), (1, false, 1), (2, false, 1), (3, false, 1), (4, false, 1)], zero := some (.agg #[.string ByteArray.empty, .int .i64 0, .int .i64 0, .int .i64 0, .int .i64 0]) }
theorem tyc53_ok : TyC.Ok Try.prog 53 tyc53 := ⟨(fun h => inferInstance), (fldAll ⟨(inferInstance : TyField Try.prog 53 0 0 false 1), (inferInstance : TyField Try.prog 53 1 1 false 1), (inferInstance : TyField Try.prog 53 2 2 false 1), (inferInstance : TyField Try.prog 53 3 3 false 1), (inferInstance : TyField Try.prog 53 4 4 false 1), trivial⟩), (fun e s b h => by cases h), (fun x h => by cases h), (fun v h => by cases h; infer_instance)⟩
def tyc54 : TyC := { agg := true, sz := 3, fields := [(0, false, 1), (1, false, 1), (2, false, 1)], zero := some (.agg #[.string ByteArray.empty, .int .i64 0, .bool false]) }
theorem tyc54_ok : TyC.Ok Try.prog 54 tyc54 := ⟨(fun h => inferInstance), (fldAll ⟨(inferInstance : TyField Try.prog 54 0 0 false 1), (inferInstance : TyField Try.prog 54 1 1 false 1), (inferInstance : TyField Try.prog 54 2 2 false 1), trivial⟩), (fun e s b h => by cases h), (fun x h => by cases h), (fun v h => by cases h; infer_instance)⟩
def tyc55 : TyC := { agg := true, sz := 3, fields := [(0, false, 1), (1, false, 1), (2, false, 1)], zero := some (.agg #[.string ByteArray.empty, .int .i64 0, .bool false]) }
theorem tyc55_ok : TyC.Ok Try.prog 55 tyc55 := ⟨(fun h => inferInstance), (fldAll ⟨(inferInstance : TyField Try.prog 55 0 0 false 1), (inferInstance : TyField Try.prog 55 1 1 false 1), (inferInstance : TyField Try.prog 55 2 2 false 1), trivial⟩), (fun e s b h => by cases h), (fun x h => by cases h), (fun v h => by cases h; infer_instance)⟩
def tyc56 : TyC := { agg := true, sz := 2, fields := [(0, false, 1), (1, false, 1)], zero := some (.agg #[.int .i64 0, .bool false]) }
theorem tyc56_ok : TyC.Ok Try.prog 56 tyc56 := ⟨(fun h => inferInstance), (fldAll ⟨(inferInstance : TyField Try.prog 56 0 0 false 1), (inferInstance : TyField Try.prog 56 1 1 false 1), trivial⟩), (fun e s b h => by cases h), (fun x h => by cases h), (fun v h => by cases h; infer_instance)⟩
def tyc57 : TyC := { agg := true, sz := 2, fields := [(0, false, 1), (1, false, 1)], zero := some (.agg #[.int .i64 0, .bool false]) }
theorem tyc57_ok : TyC.Ok Try.prog 57 tyc57 := ⟨(fun h => inferInstance), (fldAll ⟨(inferInstance : TyField Try.prog 57 0 0 false 1), (inferInstance : TyField Try.prog 57 1 1 false 1), trivial⟩), (fun e s b h => by cases h), (fun x h => by cases h), (fun v h => by cases h; infer_instance)⟩
def tyc58 : TyC := { agg := true, sz := 4, zero := some (.agg #[.int .i64 0, .bool false, .int .i64 0, .bool false]) }
theorem tyc58_ok : TyC.Ok Try.prog 58 tyc58 := ⟨(fun h => inferInstance), (fun f off a s h => by cases h), (fun e s b h => by cases h), (fun x h => by cases h), (fun v h => by cases h; infer_instance)⟩
def tyc59 : TyC := { agg := true, sz := 2, zero := some (.agg #[.int .u64 0, .int .u64 0]) }
theorem tyc59_ok : TyC.Ok Try.prog 59 tyc59 := ⟨(fun h => inferInstance), (fun f off a s h => by cases h), (fun e s b h => by cases h), (fun x h => by cases h), (fun v h => by cases h; infer_instance)⟩
def tyc60 : TyC := { agg := false, sz := 1, zero := some (.nilFunc) }
theorem tyc60_ok : TyC.Ok Try.prog 60 tyc60 := ⟨(fun h => inferInstance), (fun f off a s h => by cases h), (fun e s b h => by cases h), (fun x h => by cases h), (fun v h => by cases h; infer_instance)⟩
def tyc61 : TyC := { agg := false, sz := 1, zero := some (.nilFunc) }
theorem tyc61_ok : TyC.Ok Try.prog 61 tyc61 := ⟨(fun h => inferInstance), (fun f off a s h => by cases h), (fun e s b h => by cases h), (fun x h => by cases h), (fun v h => by cases h; infer_instance)⟩
def tyc62 : TyC := { agg := false, sz := 1, zero := some (.nilFunc) }
theorem tyc62_ok : TyC.Ok Try.prog 62 tyc62 := ⟨(fun h => inferInstance), (fun f off a s h => by cases h), (fun e s b h => by cases h), (fun x h => by cases h), (fun v h => by cases h; infer_instance)⟩
def tyc63 : TyC := { agg := false, sz := 1, zero := some (.nilFunc) }
theorem tyc63_ok : TyC.Ok Try.prog 63 tyc63 := ⟨(fun h => inferInstance), (fun f off a s h => by cases h), (fun e s b h => by cases h), (fun x h => by cases h), (fun v h => by cases h; infer_instance)⟩
def tyc64 : TyC := { agg := true, sz := 2, zero := some (.agg #[.int .u8 0, .int .u8 0]) }
theorem tyc64_ok : TyC.Ok Try.prog 64 tyc64 := ⟨(fun h => inferInstance), (fun f off a s h => by cases h), (fun e s b h => by cases h), (fun x h => by cases h), (fun v h => by cases h; infer_instance)⟩
def tyc65 : TyC := { agg := false, sz := 1, zero := some (.nilFunc) }
theorem tyc65_ok : TyC.Ok Try.prog 65 tyc65 := ⟨(fun h => inferInstance), (fun f off a s h => by cases h), (fun e s b h => by cases h), (fun x h => by cases h), (fun v h => by cases h; infer_instance)⟩
def tyc66 : TyC := { agg := false, sz := 1, zero := some (.nilFunc) }
theorem tyc66_ok : TyC.Ok Try.prog 66 tyc66 := ⟨(fun h => inferInstance), (fun f off a s h => by cases h), (fun e s b h => by cases h), (fun x h => by cases h), (fun v h => by cases h; infer_instance)⟩
def tyc67 : TyC := { agg := false, sz := 1, sl := some (25, 1, 24), zero := some (.slice none 0 0) }
theorem tyc67_ok : TyC.Ok Try.prog 67 tyc67 := ⟨(fun h => inferInstance), (fun f off a s h => by cases h), (fun e s b h => by cases h; infer_instance), (fun x h => by cases h), (fun v h => by cases h; infer_instance)⟩
def tyc68 : TyC := { agg := false, sz := 1, zero := some (.nilFunc) }
theorem tyc68_ok : TyC.Ok Try.prog 68 tyc68 := ⟨(fun h => inferInstance), (fun f off a s h => by cases h), (fun e s b h => by cases h), (fun x h => by cases h), (fun v h => by cases h; infer_instance)⟩
def tyc69 : TyC := { agg := false, sz := 1, sl := some (4, 1, 1), zero := some (.slice none 0 0) }
theorem tyc69_ok : TyC.Ok Try.prog 69 tyc69 := ⟨(fun h => inferInstance), (fun f off a s h => by cases h), (fun e s b h => by cases h; infer_instance), (fun x h => by cases h), (fun v h => by cases h; infer_instance)⟩
def tyc70 : TyC := { agg := false, sz := 1, zero := some (.nilFunc) }
theorem tyc70_ok : TyC.Ok Try.prog 70 tyc70 := ⟨(fun h => inferInstance), (fun f off a s h => by cases h), (fun e s b h => by cases h), (fun x h => by cases h), (fun v h => by cases h; infer_instance)⟩
def tyc71 : TyC := { agg := false, sz := 1, zero := some (.nilFunc) }
theorem tyc71_ok : TyC.Ok Try.prog 71 tyc71 := ⟨(fun h => inferInstance), (fun f off a s h => by cases h), (fun e s b h => by cases h), (fun x h => by cases h), (fun v h => by cases h; infer_instance)⟩
def tyc72 : TyC := { agg := false, sz := 1, zero := some (.nilFunc) }
theorem tyc72_ok : TyC.Ok Try.prog 72 tyc72 := ⟨(fun h => inferInstance), (fun f off a s h => by cases h), (fun e s b h => by cases h), (fun x h => by cases h), (fun v h => by cases h; infer_instance)⟩
def tyc73 : TyC := { agg := false, sz := 1, zero := some (.nilFunc) }
theorem tyc73_ok : TyC.Ok Try.prog 73 tyc73 := ⟨(fun h => inferInstance), (fun f off a s h => by cases h), (fun e s b h => by cases h), (fun x h => by cases h), (fun v h => by cases h; infer_instance)⟩
def tyc74 : TyC := { agg := false, sz := 1, zero := some (.nilFunc) }
theorem tyc74_ok : TyC.Ok Try.prog 74 tyc74 := ⟨(fun h => inferInstance), (fun f off a s h => by cases h), (fun e s b h => by cases h), (fun x h => by cases h), (fun v h => by cases h; infer_instance)⟩
def tyc75 : TyC := { agg := false, sz := 1, zero := some (.nilFunc) }
theorem tyc75_ok : TyC.Ok Try.prog 75 tyc75 := ⟨(fun h => inferInstance), (fun f off a s h => by cases h), (fun e s b h => by cases h), (fun x h => by cases h), (fun v h => by cases h; infer_instance)⟩
def tyc76 : TyC := { agg := false, sz := 1, zero := some (.nilFunc) }
theorem tyc76_ok : TyC.Ok Try.prog 76 tyc76 := ⟨(fun h => inferInstance), (fun f off a s h => by cases h), (fun e s b h => by cases h), (fun x h => by cases h), (fun v h => by cases h; infer_instance)⟩
def tyc77 : TyC := { agg := false, sz := 1, zero := some (.nilFunc) }
theorem tyc77_ok : TyC.Ok Try.prog 77 tyc77 := ⟨(fun h => inferInstance), (fun f off a s h => by cases h), (fun e s b h => by cases h), (fun x h => by cases h), (fun v h => by cases h; infer_instance)⟩
def tyc78 : TyC := { agg := false, sz := 1, zero := some (.nilFunc) }
theorem tyc78_ok : TyC.Ok Try.prog 78 tyc78 := ⟨(fun h => inferInstance), (fun f off a s h => by cases h), (fun e s b h => by cases h), (fun x h => by cases h), (fun v h => by cases h; infer_instance)⟩
def tyc79 : TyC := { agg := false, sz := 1, zero := some (.nilFunc) }
theorem tyc79_ok : TyC.Ok Try.prog 79 tyc79 := ⟨(fun h => inferInstance), (fun f off a s h => by cases h), (fun e s b h => by cases h), (fun x h => by cases h), (fun v h => by cases h; infer_instance)⟩
def tyc80 : TyC := { agg := false, sz := 1, zero := some (.nilFunc) }
theorem tyc80_ok : TyC.Ok Try.prog 80 tyc80 := ⟨(fun h => inferInstance), (fun f off a s h => by cases h), (fun e s b h => by cases h), (fun x h => by cases h), (fun v h => by cases h; infer_instance)⟩
def tyc81 : TyC := { agg := false, sz := 1, zero := some (.nilFunc) }
theorem tyc81_ok : TyC.Ok Try.prog 81 tyc81 := ⟨(fun h => inferInstance), (fun f off a s h => by cases h), (fun e s b h => by cases h), (fun x h => by cases h), (fun v h => by cases h; infer_instance)⟩
def tyc82 : TyC := { agg := false, sz := 1, zero := some (.nilFunc) }
theorem tyc82_ok : TyC.Ok Try.prog 82 tyc82 := ⟨(fun h => inferInstance), (fun f off a s h => by cases h), (fun e s b h => by cases h), (fun x h => by cases h), (fun v h => by cases h; infer_instance)⟩
def tyc83 : TyC := { agg := false, sz := 1, zero := some (.nilFunc) }
theorem tyc83_ok : TyC.Ok Try.prog 83 tyc83 := ⟨(fun h => inferInstance), (fun f off a s h => by cases h), (fun e s b h => by cases h), (fun x h => by cases h), (fun v h => by cases h; infer_instance)⟩
def tyc84 : TyC := { agg := false, sz := 1, zero := some (.nilFunc) }
theorem tyc84_ok : TyC.Ok Try.prog 84 tyc84 := ⟨(fun h => inferInstance), (fun f off a s h => by cases h), (fun e s b h => by cases h), (fun x h => by cases h), (fun v h => by cases h; infer_instance)⟩
def tyc85 : TyC := { agg := false, sz := 1, zero := some (.nilFunc) }
theorem tyc85_ok : TyC.Ok Try.prog 85 tyc85 := ⟨(fun h => inferInstance), (fun f off a s h => by cases h), (fun e s b h => by cases h), (fun x h => by cases h), (fun v h => by cases h; infer_instance)⟩
def tyc86 : TyC := { agg := false, sz := 1, zero := some (.nilFunc) }
theorem tyc86_ok : TyC.Ok Try.prog 86 tyc86 := ⟨(fun h => inferInstance), (fun f off a s h => by cases h), (fun e s b h => by cases h), (fun x h => by cases h), (fun v h => by cases h; infer_instance)⟩
def tyc87 : TyC := { agg := false, sz := 1, zero := some (.pointer none) }
theorem tyc87_ok : TyC.Ok Try.prog 87 tyc87 := ⟨(fun h => inferInstance), (fun f off a s h => by cases h), (fun e s b h => by cases h), (fun x h => by cases h), (fun v h => by cases h; infer_instance)⟩
def tyc88 : TyC := { agg := false, sz := 1, zero := some (.nilFunc) }
theorem tyc88_ok : TyC.Ok Try.prog 88 tyc88 := ⟨(fun h => inferInstance), (fun f off a s h => by cases h), (fun e s b h => by cases h), (fun x h => by cases h), (fun v h => by cases h; infer_instance)⟩
def tyc89 : TyC := { agg := false, sz := 1, zero := some (.nilFunc) }
theorem tyc89_ok : TyC.Ok Try.prog 89 tyc89 := ⟨(fun h => inferInstance), (fun f off a s h => by cases h), (fun e s b h => by cases h), (fun x h => by cases h), (fun v h => by cases h; infer_instance)⟩
def tyc90 : TyC := { agg := false, sz := 1, zero := some (.nilFunc) }
theorem tyc90_ok : TyC.Ok Try.prog 90 tyc90 := ⟨(fun h => inferInstance), (fun f off a s h => by cases h), (fun e s b h => by cases h), (fun x h => by cases h), (fun v h => by cases h; infer_instance)⟩
def tyc91 : TyC := { agg := false, sz := 1, desc := some (.map 3 3), zero := some (.map none) }
theorem tyc91_ok : TyC.Ok Try.prog 91 tyc91 := ⟨(fun h => inferInstance), (fun f off a s h => by cases h), (fun e s b h => by cases h), (fun x h => by cases h; infer_instance), (fun v h => by cases h; infer_instance)⟩
def tyc92 : TyC := { agg := false, sz := 1, zero := some (.nilFunc) }
theorem tyc92_ok : TyC.Ok Try.prog 92 tyc92 := ⟨(fun h => inferInstance), (fun f off a s h => by cases h), (fun e s b h => by cases h), (fun x h => by cases h), (fun v h => by cases h; infer_instance)⟩
def tyc93 : TyC := { agg := false, sz := 1, zero := some (.nilFunc) }
theorem tyc93_ok : TyC.Ok Try.prog 93 tyc93 := ⟨(fun h => inferInstance), (fun f off a s h => by cases h), (fun e s b h => by cases h), (fun x h => by cases h), (fun v h => by cases h; infer_instance)⟩
def tyc94 : TyC := { agg := false, sz := 1, zero := some (.nilFunc) }
theorem tyc94_ok : TyC.Ok Try.prog 94 tyc94 := ⟨(fun h => inferInstance), (fun f off a s h => by cases h), (fun e s b h => by cases h), (fun x h => by cases h), (fun v h => by cases h; infer_instance)⟩
def tyc95 : TyC := { agg := false, sz := 1, zero := some (.nilFunc) }
theorem tyc95_ok : TyC.Ok Try.prog 95 tyc95 := ⟨(fun h => inferInstance), (fun f off a s h => by cases h), (fun e s b h => by cases h), (fun x h => by cases h), (fun v h => by cases h; infer_instance)⟩
def tyc96 : TyC := { agg := false, sz := 1, desc := some (.int .i64), zero := some (.int .i64 0) }
theorem tyc96_ok : TyC.Ok Try.prog 96 tyc96 := ⟨(fun h => inferInstance), (fun f off a s h => by cases h), (fun e s b h => by cases h), (fun x h => by cases h; infer_instance), (fun v h => by cases h; infer_instance)⟩
def tyc98 : TyC := { agg := false, sz := 1, zero := some (.nilFunc) }
theorem tyc98_ok : TyC.Ok Try.prog 98 tyc98 := ⟨(fun h => inferInstance), (fun f off a s h => by cases h), (fun e s b h => by cases h), (fun x h => by cases h), (fun v h => by cases h; infer_instance)⟩
def tyc99 : TyC := { agg := false, sz := 1, zero := some (.nilFunc) }
theorem tyc99_ok : TyC.Ok Try.prog 99 tyc99 := ⟨(fun h => inferInstance), (fun f off a s h => by cases h), (fun e s b h => by cases h), (fun x h => by cases h), (fun v h => by cases h; infer_instance)⟩
def tyc100 : TyC := { agg := false, sz := 1, zero := some (.nilFunc) }
theorem tyc100_ok : TyC.Ok Try.prog 100 tyc100 := ⟨(fun h => inferInstance), (fun f off a s h => by cases h), (fun e s b h => by cases h), (fun x h => by cases h), (fun v h => by cases h; infer_instance)⟩
def tyc101 : TyC := { agg := false, sz := 1, zero := some (.nilFunc) }
theorem tyc101_ok : TyC.Ok Try.prog 101 tyc101 := ⟨(fun h => inferInstance), (fun f off a s h => by cases h), (fun e s b h => by cases h), (fun x h => by cases h), (fun v h => by cases h; infer_instance)⟩
def tyc102 : TyC := { agg := false, sz := 1, zero := some (.nilFunc) }
theorem tyc102_ok : TyC.Ok Try.prog 102 tyc102 := ⟨(fun h => inferInstance), (fun f off a s h => by cases h), (fun e s b h => by cases h), (fun x h => by cases h), (fun v h => by cases h; infer_instance)⟩
def tyc103 : TyC := { agg := false, sz := 1, zero := some (.nilFunc) }
theorem tyc103_ok : TyC.Ok Try.prog 103 tyc103 := ⟨(fun h => inferInstance), (fun f off a s h => by cases h), (fun e s b h => by cases h), (fun x h => by cases h), (fun v h => by cases h; infer_instance)⟩
def tyc104 : TyC := { agg := false, sz := 1, zero := some (.nilFunc) }
theorem tyc104_ok : TyC.Ok Try.prog 104 tyc104 := ⟨(fun h => inferInstance), (fun f off a s h => by cases h), (fun e s b h => by cases h), (fun x h => by cases h), (fun v h => by cases h; infer_instance)⟩
def tyc105 : TyC := { agg := false, sz := 1, zero := some (.pointer none) }
theorem tyc105_ok : TyC.Ok Try.prog 105 tyc105 := ⟨(fun h => inferInstance), (fun f off a s h => by cases h), (fun e s b h => by cases h), (fun x h => by cases h), (fun v h => by cases h; infer_instance)⟩
def tyc106 : TyC := { agg := true, sz := 8, fields := [(0, true, 6), (6, false, 1), (7, false, 1)], zero := some (.agg #[.string ByteArray.empty, .slice none 0 0, .slice none 0 0, .slice none 0 0, .slice none 0 0, .slice none 0 0, .slice none 0 0, .slice none 0 0]) }
theorem tyc106_ok : TyC.Ok Try.prog 106 tyc106 := ⟨(fun h => inferInstance), (fldAll ⟨(inferInstance : TyField Try.prog 106 0 0 true 6), (inferInstance : TyField Try.prog 106 1 6 false 1), (inferInstance : TyField Try.prog 106 2 7 false 1), trivial⟩), (fun e s b h => by cases h), (fun x h => by cases h), (fun v h => by cases h; infer_instance)⟩
def tyc107 : TyC := { agg := true, sz := 8, fields := [(0, true, 6), (6, false, 1), (7, false, 1)], zero := some (.agg #[.string ByteArray.empty, .slice none 0 0, .slice none 0 0, .slice none 0 0, .slice none 0 0, .slice none 0 0, .slice none 0 0, .slice none 0 0]) }
theorem tyc107_ok : TyC.Ok Try.prog 107 tyc107 := ⟨(fun h => inferInstance), (fldAll ⟨(inferInstance : TyField Try.prog 107 0 0 true 6), (inferInstance : TyField Try.prog 107 1 6 false 1), (inferInstance : TyField Try.prog 107 2 7 false 1), trivial⟩), (fun e s b h => by cases h), (fun x h => by cases h), (fun v h => by cases h; infer_instance)⟩
def tyc108 : TyC := { agg := false, sz := 1, zero := some (.nilFunc) }
theorem tyc108_ok : TyC.Ok Try.prog 108 tyc108 := ⟨(fun h => inferInstance), (fun f off a s h => by cases h), (fun e s b h => by cases h), (fun x h => by cases h), (fun v h => by cases h; infer_instance)⟩
def tyc109 : TyC := { agg := false, sz := 1, zero := some (.nilFunc) }
theorem tyc109_ok : TyC.Ok Try.prog 109 tyc109 := ⟨(fun h => inferInstance), (fun f off a s h => by cases h), (fun e s b h => by cases h), (fun x h => by cases h), (fun v h => by cases h; infer_instance)⟩
def tyc110 : TyC := { agg := false, sz := 1, zero := some (.nilFunc) }
theorem tyc110_ok : TyC.Ok Try.prog 110 tyc110 := ⟨(fun h => inferInstance), (fun f off a s h => by cases h), (fun e s b h => by cases h), (fun x h => by cases h), (fun v h => by cases h; infer_instance)⟩
def tyc111 : TyC := { agg := false, sz := 1, zero := some (.nilFunc) }
theorem tyc111_ok : TyC.Ok Try.prog 111 tyc111 := ⟨(fun h => inferInstance), (fun f off a s h => by cases h), (fun e s b h => by cases h), (fun x h => by cases h), (fun v h => by cases h; infer_instance)⟩
def tyc112 : TyC := { agg := false, sz := 1, zero := some (.nilFunc) }
theorem tyc112_ok : TyC.Ok Try.prog 112 tyc112 := ⟨(fun h => inferInstance), (fun f off a s h => by cases h), (fun e s b h => by cases h), (fun x h => by cases h), (fun v h => by cases h; infer_instance)⟩
def tyc113 : TyC := { agg := false, sz := 1, sl := some (9, 1, 16), zero := some (.slice none 0 0) }
theorem tyc113_ok : TyC.Ok Try.prog 113 tyc113 := ⟨(fun h => inferInstance), (fun f off a s h => by cases h), (fun e s b h => by cases h; infer_instance), (fun x h => by cases h), (fun v h => by cases h; infer_instance)⟩
def tyc114 : TyC := { agg := false, sz := 1, zero := some (.nilFunc) }
theorem tyc114_ok : TyC.Ok Try.prog 114 tyc114 := ⟨(fun h => inferInstance), (fun f off a s h => by cases h), (fun e s b h => by cases h), (fun x h => by cases h), (fun v h => by cases h; infer_instance)⟩
def tyc115 : TyC := { agg := false, sz := 1, zero := some (.nilFunc) }
theorem tyc115_ok : TyC.Ok Try.prog 115 tyc115 := ⟨(fun h => inferInstance), (fun f off a s h => by cases h), (fun e s b h => by cases h), (fun x h => by cases h), (fun v h => by cases h; infer_instance)⟩
def tyc116 : TyC := { agg := false, sz := 1, zero := some (.nilFunc) }
theorem tyc116_ok : TyC.Ok Try.prog 116 tyc116 := ⟨(fun h => inferInstance), (fun f off a s h => by cases h), (fun e s b h => by cases h), (fun x h => by cases h), (fun v h => by cases h; infer_instance)⟩
def tyc117 : TyC := { agg := false, sz := 1, zero := some (.nilFunc) }
theorem tyc117_ok : TyC.Ok Try.prog 117 tyc117 := ⟨(fun h => inferInstance), (fun f off a s h => by cases h), (fun e s b h => by cases h), (fun x h => by cases h), (fun v h => by cases h; infer_instance)⟩
def tyc118 : TyC := { agg := false, sz := 1, zero := some (.nilFunc) }
theorem tyc118_ok : TyC.Ok Try.prog 118 tyc118 := ⟨(fun h => inferInstance), (fun f off a s h => by cases h), (fun e s b h => by cases h), (fun x h => by cases h), (fun v h => by cases h; infer_instance)⟩
def tyc119 : TyC := { agg := false, sz := 1, zero := some (.nilFunc) }
theorem tyc119_ok : TyC.Ok Try.prog 119 tyc119 := ⟨(fun h => inferInstance), (fun f off a s h => by cases h), (fun e s b h => by cases h), (fun x h => by cases h), (fun v h => by cases h; infer_instance)⟩
def tyc120 : TyC := { agg := false, sz := 1, zero := some (.nilFunc) }
theorem tyc120_ok : TyC.Ok Try.prog 120 tyc120 := ⟨(fun h => inferInstance), (fun f off a s h => by cases h), (fun e s b h => by cases h), (fun x h => by cases h), (fun v h => by cases h; infer_instance)⟩
def tyc121 : TyC := { agg := false, sz := 1, zero := some (.nilFunc) }
theorem tyc121_ok : TyC.Ok Try.prog 121 tyc121 := ⟨(fun h => inferInstance), (fun f off a s h => by cases h), (fun e s b h => by cases h), (fun x h => by cases h), (fun v h => by cases h; infer_instance)⟩
def tyc122 : TyC := { agg := false, sz := 1, zero := some (.nilFunc) }
theorem tyc122_ok : TyC.Ok Try.prog 122 tyc122 := ⟨(fun h => inferInstance), (fun f off a s h => by cases h), (fun e s b h => by cases h), (fun x h => by cases h), (fun v h => by cases h; infer_instance)⟩
def tyc123 : TyC := { agg := false, sz := 1, zero := some (.nilFunc) }
theorem tyc123_ok : TyC.Ok Try.prog 123 tyc123 := ⟨(fun h => inferInstance), (fun f off a s h => by cases h), (fun e s b h => by cases h), (fun x h => by cases h), (fun v h => by cases h; infer_instance)⟩
def tyc124 : TyC := { agg := false, sz := 1, zero := some (.nilFunc) }
theorem tyc124_ok : TyC.Ok Try.prog 124 tyc124 := ⟨(fun h => inferInstance), (fun f off a s h => by cases h), (fun e s b h => by cases h), (fun x h => by cases h), (fun v h => by cases h; infer_instance)⟩
def tyc125 : TyC := { agg := false, sz := 1, zero := some (.nilFunc) }
theorem tyc125_ok : TyC.Ok Try.prog 125 tyc125 := ⟨(fun h => inferInstance), (fun f off a s h => by cases h), (fun e s b h => by cases h), (fun x h => by cases h), (fun v h => by cases h; infer_instance)⟩
def tyc126 : TyC := { agg := false, sz := 1, zero := some (.nilFunc) }
theorem tyc126_ok : TyC.Ok Try.prog 126 tyc126 := ⟨(fun h => inferInstance), (fun f off a s h => by cases h), (fun e s b h => by cases h), (fun x h => by cases h), (fun v h => by cases h; infer_instance)⟩
def tyc127 : TyC := { agg := false, sz := 1, zero := some (.nilFunc) }
theorem tyc127_ok : TyC.Ok Try.prog 127 tyc127 := ⟨(fun h => inferInstance), (fun f off a s h => by cases h), (fun e s b h => by cases h), (fun x h => by cases h), (fun v h => by cases h; infer_instance)⟩
def tyc128 : TyC := { agg := false, sz := 1, zero := some (.nilFunc) }
theorem tyc128_ok : TyC.Ok Try.prog 128 tyc128 := ⟨(fun h => inferInstance), (fun f off a s h => by cases h), (fun e s b h => by cases h), (fun x h => by cases h), (fun v h => by cases h; infer_instance)⟩
def tyc129 : TyC := { agg := false, sz := 1, zero := some (.nilFunc) }
theorem tyc129_ok : TyC.Ok Try.prog 129 tyc129 := ⟨(fun h => inferInstance), (fun f off a s h => by cases h), (fun e s b h => by cases h), (fun x h => by cases h), (fun v h => by cases h; infer_instance)⟩
def tyc131 : TyC := { agg := false, sz := 1, zero := some (.nilFunc) }
theorem tyc131_ok : TyC.Ok Try.prog 131 tyc131 := ⟨(fun h => inferInstance), (fun f off a s h => by cases h), (fun e s b h => by cases h), (fun x h => by cases h), (fun v h => by cases h; infer_instance)⟩
def tyc132 : TyC := { agg := false, sz := 1, zero := some (.nilFunc) }
theorem tyc132_ok : TyC.Ok Try.prog 132 tyc132 := ⟨(fun h => inferInstance), (fun f off a s h => by cases h), (fun e s b h => by cases h), (fun x h => by cases h), (fun v h => by cases h; infer_instance)⟩
def tyc133 : TyC := { agg := false, sz := 1, sl := some (5, 1, 1), zero := some (.slice none 0 0) }
theorem tyc133_ok : TyC.Ok Try.prog 133 tyc133 := ⟨(fun h => inferInstance), (fun f off a s h => by cases h), (fun e s b h => by cases h; infer_instance), (fun x h => by cases h), (fun v h => by cases h; infer_instance)⟩
def tyc134 : TyC := { agg := false, sz := 1, desc := some (.map 9 4), zero := some (.map none) }
theorem tyc134_ok : TyC.Ok Try.prog 134 tyc134 := ⟨(fun h => inferInstance), (fun f off a s h => by cases h), (fun e s b h => by cases h), (fun x h => by cases h; infer_instance), (fun v h => by cases h; infer_instance)⟩
def tyc135 : TyC := { agg := false, sz := 1, zero := some (.nilFunc) }
theorem tyc135_ok : TyC.Ok Try.prog 135 tyc135 := ⟨(fun h => inferInstance), (fun f off a s h => by cases h), (fun e s b h => by cases h), (fun x h => by cases h), (fun v h => by cases h; infer_instance)⟩
def tyc136 : TyC := { agg := false, sz := 1, zero := some (.nilFunc) }
theorem tyc136_ok : TyC.Ok Try.prog 136 tyc136 := ⟨(fun h => inferInstance), (fun f off a s h => by cases h), (fun e s b h => by cases h), (fun x h => by cases h), (fun v h => by cases h; infer_instance)⟩
def tyc137 : TyC := { agg := false, sz := 1, zero := some (.nilFunc) }
theorem tyc137_ok : TyC.Ok Try.prog 137 tyc137 := ⟨(fun h => inferInstance), (fun f off a s h => by cases h), (fun e s b h => by cases h), (fun x h => by cases h), (fun v h => by cases h; infer_instance)⟩
def tyc138 : TyC := { agg := false, sz := 1, zero := some (.nilFunc) }
theorem tyc138_ok : TyC.Ok Try.prog 138 tyc138 := ⟨(fun h => inferInstance), (fun f off a s h => by cases h), (fun e s b h => by cases h), (fun x h => by cases h), (fun v h => by cases h; infer_instance)⟩
def tyc139 : TyC := { agg := false, sz := 1, zero := some (.nilFunc) }
theorem tyc139_ok : TyC.Ok Try.prog 139 tyc139 := ⟨(fun h => inferInstance), (fun f off a s h => by cases h), (fun e s b h => by cases h), (fun x h => by cases h), (fun v h => by cases h; infer_instance)⟩
def tyc140 : TyC := { agg := false, sz := 1, zero := some (.nilFunc) }
theorem tyc140_ok : TyC.Ok Try.prog 140 tyc140 := ⟨(fun h => inferInstance), (fun f off a s h => by cases h), (fun e s b h => by cases h), (fun x h => by cases h), (fun v h => by cases h; infer_instance)⟩
def tyc141 : TyC := { agg := false, sz := 1, zero := some (.nilFunc) }
theorem tyc141_ok : TyC.Ok Try.prog 141 tyc141 := ⟨(fun h => inferInstance), (fun f off a s h => by cases h), (fun e s b h => by cases h), (fun x h => by cases h), (fun v h => by cases h; infer_instance)⟩
def tyc142 : TyC := { agg := false, sz := 1, desc := some (.int .u64), zero := some (.int .u64 0) }
theorem tyc142_ok : TyC.Ok Try.prog 142 tyc142 := ⟨(fun h => inferInstance), (fun f off a s h => by cases h), (fun e s b h => by cases h), (fun x h => by cases h; infer_instance), (fun v h => by cases h; infer_instance)⟩
def tyc143 : TyC := { agg := false, sz := 1, zero := some (.nilFunc) }
theorem tyc143_ok : TyC.Ok Try.prog 143 tyc143 := ⟨(fun h => inferInstance), (fun f off a s h => by cases h), (fun e s b h => by cases h), (fun x h => by cases h), (fun v h => by cases h; infer_instance)⟩
def tyc144 : TyC := { agg := true, sz := 3, zero := some (.agg #[.int .i64 0, .int .i64 0, .int .i64 0]) }
theorem tyc144_ok : TyC.Ok Try.prog 144 tyc144 := ⟨(fun h => inferInstance), (fun f off a s h => by cases h), (fun e s b h => by cases h), (fun x h => by cases h), (fun v h => by cases h; infer_instance)⟩
def tyc145 : TyC := { agg := false, sz := 1, zero := some (.nilFunc) }
theorem tyc145_ok : TyC.Ok Try.prog 145 tyc145 := ⟨(fun h => inferInstance), (fun f off a s h => by cases h), (fun e s b h => by cases h), (fun x h => by cases h), (fun v h => by cases h; infer_instance)⟩
def tyc146 : TyC := { agg := false, sz := 1, zero := some (.nilFunc) }
theorem tyc146_ok : TyC.Ok Try.prog 146 tyc146 := ⟨(fun h => inferInstance), (fun f off a s h => by cases h), (fun e s b h => by cases h), (fun x h => by cases h), (fun v h => by cases h; infer_instance)⟩
def tyc147 : TyC := { agg := false, sz := 1, zero := some (.nilFunc) }
theorem tyc147_ok : TyC.Ok Try.prog 147 tyc147 := ⟨(fun h => inferInstance), (fun f off a s h => by cases h), (fun e s b h => by cases h), (fun x h => by cases h), (fun v h => by cases h; infer_instance)⟩
def tyc148 : TyC := { agg := false, sz := 1, desc := some (.int .i64), zero := some (.int .i64 0) }
theorem tyc148_ok : TyC.Ok Try.prog 148 tyc148 := ⟨(fun h => inferInstance), (fun f off a s h => by cases h), (fun e s b h => by cases h), (fun x h => by cases h; infer_instance), (fun v h => by cases h; infer_instance)⟩
def tyc150 : TyC := { agg := false, sz := 1, zero := some (.nilFunc) }
theorem tyc150_ok : TyC.Ok Try.prog 150 tyc150 := ⟨(fun h => inferInstance), (fun f off a s h => by cases h), (fun e s b h => by cases h), (fun x h => by cases h), (fun v h => by cases h; infer_instance)⟩
def tyc151 : TyC := { agg := false, sz := 1, zero := some (.nilFunc) }
theorem tyc151_ok : TyC.Ok Try.prog 151 tyc151 := ⟨(fun h => inferInstance), (fun f off a s h => by cases h), (fun e s b h => by cases h), (fun x h => by cases h), (fun v h => by cases h; infer_instance)⟩
def tyc152 : TyC := { agg := false, sz := 1, zero := some (.nilFunc) }
theorem tyc152_ok : TyC.Ok Try.prog 152 tyc152 := ⟨(fun h => inferInstance), (fun f off a s h => by cases h), (fun e s b h => by cases h), (fun x h => by cases h), (fun v h => by cases h; infer_instance)⟩
def tyc153 : TyC := { agg := false, sz := 1, zero := some (.nilFunc) }
theorem tyc153_ok : TyC.Ok Try.prog 153 tyc153 := ⟨(fun h => inferInstance), (fun f off a s h => by cases h), (fun e s b h => by cases h), (fun x h => by cases h), (fun v h => by cases h; infer_instance)⟩
def tyc154 : TyC := { agg := false, sz := 1, zero := some (.nilFunc) }
theorem tyc154_ok : TyC.Ok Try.prog 154 tyc154 := ⟨(fun h => inferInstance), (fun f off a s h => by cases h), (fun e s b h => by cases h), (fun x h => by cases h), (fun v h => by cases h; infer_instance)⟩
def tyc155 : TyC := { agg := false, sz := 1, desc := some (.int .u32), zero := some (.int .u32 0) }
theorem tyc155_ok : TyC.Ok Try.prog 155 tyc155 := ⟨(fun h => inferInstance), (fun f off a s h => by cases h), (fun e s b h => by cases h), (fun x h => by cases h; infer_instance), (fun v h => by cases h; infer_instance)⟩
def tyc156 : TyC := { agg := false, sz := 1, zero := some (.nilFunc) }
theorem tyc156_ok : TyC.Ok Try.prog 156 tyc156 := ⟨(fun h => inferInstance), (fun f off a s h => by cases h), (fun e s b h => by cases h), (fun x h => by cases h), (fun v h => by cases h; infer_instance)⟩
def tyc157 : TyC := { agg := false, sz := 1, desc := some (.int .u64), zero := some (.int .u64 0) }
theorem tyc157_ok : TyC.Ok Try.prog 157 tyc157 := ⟨(fun h => inferInstance), (fun f off a s h => by cases h), (fun e s b h => by cases h), (fun x h => by cases h; infer_instance), (fun v h => by cases h; infer_instance)⟩
def tyc158 : TyC := { agg := false, sz := 1, zero := some (.nilFunc) }
theorem tyc158_ok : TyC.Ok Try.prog 158 tyc158 := ⟨(fun h => inferInstance), (fun f off a s h => by cases h), (fun e s b h => by cases h), (fun x h => by cases h), (fun v h => by cases h; infer_instance)⟩
def tyc159 : TyC := { agg := false, sz := 1, zero := some (.nilFunc) }
theorem tyc159_ok : TyC.Ok Try.prog 159 tyc159 := ⟨(fun h => inferInstance), (fun f off a s h => by cases h), (fun e s b h => by cases h), (fun x h => by cases h), (fun v h => by cases h; infer_instance)⟩
def tyc160 : TyC := { agg := false, sz := 1, zero := some (.nilFunc) }
theorem tyc160_ok : TyC.Ok Try.prog 160 tyc160 := ⟨(fun h => inferInstance), (fun f off a s h => by cases h), (fun e s b h => by cases h), (fun x h => by cases h), (fun v h => by cases h; infer_instance)⟩
def tyc161 : TyC := { agg := false, sz := 1, zero := some (.pointer none) }
theorem tyc161_ok : TyC.Ok Try.prog 161 tyc161 := ⟨(fun h => inferInstance), (fun f off a s h => by cases h), (fun e s b h => by cases h), (fun x h => by cases h), (fun v h => by cases h; infer_instance)⟩
def tyc162 : TyC := { agg := false, sz := 1, zero := some (.nilFunc) }
theorem tyc162_ok : TyC.Ok Try.prog 162 tyc162 := ⟨(fun h => inferInstance), (fun f off a s h => by cases h), (fun e s b h => by cases h), (fun x h => by cases h), (fun v h => by cases h; infer_instance)⟩
def tyc163 : TyC := { agg := false, sz := 1, zero := some (.pointer none) }
theorem tyc163_ok : TyC.Ok Try.prog 163 tyc163 := ⟨(fun h => inferInstance), (fun f off a s h => by cases h), (fun e s b h => by cases h), (fun x h => by cases h), (fun v h => by cases h; infer_instance)⟩
def tyc165 : TyC := { agg := false, sz := 1, zero := some (.nilFunc) }
theorem tyc165_ok : TyC.Ok Try.prog 165 tyc165 := ⟨(fun h => inferInstance), (fun f off a s h => by cases h), (fun e s b h => by cases h), (fun x h => by cases h), (fun v h => by cases h; infer_instance)⟩
def tyc166 : TyC := { agg := false, sz := 1, zero := some (.nilFunc) }
theorem tyc166_ok : TyC.Ok Try.prog 166 tyc166 := ⟨(fun h => inferInstance), (fun f off a s h => by cases h), (fun e s b h => by cases h), (fun x h => by cases h), (fun v h => by cases h; infer_instance)⟩
def tyc167 : TyC := { agg := true, sz := 4, fields := [(0, false, 1), (1, false, 1), (2, false, 1), (3, false, 1)], zero := some (.agg #[.pointer none, .pointer none, .pointer none, .string ByteArray.empty]) }
theorem tyc167_ok : TyC.Ok Try.prog 167 tyc167 := ⟨(fun h => inferInstance), (fldAll ⟨(inferInstance : TyField Try.prog 167 0 0 false 1), (inferInstance : TyField Try.prog 167 1 1 false 1), (inferInstance : TyField Try.prog 167 2 2 false 1), (inferInstance : TyField Try.prog 167 3 3 false 1), trivial⟩), (fun e s b h => by cases h), (fun x h => by cases h), (fun v h => by cases h; infer_instance)⟩
def tyc168 : TyC := { agg := true, sz := 4, fields := [(0, false, 1), (1, false, 1), (2, false, 1), (3, false, 1)], zero := some (.agg #[.pointer none, .pointer none, .pointer none, .string ByteArray.empty]) }
theorem tyc168_ok : TyC.Ok Try.prog 168 tyc168 := ⟨(fun h => inferInstance), (fldAll ⟨(inferInstance : TyField Try.prog 168 0 0 false 1), (inferInstance : TyField Try.prog 168 1 1 false 1), (inferInstance : TyField Try.prog 168 2 2 false 1), (inferInstance : TyField Try.prog 168 3 3 false 1), trivial⟩), (fun e s b h => by cases h), (fun x h => by cases h), (fun v h => by cases h; infer_instance)⟩
def tyc169 : TyC := { agg := true, sz := 0, zero := some (.agg #[]) }
theorem tyc169_ok : TyC.Ok Try.prog 169 tyc169 := ⟨(fun h => by cases h), (fun f off a s h => by cases h), (fun e s b h => by cases h), (fun x h => by cases h), (fun v h => by cases h; infer_instance)⟩
def tyc170 : TyC := { agg := true, sz := 0, zero := some (.agg #[]) }
theorem tyc170_ok : TyC.Ok Try.prog 170 tyc170 := ⟨(fun h => by cases h), (fun f off a s h => by cases h), (fun e s b h => by cases h), (fun x h => by cases h), (fun v h => by cases h; infer_instance)⟩
def tyc171 : TyC := { agg := true, sz := 0, zero := some (.agg #[]) }
theorem tyc171_ok : TyC.Ok Try.prog 171 tyc171 := ⟨(fun h => by cases h), (fun f off a s h => by cases h), (fun e s b h => by cases h), (fun x h => by cases h), (fun v h => by cases h; infer_instance)⟩
def tyc172 : TyC := { agg := false, sz := 1, zero := some (.nilFunc) }
theorem tyc172_ok : TyC.Ok Try.prog 172 tyc172 := ⟨(fun h => inferInstance), (fun f off a s h => by cases h), (fun e s b h => by cases h), (fun x h => by cases h), (fun v h => by cases h; infer_instance)⟩
def tyc173 : TyC := { agg := false, sz := 1, desc := some (.int .u8), zero := some (.int .u8 0) }
theorem tyc173_ok : TyC.Ok Try.prog 173 tyc173 := ⟨(fun h => inferInstance), (fun f off a s h => by cases h), (fun e s b h => by cases h), (fun x h => by cases h; infer_instance), (fun v h => by cases h; infer_instance)⟩
def tyc174 : TyC := { agg := false, sz := 1, desc := some (.int .u8), zero := some (.int .u8 0) }
theorem tyc174_ok : TyC.Ok Try.prog 174 tyc174 := ⟨(fun h => inferInstance), (fun f off a s h => by cases h), (fun e s b h => by cases h), (fun x h => by cases h; infer_instance), (fun v h => by cases h; infer_instance)⟩
def tyc175 : TyC := { agg := false, sz := 1, zero := some (.nilFunc) }
theorem tyc175_ok : TyC.Ok Try.prog 175 tyc175 := ⟨(fun h => inferInstance), (fun f off a s h => by cases h), (fun e s b h => by cases h), (fun x h => by cases h), (fun v h => by cases h; infer_instance)⟩
def tyc176 : TyC := { agg := false, sz := 1, zero := some (.pointer none) }
theorem tyc176_ok : TyC.Ok Try.prog 176 tyc176 := ⟨(fun h => inferInstance), (fun f off a s h => by cases h), (fun e s b h => by cases h), (fun x h => by cases h), (fun v h => by cases h; infer_instance)⟩
def tyc177 : TyC := { agg := false, sz := 1, desc := some (.int .i32), zero := some (.int .i32 0) }
theorem tyc177_ok : TyC.Ok Try.prog 177 tyc177 := ⟨(fun h => inferInstance), (fun f off a s h => by cases h), (fun e s b h => by cases h), (fun x h => by cases h; infer_instance), (fun v h => by cases h; infer_instance)⟩
def tyc178 : TyC := { agg := false, sz := 1, desc := some (.int .i32), zero := some (.int .i32 0) }
theorem tyc178_ok : TyC.Ok Try.prog 178 tyc178 := ⟨(fun h => inferInstance), (fun f off a s h => by cases h), (fun e s b h => by cases h), (fun x h => by cases h; infer_instance), (fun v h => by cases h; infer_instance)⟩
def tyc179 : TyC := { agg := true, sz := 11, fields := [(0, false, 1), (1, false, 1), (2, false, 1), (3, false, 1), (4, false, 1), (5, false, 1), (6, false, 1), (7, false, 1), (8, false, 1), (9, false, 1), (10, false, 1)], zero := some (.agg #[.int .u64 0, .int .u64 0, .int .u32 0, .int .u8 0, .int .u8 0, .int .u8 0, .int .u8 0, .nilFunc, .pointer none, .int .i32 0, .int .i32 0]) }
theorem tyc179_ok : TyC.Ok Try.prog 179 tyc179 := ⟨(fun h => inferInstance), (fldAll ⟨(inferInstance : TyField Try.prog 179 0 0 false 1), (inferInstance : TyField Try.prog 179 1 1 false 1), (inferInstance : TyField Try.prog 179 2 2 false 1), (inferInstance : TyField Try.prog 179 3 3 false 1), (inferInstance : TyField Try.prog 179 4 4 false 1), (inferInstance : TyField Try.prog 179 5 5 false 1), (inferInstance : TyField Try.prog 179 6 6 false 1), (inferInstance : TyField Try.prog 179 7 7 false 1), (inferInstance : TyField Try.prog 179 8 8 false 1), (inferInstance : TyField Try.prog 179 9 9 false 1), (inferInstance : TyField Try.prog 179 10 10 false 1), trivial⟩), (fun e s b h => by cases h), (fun x h => by cases h), (fun v h => by cases h; infer_instance)⟩
def tyc180 : TyC := { agg := true, sz := 11, fields := [(0, false, 1), (1, false, 1), (2, false, 1), (3, false, 1), (4, false, 1), (5, false, 1), (6, false, 1), (7, false, 1), (8, false, 1), (9, false, 1), (10, false, 1)], zero := some (.agg #[.int .u64 0, .int .u64 0, .int .u32 0, .int .u8 0, .int .u8 0, .int .u8 0, .int .u8 0, .nilFunc, .pointer none, .int .i32 0, .int .i32 0]) }
theorem tyc180_ok : TyC.Ok Try.prog 180 tyc180 := ⟨(fun h => inferInstance), (fldAll ⟨(inferInstance : TyField Try.prog 180 0 0 false 1), (inferInstance : TyField Try.prog 180 1 1 false 1), (inferInstance : TyField Try.prog 180 2 2 false 1), (inferInstance : TyField Try.prog 180 3 3 false 1), (inferInstance : TyField Try.prog 180 4 4 false 1), (inferInstance : TyField Try.prog 180 5 5 false 1), (inferInstance : TyField Try.prog 180 6 6 false 1), (inferInstance : TyField Try.prog 180 7 7 false 1), (inferInstance : TyField Try.prog 180 8 8 false 1), (inferInstance : TyField Try.prog 180 9 9 false 1), (inferInstance : TyField Try.prog 180 10 10 false 1), trivial⟩), (fun e s b h => by cases h), (fun x h => by cases h), (fun v h => by cases h; infer_instance)⟩
def tycs (t : TypeId) : TyC := (bif Nat.blt t 90 then (bif Nat.blt t 46 then (bif Nat.blt t 22 then (bif Nat.blt t 11 then (bif Nat.blt t 6 then (bif Nat.blt t 3 then (bif Nat.blt t 2 then (bif Nat.beq t 1 then tyc1 else {}) else (bif Nat.beq t 2 then tyc2 else {})) else (bif Nat.blt t 4 then (bif Nat.beq t 3 then tyc3 else {}) else (bif Nat.blt t 5 then (bif Nat.beq t 4 then tyc4 else {}) else (bif Nat.beq t 5 then tyc5 else {})))) else (bif Nat.blt t 8 then (bif Nat.blt t 7 then (bif Nat.beq t 6 then tyc6 else {}) else (bif Nat.beq t 7 then tyc7 else {})) else (bif Nat.blt t 9 then (bif Nat.beq t 8 then tyc8 else {}) else (bif Nat.blt t 10 then (bif Nat.beq t 9 then tyc9 else {}) else (bif Nat.beq t 10 then tyc10 else {}))))) else (bif Nat.blt t 16 then (bif Nat.blt t 13 then (bif Nat.blt t 12 then (bif Nat.beq t 11 then tyc11 else {}) else (bif Nat.beq t 12 then tyc12 else {})) else (bif Nat.blt t 14 then (bif Nat.beq t 13 then tyc13 else {}) else (bif Nat.blt t 15 then (bif Nat.beq t 14 then tyc14 else {}) else (bif Nat.beq t 15 then tyc15 else {})))) else (bif Nat.blt t 19 then (bif Nat.blt t 17 then (bif Nat.beq t 16 then tyc16 else {}) else (bif Nat.blt t 18 then (bif Nat.beq t 17 then tyc17 else {}) else (bif Nat.beq t 18 then tyc18 else {}))) else (bif Nat.blt t 20 then (bif Nat.beq t 19 then tyc19 else {}) else (bif Nat.blt t 21 then (bif Nat.beq t 20 then tyc20 else {}) else (bif Nat.beq t 21 then tyc21 else {})))))) else (bif Nat.blt t 34 then (bif Nat.blt t 27 then (bif Nat.blt t 24 then (bif Nat.blt t 23 then (bif Nat.beq t 22 then tyc22 else {}) else (bif Nat.beq t 23 then tyc23 else {})) else (bif Nat.blt t 25 then (bif Nat.beq t 24 then tyc24 else {}) else (bif Nat.blt t 26 then (bif Nat.beq t 25 then tyc25 else {}) else (bif Nat.beq t 26 then tyc26 else {})))) else (bif Nat.blt t 30 then (bif Nat.blt t 28 then (bif Nat.beq t 27 then tyc27 else {}) else (bif Nat.blt t 29 then (bif Nat.beq t 28 then tyc28 else {}) else (bif Nat.beq t 29 then tyc29 else {}))) else (bif Nat.blt t 31 then (bif Nat.beq t 30 then tyc30 else {}) else (bif Nat.blt t 33 then (bif Nat.beq t 31 then tyc31 else {}) else (bif Nat.beq t 33 then tyc33 else {}))))) else (bif Nat.blt t 39 then (bif Nat.blt t 36 then (bif Nat.blt t 35 then (bif Nat.beq t 34 then tyc34 else {}) else (bif Nat.beq t 35 then tyc35 else {})) else (bif Nat.blt t 37 then (bif Nat.beq t 36 then tyc36 else {}) else (bif Nat.blt t 38 then (bif Nat.beq t 37 then tyc37 else {}) else (bif Nat.beq t 38 then tyc38 else {})))) else (bif Nat.blt t 43 then (bif Nat.blt t 40 then (bif Nat.beq t 39 then tyc39 else {}) else (bif Nat.blt t 41 then (bif Nat.beq t 40 then tyc40 else {}) else (bif Nat.beq t 41 then tyc41 else {}))) else (bif Nat.blt t 44 then (bif Nat.beq t 43 then tyc43 else {}) else (bif Nat.blt t 45 then (bif Nat.beq t 44 then tyc44 else {}) else (bif Nat.beq t 45 then tyc45 else {}))))))) else (bif Nat.blt t 68 then (bif Nat.blt t 57 then (bif Nat.blt t 51 then (bif Nat.blt t 48 then (bif Nat.blt t 47 then (bif Nat.beq t 46 then tyc46 else {}) else (bif Nat.beq t 47 then tyc47 else {})) else (bif Nat.blt t 49 then (bif Nat.beq t 48 then tyc48 else {}) else (bif Nat.blt t 50 then (bif Nat.beq t 49 then tyc49 else {}) else (bif Nat.beq t 50 then tyc50 else {})))) else (bif Nat.blt t 54 then (bif Nat.blt t 52 then (bif Nat.beq t 51 then tyc51 else {}) else (bif Nat.blt t 53 then (bif Nat.beq t 52 then tyc52 else {}) else (bif Nat.beq t 53 then tyc53 else {}))) else (bif Nat.blt t 55 then (bif Nat.beq t 54 then tyc54 else {}) else (bif Nat.blt t 56 then (bif Nat.beq t 55 then tyc55 else {}) else (bif Nat.beq t 56 then tyc56 else {}))))) else (bif Nat.blt t 62 then (bif Nat.blt t 59 then (bif Nat.blt t 58 then (bif Nat.beq t 57 then tyc57 else {}) else (bif Nat.beq t 58 then tyc58 else {})) else (bif Nat.blt t 60 then (bif Nat.beq t 59 then tyc59 else {}) else (bif Nat.blt t 61 then (bif Nat.beq t 60 then tyc60 else {}) else (bif Nat.beq t 61 then tyc61 else {})))) else (bif Nat.blt t 65 then (bif Nat.blt t 63 then (bif Nat.beq t 62 then tyc62 else {}) else (bif Nat.blt t 64 then (bif Nat.beq t 63 then tyc63 else {}) else (bif Nat.beq t 64 then tyc64 else {}))) else (bif Nat.blt t 66 then (bif Nat.beq t 65 then tyc65 else {}) else (bif Nat.blt t 67 then (bif Nat.beq t 66 then tyc66 else {}) else (bif Nat.beq t 67 then tyc67 else {})))))) else (bif Nat.blt t 79 then (bif Nat.blt t 73 then (bif Nat.blt t 70 then (bif Nat.blt t 69 then (bif Nat.beq t 68 then tyc68 else {}) else (bif Nat.beq t 69 then tyc69 else {})) else (bif Nat.blt t 71 then (bif Nat.beq t 70 then tyc70 else {}) else (bif Nat.blt t 72 then (bif Nat.beq t 71 then tyc71 else {}) else (bif Nat.beq t 72 then tyc72 else {})))) else (bif Nat.blt t 76 then (bif Nat.blt t 74 then (bif Nat.beq t 73 then tyc73 else {}) else (bif Nat.blt t 75 then (bif Nat.beq t 74 then tyc74 else {}) else (bif Nat.beq t 75 then tyc75 else {}))) else (bif Nat.blt t 77 then (bif Nat.beq t 76 then tyc76 else {}) else (bif Nat.blt t 78 then (bif Nat.beq t 77 then tyc77 else {}) else (bif Nat.beq t 78 then tyc78 else {}))))) else (bif Nat.blt t 84 then (bif Nat.blt t 81 then (bif Nat.blt t 80 then (bif Nat.beq t 79 then tyc79 else {}) else (bif Nat.beq t 80 then tyc80 else {})) else (bif Nat.blt t 82 then (bif Nat.beq t 81 then tyc81 else {}) else (bif Nat.blt t 83 then (bif Nat.beq t 82 then tyc82 else {}) else (bif Nat.beq t 83 then tyc83 else {})))) else (bif Nat.blt t 87 then (bif Nat.blt t 85 then (bif Nat.beq t 84 then tyc84 else {}) else (bif Nat.blt t 86 then (bif Nat.beq t 85 then tyc85 else {}) else (bif Nat.beq t 86 then tyc86 else {}))) else (bif Nat.blt t 88 then (bif Nat.beq t 87 then tyc87 else {}) else (bif Nat.blt t 89 then (bif Nat.beq t 88 then tyc88 else {}) else (bif Nat.beq t 89 then tyc89 else {})))))))) else (bif Nat.blt t 135 then (bif Nat.blt t 112 then (bif Nat.blt t 101 then (bif Nat.blt t 95 then (bif Nat.blt t 92 then (bif Nat.blt t 91 then (bif Nat.beq t 90 then tyc90 else {}) else (bif Nat.beq t 91 then tyc91 else {})) else (bif Nat.blt t 93 then (bif Nat.beq t 92 then tyc92 else {}) else (bif Nat.blt t 94 then (bif Nat.beq t 93 then tyc93 else {}) else (bif Nat.beq t 94 then tyc94 else {})))) else (bif Nat.blt t 98 then (bif Nat.blt t 96 then (bif Nat.beq t 95 then tyc95 else {}) else (bif Nat.beq t 96 then tyc96 else {})) else (bif Nat.blt t 99 then (bif Nat.beq t 98 then tyc98 else {}) else (bif Nat.blt t 100 then (bif Nat.beq t 99 then tyc99 else {}) else (bif Nat.beq t 100 then tyc100 else {}))))) else (bif Nat.blt t 106 then (bif Nat.blt t 103 then (bif Nat.blt t 102 then (bif Nat.beq t 101 then tyc101 else {}) else (bif Nat.beq t 102 then tyc102 else {})) else (bif Nat.blt t 104 then (bif Nat.beq t 103 then tyc103 else {}) else (bif Nat.blt t 105 then (bif Nat.beq t 104 then tyc104 else {}) else (bif Nat.beq t 105 then tyc105 else {})))) else (bif Nat.blt t 109 then (bif Nat.blt t 107 then (bif Nat.beq t 106 then tyc106 else {}) else (bif Nat.blt t 108 then (bif Nat.beq t 107 then tyc107 else {}) else (bif Nat.beq t 108 then tyc108 else {}))) else (bif Nat.blt t 110 then (bif Nat.beq t 109 then tyc109 else {}) else (bif Nat.blt t 111 then (bif Nat.beq t 110 then tyc110 else {}) else (bif Nat.beq t 111 then tyc111 else {})))))) else (bif Nat.blt t 123 then (bif Nat.blt t 117 then (bif Nat.blt t 114 then (bif Nat.blt t 113 then (bif Nat.beq t 112 then tyc112 else {}) else (bif Nat.beq t 113 then tyc113 else {})) else (bif Nat.blt t 115 then (bif Nat.beq t 114 then tyc114 else {}) else (bif Nat.blt t 116 then (bif Nat.beq t 115 then tyc115 else {}) else (bif Nat.beq t 116 then tyc116 else {})))) else (bif Nat.blt t 120 then (bif Nat.blt t 118 then (bif Nat.beq t 117 then tyc117 else {}) else (bif Nat.blt t 119 then (bif Nat.beq t 118 then tyc118 else {}) else (bif Nat.beq t 119 then tyc119 else {}))) else (bif Nat.blt t 121 then (bif Nat.beq t 120 then tyc120 else {}) else (bif Nat.blt t 122 then (bif Nat.beq t 121 then tyc121 else {}) else (bif Nat.beq t 122 then tyc122 else {}))))) else (bif Nat.blt t 128 then (bif Nat.blt t 125 then (bif Nat.blt t 124 then (bif Nat.beq t 123 then tyc123 else {}) else (bif Nat.beq t 124 then tyc124 else {})) else (bif Nat.blt t 126 then (bif Nat.beq t 125 then tyc125 else {}) else (bif Nat.blt t 127 then (bif Nat.beq t 126 then tyc126 else {}) else (bif Nat.beq t 127 then tyc127 else {})))) else (bif Nat.blt t 132 then (bif Nat.blt t 129 then (bif Nat.beq t 128 then tyc128 else {}) else (bif Nat.blt t 131 then (bif Nat.beq t 129 then tyc129 else {}) else (bif Nat.beq t 131 then tyc131 else {}))) else (bif Nat.blt t 133 then (bif Nat.beq t 132 then tyc132 else {}) else (bif Nat.blt t 134 then (bif Nat.beq t 133 then tyc133 else {}) else (bif Nat.beq t 134 then tyc134 else {}))))))) else (bif Nat.blt t 158 then (bif Nat.blt t 146 then (bif Nat.blt t 140 then (bif Nat.blt t 137 then (bif Nat.blt t 136 then (bif Nat.beq t 135 then tyc135 else {}) else (bif Nat.beq t 136 then tyc136 else {})) else (bif Nat.blt t 138 then (bif Nat.beq t 137 then tyc137 else {}) else (bif Nat.blt t 139 then (bif Nat.beq t 138 then tyc138 else {}) else (bif Nat.beq t 139 then tyc139 else {})))) else (bif Nat.blt t 143 then (bif Nat.blt t 141 then (bif Nat.beq t 140 then tyc140 else {}) else (bif Nat.blt t 142 then (bif Nat.beq t 141 then tyc141 else {}) else (bif Nat.beq t 142 then tyc142 else {}))) else (bif Nat.blt t 144 then (bif Nat.beq t 143 then tyc143 else {}) else (bif Nat.blt t 145 then (bif Nat.beq t 144 then tyc144 else {}) else (bif Nat.beq t 145 then tyc145 else {}))))) else (bif Nat.blt t 152 then (bif Nat.blt t 148 then (bif Nat.blt t 147 then (bif Nat.beq t 146 then tyc146 else {}) else (bif Nat.beq t 147 then tyc147 else {})) else (bif Nat.blt t 150 then (bif Nat.beq t 148 then tyc148 else {}) else (bif Nat.blt t 151 then (bif Nat.beq t 150 then tyc150 else {}) else (bif Nat.beq t 151 then tyc151 else {})))) else (bif Nat.blt t 155 then (bif Nat.blt t 153 then (bif Nat.beq t 152 then tyc152 else {}) else (bif Nat.blt t 154 then (bif Nat.beq t 153 then tyc153 else {}) else (bif Nat.beq t 154 then tyc154 else {}))) else (bif Nat.blt t 156 then (bif Nat.beq t 155 then tyc155 else {}) else (bif Nat.blt t 157 then (bif Nat.beq t 156 then tyc156 else {}) else (bif Nat.beq t 157 then tyc157 else {})))))) else (bif Nat.blt t 170 then (bif Nat.blt t 163 then (bif Nat.blt t 160 then (bif Nat.blt t 159 then (bif Nat.beq t 158 then tyc158 else {}) else (bif Nat.beq t 159 then tyc159 else {})) else (bif Nat.blt t 161 then (bif Nat.beq t 160 then tyc160 else {}) else (bif Nat.blt t 162 then (bif Nat.beq t 161 then tyc161 else {}) else (bif Nat.beq t 162 then tyc162 else {})))) else (bif Nat.blt t 167 then (bif Nat.blt t 165 then (bif Nat.beq t 163 then tyc163 else {}) else (bif Nat.blt t 166 then (bif Nat.beq t 165 then tyc165 else {}) else (bif Nat.beq t 166 then tyc166 else {}))) else (bif Nat.blt t 168 then (bif Nat.beq t 167 then tyc167 else {}) else (bif Nat.blt t 169 then (bif Nat.beq t 168 then tyc168 else {}) else (bif Nat.beq t 169 then tyc169 else {}))))) else (bif Nat.blt t 175 then (bif Nat.blt t 172 then (bif Nat.blt t 171 then (bif Nat.beq t 170 then tyc170 else {}) else (bif Nat.beq t 171 then tyc171 else {})) else (bif Nat.blt t 173 then (bif Nat.beq t 172 then tyc172 else {}) else (bif Nat.blt t 174 then (bif Nat.beq t 173 then tyc173 else {}) else (bif Nat.beq t 174 then tyc174 else {})))) else (bif Nat.blt t 178 then (bif Nat.blt t 176 then (bif Nat.beq t 175 then tyc175 else {}) else (bif Nat.blt t 177 then (bif Nat.beq t 176 then tyc176 else {}) else (bif Nat.beq t 177 then tyc177 else {}))) else (bif Nat.blt t 179 then (bif Nat.beq t 178 then tyc178 else {}) else (bif Nat.blt t 180 then (bif Nat.beq t 179 then tyc179 else {}) else (bif Nat.beq t 180 then tyc180 else {})))))))))
theorem tycs_ok (t : TypeId) : TyC.Ok Try.prog t (tycs t) := (okNode (okNode (okNode (okNode (okNode (okNode (okNode (okLeaf tyc1_ok) (okLeaf tyc2_ok)) (okNode (okLeaf tyc3_ok) (okNode (okLeaf tyc4_ok) (okLeaf tyc5_ok)))) (okNode (okNode (okLeaf tyc6_ok) (okLeaf tyc7_ok)) (okNode (okLeaf tyc8_ok) (okNode (okLeaf tyc9_ok) (okLeaf tyc10_ok))))) (okNode (okNode (okNode (okLeaf tyc11_ok) (okLeaf tyc12_ok)) (okNode (okLeaf tyc13_ok) (okNode (okLeaf tyc14_ok) (okLeaf tyc15_ok)))) (okNode (okNode (okLeaf tyc16_ok) (okNode (okLeaf tyc17_ok) (okLeaf tyc18_ok))) (okNode (okLeaf tyc19_ok) (okNode (okLeaf tyc20_ok) (okLeaf tyc21_ok)))))) (okNode (okNode (okNode (okNode (okLeaf tyc22_ok) (okLeaf tyc23_ok)) (okNode (okLeaf tyc24_ok) (okNode (okLeaf tyc25_ok) (okLeaf tyc26_ok)))) (okNode (okNode (okLeaf tyc27_ok) (okNode (okLeaf tyc28_ok) (okLeaf tyc29_ok))) (okNode (okLeaf tyc30_ok) (okNode (okLeaf tyc31_ok) (okLeaf tyc33_ok))))) (okNode (okNode (okNode (okLeaf tyc34_ok) (okLeaf tyc35_ok)) (okNode (okLeaf tyc36_ok) (okNode (okLeaf tyc37_ok) (okLeaf tyc38_ok)))) (okNode (okNode (okLeaf tyc39_ok) (okNode (okLeaf tyc40_ok) (okLeaf tyc41_ok))) (okNode (okLeaf tyc43_ok) (okNode (okLeaf tyc44_ok) (okLeaf tyc45_ok))))))) (okNode (okNode (okNode (okNode (okNode (okLeaf tyc46_ok) (okLeaf tyc47_ok)) (okNode (okLeaf tyc48_ok) (okNode (okLeaf tyc49_ok) (okLeaf tyc50_ok)))) (okNode (okNode (okLeaf tyc51_ok) (okNode (okLeaf tyc52_ok) (okLeaf tyc53_ok))) (okNode (okLeaf tyc54_ok) (okNode (okLeaf tyc55_ok) (okLeaf tyc56_ok))))) (okNode (okNode (okNode (okLeaf tyc57_ok) (okLeaf tyc58_ok)) (okNode (okLeaf tyc59_ok) (okNode (okLeaf tyc60_ok) (okLeaf tyc61_ok)))) (okNode (okNode (okLeaf tyc62_ok) (okNode (okLeaf tyc63_ok) (okLeaf tyc64_ok))) (okNode (okLeaf tyc65_ok) (okNode (okLeaf tyc66_ok) (okLeaf tyc67_ok)))))) (okNode (okNode (okNode (okNode (okLeaf tyc68_ok) (okLeaf tyc69_ok)) (okNode (okLeaf tyc70_ok) (okNode (okLeaf tyc71_ok) (okLeaf tyc72_ok)))) (okNode (okNode (okLeaf tyc73_ok) (okNode (okLeaf tyc74_ok) (okLeaf tyc75_ok))) (okNode (okLeaf tyc76_ok) (okNode (okLeaf tyc77_ok) (okLeaf tyc78_ok))))) (okNode (okNode (okNode (okLeaf tyc79_ok) (okLeaf tyc80_ok)) (okNode (okLeaf tyc81_ok) (okNode (okLeaf tyc82_ok) (okLeaf tyc83_ok)))) (okNode (okNode (okLeaf tyc84_ok) (okNode (okLeaf tyc85_ok) (okLeaf tyc86_ok))) (okNode (okLeaf tyc87_ok) (okNode (okLeaf tyc88_ok) (okLeaf tyc89_ok)))))))) (okNode (okNode (okNode (okNode (okNode (okNode (okLeaf tyc90_ok) (okLeaf tyc91_ok)) (okNode (okLeaf tyc92_ok) (okNode (okLeaf tyc93_ok) (okLeaf tyc94_ok)))) (okNode (okNode (okLeaf tyc95_ok) (okLeaf tyc96_ok)) (okNode (okLeaf tyc98_ok) (okNode (okLeaf tyc99_ok) (okLeaf tyc100_ok))))) (okNode (okNode (okNode (okLeaf tyc101_ok) (okLeaf tyc102_ok)) (okNode (okLeaf tyc103_ok) (okNode (okLeaf tyc104_ok) (okLeaf tyc105_ok)))) (okNode (okNode (okLeaf tyc106_ok) (okNode (okLeaf tyc107_ok) (okLeaf tyc108_ok))) (okNode (okLeaf tyc109_ok) (okNode (okLeaf tyc110_ok) (okLeaf tyc111_ok)))))) (okNode (okNode (okNode (okNode (okLeaf tyc112_ok) (okLeaf tyc113_ok)) (okNode (okLeaf tyc114_ok) (okNode (okLeaf tyc115_ok) (okLeaf tyc116_ok)))) (okNode (okNode (okLeaf tyc117_ok) (okNode (okLeaf tyc118_ok) (okLeaf tyc119_ok))) (okNode (okLeaf tyc120_ok) (okNode (okLeaf tyc121_ok) (okLeaf tyc122_ok))))) (okNode (okNode (okNode (okLeaf tyc123_ok) (okLeaf tyc124_ok)) (okNode (okLeaf tyc125_ok) (okNode (okLeaf tyc126_ok) (okLeaf tyc127_ok)))) (okNode (okNode (okLeaf tyc128_ok) (okNode (okLeaf tyc129_ok) (okLeaf tyc131_ok))) (okNode (okLeaf tyc132_ok) (okNode (okLeaf tyc133_ok) (okLeaf tyc134_ok))))))) (okNode (okNode (okNode (okNode (okNode (okLeaf tyc135_ok) (okLeaf tyc136_ok)) (okNode (okLeaf tyc137_ok) (okNode (okLeaf tyc138_ok) (okLeaf tyc139_ok)))) (okNode (okNode (okLeaf tyc140_ok) (okNode (okLeaf tyc141_ok) (okLeaf tyc142_ok))) (okNode (okLeaf tyc143_ok) (okNode (okLeaf tyc144_ok) (okLeaf tyc145_ok))))) (okNode (okNode (okNode (okLeaf tyc146_ok) (okLeaf tyc147_ok)) (okNode (okLeaf tyc148_ok) (okNode (okLeaf tyc150_ok) (okLeaf tyc151_ok)))) (okNode (okNode (okLeaf tyc152_ok) (okNode (okLeaf tyc153_ok) (okLeaf tyc154_ok))) (okNode (okLeaf tyc155_ok) (okNode (okLeaf tyc156_ok) (okLeaf tyc157_ok)))))) (okNode (okNode (okNode (okNode (okLeaf tyc158_ok) (okLeaf tyc159_ok)) (okNode (okLeaf tyc160_ok) (okNode (okLeaf tyc161_ok) (okLeaf tyc162_ok)))) (okNode (okNode (okLeaf tyc163_ok) (okNode (okLeaf tyc165_ok) (okLeaf tyc166_ok))) (okNode (okLeaf tyc167_ok) (okNode (okLeaf tyc168_ok) (okLeaf tyc169_ok))))) (okNode (okNode (okNode (okLeaf tyc170_ok) (okLeaf tyc171_ok)) (okNode (okLeaf tyc172_ok) (okNode (okLeaf tyc173_ok) (okLeaf tyc174_ok)))) (okNode (okNode (okLeaf tyc175_ok) (okNode (okLeaf tyc176_ok) (okLeaf tyc177_ok))) (okNode (okLeaf tyc178_ok) (okNode (okLeaf tyc179_ok) (okLeaf tyc180_ok)))))))))
instance : Tys Try.prog := ⟨tycs, tycs_ok⟩
instance : Mixed Try.prog := ⟨by kernel_rfl⟩
end Go.Abs
set_option linter.unusedSimpArgs false
set_option linter.unusedSectionVars false
namespace Go.Abs
open Go
structure Typ where
 width : Int
 signed : Bool
deriving DecidableEq
def Typ.z : Typ := ⟨0, false⟩
def Typ.e (x : Typ) : Nat -> T
 | 0 => .int .i64 x.width
 | 1 => .bool x.signed
 | _ => .any
def Fn.z : Fn := ⟨ByteArray.empty, [], [], [], [], []⟩
inductive Ow (α β : Type) where
 | own (l : List α)
 | fz (l : List β)
inductive Gn (α : Type) where
 | own (l : List α)
 | gone
def Sp.gnL {α : Type} : Gn α -> Option (List α)
 | .own l => some l
 | .gone => none
def Sp.ownL {α β : Type} : Ow α β -> Option (List α)
 | .own l => some l
 | .fz _ => none
def Sp.frzL {α β : Type} : Ow α β -> Option (List β)
 | .own _ => none
 | .fz l => some l
structure InstM where
 op : Int
 dest : Int
 args : (Ow Int Int)
 num : Int
 mem : Int
def InstM.z : InstM := ⟨0, 0, (.fz []), 0, 0⟩
structure EdgeM where
 block : Int
 args : (Ow Int Int)
def EdgeM.z : EdgeM := ⟨0, (.fz [])⟩
structure TermM where
 kind : Int
 cond : Int
 to : (Ow EdgeM Edge)
 rets : (Ow Int Int)
def TermM.z : TermM := ⟨0, 0, (.fz []), (.fz [])⟩
structure BlockM where
 params : (Ow Int Int)
 insts : (Ow InstM Inst)
 term : TermM
 pipeline : Int
 unroll : Int
 line : Int
def BlockM.z : BlockM := ⟨(.fz []), (.fz []), TermM.z, 0, 0, 0⟩
structure LsI where
 v : (Gn Int)
def LsI.z : LsI := ⟨(.own [])⟩
@[reducible] def suD : Nat -> Type
 | 0 => Inst
 | 1 => Edge
 | 2 => Term
 | 3 => Block
 | 4 => Arr
 | 5 => Strm
 | 6 => Fn
 | 7 => Typ
 | 8 => InstM
 | 9 => EdgeM
 | 10 => TermM
 | 11 => BlockM
 | 12 => LsI
 | _ => Unit
def suZ : (i : Nat) -> suD i
 | 0 => Inst.z
 | 1 => Edge.z
 | 2 => Term.z
 | 3 => Block.z
 | 4 => Arr.z
 | 5 => Strm.z
 | 6 => Fn.z
 | 7 => Typ.z
 | 8 => InstM.z
 | 9 => EdgeM.z
 | 10 => TermM.z
 | 11 => BlockM.z
 | 12 => LsI.z
 | _ + 13 => ()
def suSz : Nat -> Nat
 | 0 => 5
 | 1 => 2
 | 2 => 4
 | 3 => 9
 | 4 => 5
 | 5 => 3
 | 6 => 6
 | 7 => 2
 | 8 => 5
 | 9 => 2
 | 10 => 4
 | 11 => 9
 | 12 => 1
 | _ => 0
def suEnc : (i : Nat) -> suD i -> Nat -> T
 | 0, x => Inst.e x
 | 1, x => Edge.e x
 | 2, x => Term.e x
 | 3, x => Block.e x
 | 4, x => Arr.e x
 | 5, x => Strm.e x
 | 6, x => Fn.e x
 | 7, x => Typ.e x
 | _ + 8, _ => fun _ => .any
instance : SU := ⟨suD, suZ, suSz, suEnc⟩
theorem castN_same : ∀ (D : Nat -> Type) (i : Nat) (x : D i), castN D i i x = some x
 | D, 0, x => rfl
 | D, i + 1, x => castN_same (fun n => D (n + 1)) i x
theorem castF_same : ∀ (F : Type -> Type) (τ : Ty) (x : F τ.D), castF F τ τ x = some x
 | F, .bool, x => rfl
 | F, .int k, x => by cases k <;> rfl
 | F, .str, x => rfl
 | F, .st i, x => castN_same (fun i => F (SU.D i)) i x
 | F, .sl e, x => castF_same (fun X => F (List X)) e x
 | F, .ol t e, x => by simp only [castF, Nat.beq_refl, cond_true]; exact castF_same (fun X => F (List X)) e x
def set0 : (τ : Ty) -> EV -> Option τ.D
 | .bool, .b y => some y
 | .int k, .i k' n => bif kindEq k k' then some n else none
 | .str, .s y => some y
 | .sl e, .fz e' l => castF List e' e l
 | .sl e, .nils => some []
 | _, _ => none
def cell0 : (τ : Ty) -> τ.D -> EV
 | .bool, x => .b x
 | .int k, x => .i k x
 | .str, x => .s x
 | .sl e, l => .fz e l
 | .st i, x => .un
 | .ol _ _, x => .un
theorem set0_ok {τ : Ty} {v : EV} {y : τ.D} (h : set0 τ v = some y) : ∀ len, Wk (toV len v) (toV len (cell0 τ y)) := fun len => by
 cases τ with
 | bool => cases v <;> simp only [set0] at h <;> first | (cases h; done) | (injection h with h; subst h; exact Wk.refl _)
 | int k =>
  cases v <;> simp only [set0] at h <;> try (cases h; done)
  rename_i k' n
  cases hk : kindEq k k' with
  | false => rw [hk] at h; cases h
  | true =>
   have := kindEq_eq hk
   subst this
   rw [hk] at h
   simp only [cond_true] at h
   injection h with h; subst h; exact Wk.refl _
 | str => cases v <;> simp only [set0] at h <;> first | (cases h; done) | (injection h with h; subst h; exact Wk.refl _)
 | st i => simp only [cell0, toV]; exact Wk.un _
 | ol _ _ => simp only [cell0, toV]; exact Wk.un _
 | sl e =>
  cases v <;> simp only [set0] at h <;> try (cases h; done)
  ·obtain ⟨rfl, h⟩ := castL_ok h
   obtain rfl := eq_of_heq h
   exact Wk.refl _
  ·injection h with h; subst h
   simp only [cell0, toV, encL]
   exact Wk.nils _ _
def Inst.c (x : Inst) : Nat -> EV
 | 0 => .i .i64 (x.op)
 | 1 => .i .i64 (x.dest)
 | 2 => .fz (.int .i64) (x.args)
 | 3 => .i .u64 (x.num)
 | 4 => .i .i64 (x.mem)
 | _ => .un
def Inst.s (x : Inst) (j : Nat) (v : EV) : Option Inst := match j with
 | 0 => match set0 (.int .i64) v with
  | some y => some { x with op := y }
  | none => none
 | 1 => match set0 (.int .i64) v with
  | some y => some { x with dest := y }
  | none => none
 | 2 => match set0 (.sl (.int .i64)) v with
  | some y => some { x with args := y }
  | none => none
 | 3 => match set0 (.int .u64) v with
  | some y => some { x with num := y }
  | none => none
 | 4 => match set0 (.int .i64) v with
  | some y => some { x with mem := y }
  | none => none
 | _ => none
def Inst.m : List EV -> Option Inst
 | [a0, a1, a2, a3, a4] => match set0 (.int .i64) a0, set0 (.int .i64) a1, set0 (.sl (.int .i64)) a2, set0 (.int .u64) a3, set0 (.int .i64) a4 with
  | some y0, some y1, some y2, some y3, some y4 => some ⟨y0, y1, y2, y3, y4⟩
  | _, _, _, _, _ => none
 | _ => none
theorem Inst.c_ok (x : Inst) (len : Len) : ∀ j, j < 5 -> toV len (Inst.c x j) = .t (Inst.e x j)
 | 0, _ => by simp only [Inst.c, toV]; rfl
 | 1, _ => by simp only [Inst.c, toV]; rfl
 | 2, _ => by simp only [Inst.c, toV]; rfl
 | 3, _ => by simp only [Inst.c, toV]; rfl
 | 4, _ => by simp only [Inst.c, toV]; rfl
 | n + 5, h => absurd h (by omega)
theorem Inst.c_dat (x : Inst) : ∀ j, (Inst.c x j).dat = true
 | 0 => rfl
 | 1 => rfl
 | 2 => rfl
 | 3 => rfl
 | 4 => rfl
 | n + 5 => rfl
theorem Inst.s_ok (x : Inst) (j : Nat) (v : EV) (y : Inst) (h : Inst.s x j v = some y) : (∀ len, Wk (toV len v) (toV len (Inst.c y j))) /\ ∀ j', j' ≠ j -> Inst.c y j' = Inst.c x j' := by
 match j with
 | 0 =>
  simp only [Inst.s] at h
  split at h
  ·rename_i a ha
   injection h with h
   subst h
   refine ⟨set0_ok ha, fun j' hj => ?_⟩
   match j', hj with
   | 0, hj => exact absurd rfl hj
   | 1, hj => exact rfl
   | 2, hj => exact rfl
   | 3, hj => exact rfl
   | 4, hj => exact rfl
   | n + 5, _ => rfl
  ·cases h
 | 1 =>
  simp only [Inst.s] at h
  split at h
  ·rename_i a ha
   injection h with h
   subst h
   refine ⟨set0_ok ha, fun j' hj => ?_⟩
   match j', hj with
   | 0, hj => exact rfl
   | 1, hj => exact absurd rfl hj
   | 2, hj => exact rfl
   | 3, hj => exact rfl
   | 4, hj => exact rfl
   | n + 5, _ => rfl
  ·cases h
 | 2 =>
  simp only [Inst.s] at h
  split at h
  ·rename_i a ha
   injection h with h
   subst h
   refine ⟨set0_ok ha, fun j' hj => ?_⟩
   match j', hj with
   | 0, hj => exact rfl
   | 1, hj => exact rfl
   | 2, hj => exact absurd rfl hj
   | 3, hj => exact rfl
   | 4, hj => exact rfl
   | n + 5, _ => rfl
  ·cases h
 | 3 =>
  simp only [Inst.s] at h
  split at h
  ·rename_i a ha
   injection h with h
   subst h
   refine ⟨set0_ok ha, fun j' hj => ?_⟩
   match j', hj with
   | 0, hj => exact rfl
   | 1, hj => exact rfl
   | 2, hj => exact rfl
   | 3, hj => exact absurd rfl hj
   | 4, hj => exact rfl
   | n + 5, _ => rfl
  ·cases h
 | 4 =>
  simp only [Inst.s] at h
  split at h
  ·rename_i a ha
   injection h with h
   subst h
   refine ⟨set0_ok ha, fun j' hj => ?_⟩
   match j', hj with
   | 0, hj => exact rfl
   | 1, hj => exact rfl
   | 2, hj => exact rfl
   | 3, hj => exact rfl
   | 4, hj => exact absurd rfl hj
   | n + 5, _ => rfl
  ·cases h
 | n + 5 => simp [Inst.s] at h
theorem Inst.m_ok (l : List EV) (y : Inst) (h : Inst.m l = some y) : l.length = 5 /\ ∀ j, j < 5 -> ∀ len, Wk (toVs len l j) (toV len (Inst.c y j)) := by
 unfold Inst.m at h
 split at h
 ·split at h
  ·rename_i h0 h1 h2 h3 h4
   injection h with h
   subst h
   refine ⟨rfl, fun j hj len => ?_⟩
   match j, hj with
   | 0, _ => simp only [toVs]; exact set0_ok h0 len
   | 1, _ => simp only [toVs]; exact set0_ok h1 len
   | 2, _ => simp only [toVs]; exact set0_ok h2 len
   | 3, _ => simp only [toVs]; exact set0_ok h3 len
   | 4, _ => simp only [toVs]; exact set0_ok h4 len
   | n + 5, h => exact absurd h (by omega)
  ·cases h
 ·cases h
def Edge.c (x : Edge) : Nat -> EV
 | 0 => .i .i64 (x.block)
 | 1 => .fz (.int .i64) (x.args)
 | _ => .un
def Edge.s (x : Edge) (j : Nat) (v : EV) : Option Edge := match j with
 | 0 => match set0 (.int .i64) v with
  | some y => some { x with block := y }
  | none => none
 | 1 => match set0 (.sl (.int .i64)) v with
  | some y => some { x with args := y }
  | none => none
 | _ => none
def Edge.m : List EV -> Option Edge
 | [a0, a1] => match set0 (.int .i64) a0, set0 (.sl (.int .i64)) a1 with
  | some y0, some y1 => some ⟨y0, y1⟩
  | _, _ => none
 | _ => none
theorem Edge.c_ok (x : Edge) (len : Len) : ∀ j, j < 2 -> toV len (Edge.c x j) = .t (Edge.e x j)
 | 0, _ => by simp only [Edge.c, toV]; rfl
 | 1, _ => by simp only [Edge.c, toV]; rfl
 | n + 2, h => absurd h (by omega)
theorem Edge.c_dat (x : Edge) : ∀ j, (Edge.c x j).dat = true
 | 0 => rfl
 | 1 => rfl
 | n + 2 => rfl
theorem Edge.s_ok (x : Edge) (j : Nat) (v : EV) (y : Edge) (h : Edge.s x j v = some y) : (∀ len, Wk (toV len v) (toV len (Edge.c y j))) /\ ∀ j', j' ≠ j -> Edge.c y j' = Edge.c x j' := by
 match j with
 | 0 =>
  simp only [Edge.s] at h
  split at h
  ·rename_i a ha
   injection h with h
   subst h
   refine ⟨set0_ok ha, fun j' hj => ?_⟩
   match j', hj with
   | 0, hj => exact absurd rfl hj
   | 1, hj => exact rfl
   | n + 2, _ => rfl
  ·cases h
 | 1 =>
  simp only [Edge.s] at h
  split at h
  ·rename_i a ha
   injection h with h
   subst h
   refine ⟨set0_ok ha, fun j' hj => ?_⟩
   match j', hj with
   | 0, hj => exact rfl
   | 1, hj => exact absurd rfl hj
   | n + 2, _ => rfl
  ·cases h
 | n + 2 => simp [Edge.s] at h
theorem Edge.m_ok (l : List EV) (y : Edge) (h : Edge.m l = some y) : l.length = 2 /\ ∀ j, j < 2 -> ∀ len, Wk (toVs len l j) (toV len (Edge.c y j)) := by
 unfold Edge.m at h
 split at h
 ·split at h
  ·rename_i h0 h1
   injection h with h
   subst h
   refine ⟨rfl, fun j hj len => ?_⟩
   match j, hj with
   | 0, _ => simp only [toVs]; exact set0_ok h0 len
   | 1, _ => simp only [toVs]; exact set0_ok h1 len
   | n + 2, h => exact absurd h (by omega)
  ·cases h
 ·cases h
def Term.c (x : Term) : Nat -> EV
 | 0 => .i .i64 (x.kind)
 | 1 => .i .i64 (x.cond)
 | 2 => .fz (.st 1) (x.to)
 | 3 => .fz (.int .i64) (x.rets)
 | _ => .un
def Term.s (x : Term) (j : Nat) (v : EV) : Option Term := match j with
 | 0 => match set0 (.int .i64) v with
  | some y => some { x with kind := y }
  | none => none
 | 1 => match set0 (.int .i64) v with
  | some y => some { x with cond := y }
  | none => none
 | 2 => match set0 (.sl (.st 1)) v with
  | some y => some { x with to := y }
  | none => none
 | 3 => match set0 (.sl (.int .i64)) v with
  | some y => some { x with rets := y }
  | none => none
 | _ => none
def Term.m : List EV -> Option Term
 | [a0, a1, a2, a3] => match set0 (.int .i64) a0, set0 (.int .i64) a1, set0 (.sl (.st 1)) a2, set0 (.sl (.int .i64)) a3 with
  | some y0, some y1, some y2, some y3 => some ⟨y0, y1, y2, y3⟩
  | _, _, _, _ => none
 | _ => none
theorem Term.c_ok (x : Term) (len : Len) : ∀ j, j < 4 -> toV len (Term.c x j) = .t (Term.e x j)
 | 0, _ => by simp only [Term.c, toV]; rfl
 | 1, _ => by simp only [Term.c, toV]; rfl
 | 2, _ => by simp only [Term.c, toV]; rfl
 | 3, _ => by simp only [Term.c, toV]; rfl
 | n + 4, h => absurd h (by omega)
theorem Term.c_dat (x : Term) : ∀ j, (Term.c x j).dat = true
 | 0 => rfl
 | 1 => rfl
 | 2 => rfl
 | 3 => rfl
 | n + 4 => rfl
theorem Term.s_ok (x : Term) (j : Nat) (v : EV) (y : Term) (h : Term.s x j v = some y) : (∀ len, Wk (toV len v) (toV len (Term.c y j))) /\ ∀ j', j' ≠ j -> Term.c y j' = Term.c x j' := by
 match j with
 | 0 =>
  simp only [Term.s] at h
  split at h
  ·rename_i a ha
   injection h with h
   subst h
   refine ⟨set0_ok ha, fun j' hj => ?_⟩
   match j', hj with
   | 0, hj => exact absurd rfl hj
   | 1, hj => exact rfl
   | 2, hj => exact rfl
   | 3, hj => exact rfl
   | n + 4, _ => rfl
  ·cases h
 | 1 =>
  simp only [Term.s] at h
  split at h
  ·rename_i a ha
   injection h with h
   subst h
   refine ⟨set0_ok ha, fun j' hj => ?_⟩
   match j', hj with
   | 0, hj => exact rfl
   | 1, hj => exact absurd rfl hj
   | 2, hj => exact rfl
   | 3, hj => exact rfl
   | n + 4, _ => rfl
  ·cases h
 | 2 =>
  simp only [Term.s] at h
  split at h
  ·rename_i a ha
   injection h with h
   subst h
   refine ⟨set0_ok ha, fun j' hj => ?_⟩
   match j', hj with
   | 0, hj => exact rfl
   | 1, hj => exact rfl
   | 2, hj => exact absurd rfl hj
   | 3, hj => exact rfl
   | n + 4, _ => rfl
  ·cases h
 | 3 =>
  simp only [Term.s] at h
  split at h
  ·rename_i a ha
   injection h with h
   subst h
   refine ⟨set0_ok ha, fun j' hj => ?_⟩
   match j', hj with
   | 0, hj => exact rfl
   | 1, hj => exact rfl
   | 2, hj => exact rfl
   | 3, hj => exact absurd rfl hj
   | n + 4, _ => rfl
  ·cases h
 | n + 4 => simp [Term.s] at h
theorem Term.m_ok (l : List EV) (y : Term) (h : Term.m l = some y) : l.length = 4 /\ ∀ j, j < 4 -> ∀ len, Wk (toVs len l j) (toV len (Term.c y j)) := by
 unfold Term.m at h
 split at h
 ·split at h
  ·rename_i h0 h1 h2 h3
   injection h with h
   subst h
   refine ⟨rfl, fun j hj len => ?_⟩
   match j, hj with
   | 0, _ => simp only [toVs]; exact set0_ok h0 len
   | 1, _ => simp only [toVs]; exact set0_ok h1 len
   | 2, _ => simp only [toVs]; exact set0_ok h2 len
   | 3, _ => simp only [toVs]; exact set0_ok h3 len
   | n + 4, h => exact absurd h (by omega)
  ·cases h
 ·cases h
def Block.c (x : Block) : Nat -> EV
 | 0 => .fz (.int .i64) (x.params)
 | 1 => .fz (.st 0) (x.insts)
 | 2 => .i .i64 (x.term.kind)
 | 3 => .i .i64 (x.term.cond)
 | 4 => .fz (.st 1) (x.term.to)
 | 5 => .fz (.int .i64) (x.term.rets)
 | 6 => .i .i64 (x.pipeline)
 | 7 => .i .i64 (x.unroll)
 | 8 => .i .i64 (x.line)
 | _ => .un
def Block.s (x : Block) (j : Nat) (v : EV) : Option Block := match j with
 | 0 => match set0 (.sl (.int .i64)) v with
  | some y => some { x with params := y }
  | none => none
 | 1 => match set0 (.sl (.st 0)) v with
  | some y => some { x with insts := y }
  | none => none
 | 2 => match set0 (.int .i64) v with
  | some y => some { x with term := { x.term with kind := y } }
  | none => none
 | 3 => match set0 (.int .i64) v with
  | some y => some { x with term := { x.term with cond := y } }
  | none => none
 | 4 => match set0 (.sl (.st 1)) v with
  | some y => some { x with term := { x.term with to := y } }
  | none => none
 | 5 => match set0 (.sl (.int .i64)) v with
  | some y => some { x with term := { x.term with rets := y } }
  | none => none
 | 6 => match set0 (.int .i64) v with
  | some y => some { x with pipeline := y }
  | none => none
 | 7 => match set0 (.int .i64) v with
  | some y => some { x with unroll := y }
  | none => none
 | 8 => match set0 (.int .i64) v with
  | some y => some { x with line := y }
  | none => none
 | _ => none
def Block.m : List EV -> Option Block
 | [a0, a1, a2, a3, a4, a5, a6, a7, a8] => match set0 (.sl (.int .i64)) a0, set0 (.sl (.st 0)) a1, set0 (.int .i64) a2, set0 (.int .i64) a3, set0 (.sl (.st 1)) a4, set0 (.sl (.int .i64)) a5, set0 (.int .i64) a6, set0 (.int .i64) a7, set0 (.int .i64) a8 with
  | some y0, some y1, some y2, some y3, some y4, some y5, some y6, some y7, some y8 => some ⟨y0, y1, ⟨y2, y3, y4, y5⟩, y6, y7, y8⟩
  | _, _, _, _, _, _, _, _, _ => none
 | _ => none
theorem Block.c_ok (x : Block) (len : Len) : ∀ j, j < 9 -> toV len (Block.c x j) = .t (Block.e x j)
 | 0, _ => by simp only [Block.c, toV]; rfl
 | 1, _ => by simp only [Block.c, toV]; rfl
 | 2, _ => by simp only [Block.c, toV]; rfl
 | 3, _ => by simp only [Block.c, toV]; rfl
 | 4, _ => by simp only [Block.c, toV]; rfl
 | 5, _ => by simp only [Block.c, toV]; rfl
 | 6, _ => by simp only [Block.c, toV]; rfl
 | 7, _ => by simp only [Block.c, toV]; rfl
 | 8, _ => by simp only [Block.c, toV]; rfl
 | n + 9, h => absurd h (by omega)
theorem Block.c_dat (x : Block) : ∀ j, (Block.c x j).dat = true
 | 0 => rfl
 | 1 => rfl
 | 2 => rfl
 | 3 => rfl
 | 4 => rfl
 | 5 => rfl
 | 6 => rfl
 | 7 => rfl
 | 8 => rfl
 | n + 9 => rfl
theorem Block.s_ok (x : Block) (j : Nat) (v : EV) (y : Block) (h : Block.s x j v = some y) : (∀ len, Wk (toV len v) (toV len (Block.c y j))) /\ ∀ j', j' ≠ j -> Block.c y j' = Block.c x j' := by
 match j with
 | 0 =>
  simp only [Block.s] at h
  split at h
  ·rename_i a ha
   injection h with h
   subst h
   refine ⟨set0_ok ha, fun j' hj => ?_⟩
   match j', hj with
   | 0, hj => exact absurd rfl hj
   | 1, hj => exact rfl
   | 2, hj => exact rfl
   | 3, hj => exact rfl
   | 4, hj => exact rfl
   | 5, hj => exact rfl
   | 6, hj => exact rfl
   | 7, hj => exact rfl
   | 8, hj => exact rfl
   | n + 9, _ => rfl
  ·cases h
 | 1 =>
  simp only [Block.s] at h
  split at h
  ·rename_i a ha
   injection h with h
   subst h
   refine ⟨set0_ok ha, fun j' hj => ?_⟩
   match j', hj with
   | 0, hj => exact rfl
   | 1, hj => exact absurd rfl hj
   | 2, hj => exact rfl
   | 3, hj => exact rfl
   | 4, hj => exact rfl
   | 5, hj => exact rfl
   | 6, hj => exact rfl
   | 7, hj => exact rfl
   | 8, hj => exact rfl
   | n + 9, _ => rfl
  ·cases h
 | 2 =>
  simp only [Block.s] at h
  split at h
  ·rename_i a ha
   injection h with h
   subst h
   refine ⟨set0_ok ha, fun j' hj => ?_⟩
   match j', hj with
   | 0, hj => exact rfl
   | 1, hj => exact rfl
   | 2, hj => exact absurd rfl hj
   | 3, hj => exact rfl
   | 4, hj => exact rfl
   | 5, hj => exact rfl
   | 6, hj => exact rfl
   | 7, hj => exact rfl
   | 8, hj => exact rfl
   | n + 9, _ => rfl
  ·cases h
 | 3 =>
  simp only [Block.s] at h
  split at h
  ·rename_i a ha
   injection h with h
   subst h
   refine ⟨set0_ok ha, fun j' hj => ?_⟩
   match j', hj with
   | 0, hj => exact rfl
   | 1, hj => exact rfl
   | 2, hj => exact rfl
   | 3, hj => exact absurd rfl hj
   | 4, hj => exact rfl
   | 5, hj => exact rfl
   | 6, hj => exact rfl
   | 7, hj => exact rfl
   | 8, hj => exact rfl
   | n + 9, _ => rfl
  ·cases h
 | 4 =>
  simp only [Block.s] at h
  split at h
  ·rename_i a ha
   injection h with h
   subst h
   refine ⟨set0_ok ha, fun j' hj => ?_⟩
   match j', hj with
   | 0, hj => exact rfl
   | 1, hj => exact rfl
   | 2, hj => exact rfl
   | 3, hj => exact rfl
   | 4, hj => exact absurd rfl hj
   | 5, hj => exact rfl
   | 6, hj => exact rfl
   | 7, hj => exact rfl
   | 8, hj => exact rfl
   | n + 9, _ => rfl
  ·cases h
 | 5 =>
  simp only [Block.s] at h
  split at h
  ·rename_i a ha
   injection h with h
   subst h
   refine ⟨set0_ok ha, fun j' hj => ?_⟩
   match j', hj with
   | 0, hj => exact rfl
   | 1, hj => exact rfl
   | 2, hj => exact rfl
   | 3, hj => exact rfl
   | 4, hj => exact rfl
   | 5, hj => exact absurd rfl hj
   | 6, hj => exact rfl
   | 7, hj => exact rfl
   | 8, hj => exact rfl
   | n + 9, _ => rfl
  ·cases h
 | 6 =>
  simp only [Block.s] at h
  split at h
  ·rename_i a ha
   injection h with h
   subst h
   refine ⟨set0_ok ha, fun j' hj => ?_⟩
   match j', hj with
   | 0, hj => exact rfl
   | 1, hj => exact rfl
   | 2, hj => exact rfl
   | 3, hj => exact rfl
   | 4, hj => exact rfl
   | 5, hj => exact rfl
   | 6, hj => exact absurd rfl hj
   | 7, hj => exact rfl
   | 8, hj => exact rfl
   | n + 9, _ => rfl
  ·cases h
 | 7 =>
  simp only [Block.s] at h
  split at h
  ·rename_i a ha
   injection h with h
   subst h
   refine ⟨set0_ok ha, fun j' hj => ?_⟩
   match j', hj with
   | 0, hj => exact rfl
   | 1, hj => exact rfl
   | 2, hj => exact rfl
   | 3, hj => exact rfl
   | 4, hj => exact rfl
   | 5, hj => exact rfl
   | 6, hj => exact rfl
   | 7, hj => exact absurd rfl hj
   | 8, hj => exact rfl
   | n + 9, _ => rfl
  ·cases h
 | 8 =>
  simp only [Block.s] at h
  split at h
  ·rename_i a ha
   injection h with h
   subst h
   refine ⟨set0_ok ha, fun j' hj => ?_⟩
   match j', hj with
   | 0, hj => exact rfl
   | 1, hj => exact rfl
   | 2, hj => exact rfl
   | 3, hj => exact rfl
   | 4, hj => exact rfl
   | 5, hj => exact rfl
   | 6, hj => exact rfl
   | 7, hj => exact rfl
   | 8, hj => exact absurd rfl hj
   | n + 9, _ => rfl
  ·cases h
 | n + 9 => simp [Block.s] at h
theorem Block.m_ok (l : List EV) (y : Block) (h : Block.m l = some y) : l.length = 9 /\ ∀ j, j < 9 -> ∀ len, Wk (toVs len l j) (toV len (Block.c y j)) := by
 unfold Block.m at h
 split at h
 ·split at h
  ·rename_i h0 h1 h2 h3 h4 h5 h6 h7 h8
   injection h with h
   subst h
   refine ⟨rfl, fun j hj len => ?_⟩
   match j, hj with
   | 0, _ => simp only [toVs]; exact set0_ok h0 len
   | 1, _ => simp only [toVs]; exact set0_ok h1 len
   | 2, _ => simp only [toVs]; exact set0_ok h2 len
   | 3, _ => simp only [toVs]; exact set0_ok h3 len
   | 4, _ => simp only [toVs]; exact set0_ok h4 len
   | 5, _ => simp only [toVs]; exact set0_ok h5 len
   | 6, _ => simp only [toVs]; exact set0_ok h6 len
   | 7, _ => simp only [toVs]; exact set0_ok h7 len
   | 8, _ => simp only [toVs]; exact set0_ok h8 len
   | n + 9, h => exact absurd h (by omega)
  ·cases h
 ·cases h
def Arr.c (x : Arr) : Nat -> EV
 | 0 => .s (x.name)
 | 1 => .i .i64 (x.width)
 | 2 => .i .i64 (x.len)
 | 3 => .i .i64 (x.kind)
 | 4 => .i .i64 (x.factor)
 | _ => .un
def Arr.s (x : Arr) (j : Nat) (v : EV) : Option Arr := match j with
 | 0 => match set0 (.str) v with
  | some y => some { x with name := y }
  | none => none
 | 1 => match set0 (.int .i64) v with
  | some y => some { x with width := y }
  | none => none
 | 2 => match set0 (.int .i64) v with
  | some y => some { x with len := y }
  | none => none
 | 3 => match set0 (.int .i64) v with
  | some y => some { x with kind := y }
  | none => none
 | 4 => match set0 (.int .i64) v with
  | some y => some { x with factor := y }
  | none => none
 | _ => none
def Arr.m : List EV -> Option Arr
 | [a0, a1, a2, a3, a4] => match set0 (.str) a0, set0 (.int .i64) a1, set0 (.int .i64) a2, set0 (.int .i64) a3, set0 (.int .i64) a4 with
  | some y0, some y1, some y2, some y3, some y4 => some ⟨y0, y1, y2, y3, y4⟩
  | _, _, _, _, _ => none
 | _ => none
theorem Arr.c_ok (x : Arr) (len : Len) : ∀ j, j < 5 -> toV len (Arr.c x j) = .t (Arr.e x j)
 | 0, _ => by simp only [Arr.c, toV]; rfl
 | 1, _ => by simp only [Arr.c, toV]; rfl
 | 2, _ => by simp only [Arr.c, toV]; rfl
 | 3, _ => by simp only [Arr.c, toV]; rfl
 | 4, _ => by simp only [Arr.c, toV]; rfl
 | n + 5, h => absurd h (by omega)
theorem Arr.c_dat (x : Arr) : ∀ j, (Arr.c x j).dat = true
 | 0 => rfl
 | 1 => rfl
 | 2 => rfl
 | 3 => rfl
 | 4 => rfl
 | n + 5 => rfl
theorem Arr.s_ok (x : Arr) (j : Nat) (v : EV) (y : Arr) (h : Arr.s x j v = some y) : (∀ len, Wk (toV len v) (toV len (Arr.c y j))) /\ ∀ j', j' ≠ j -> Arr.c y j' = Arr.c x j' := by
 match j with
 | 0 =>
  simp only [Arr.s] at h
  split at h
  ·rename_i a ha
   injection h with h
   subst h
   refine ⟨set0_ok ha, fun j' hj => ?_⟩
   match j', hj with
   | 0, hj => exact absurd rfl hj
   | 1, hj => exact rfl
   | 2, hj => exact rfl
   | 3, hj => exact rfl
   | 4, hj => exact rfl
   | n + 5, _ => rfl
  ·cases h
 | 1 =>
  simp only [Arr.s] at h
  split at h
  ·rename_i a ha
   injection h with h
   subst h
   refine ⟨set0_ok ha, fun j' hj => ?_⟩
   match j', hj with
   | 0, hj => exact rfl
   | 1, hj => exact absurd rfl hj
   | 2, hj => exact rfl
   | 3, hj => exact rfl
   | 4, hj => exact rfl
   | n + 5, _ => rfl
  ·cases h
 | 2 =>
  simp only [Arr.s] at h
  split at h
  ·rename_i a ha
   injection h with h
   subst h
   refine ⟨set0_ok ha, fun j' hj => ?_⟩
   match j', hj with
   | 0, hj => exact rfl
   | 1, hj => exact rfl
   | 2, hj => exact absurd rfl hj
   | 3, hj => exact rfl
   | 4, hj => exact rfl
   | n + 5, _ => rfl
  ·cases h
 | 3 =>
  simp only [Arr.s] at h
  split at h
  ·rename_i a ha
   injection h with h
   subst h
   refine ⟨set0_ok ha, fun j' hj => ?_⟩
   match j', hj with
   | 0, hj => exact rfl
   | 1, hj => exact rfl
   | 2, hj => exact rfl
   | 3, hj => exact absurd rfl hj
   | 4, hj => exact rfl
   | n + 5, _ => rfl
  ·cases h
 | 4 =>
  simp only [Arr.s] at h
  split at h
  ·rename_i a ha
   injection h with h
   subst h
   refine ⟨set0_ok ha, fun j' hj => ?_⟩
   match j', hj with
   | 0, hj => exact rfl
   | 1, hj => exact rfl
   | 2, hj => exact rfl
   | 3, hj => exact rfl
   | 4, hj => exact absurd rfl hj
   | n + 5, _ => rfl
  ·cases h
 | n + 5 => simp [Arr.s] at h
theorem Arr.m_ok (l : List EV) (y : Arr) (h : Arr.m l = some y) : l.length = 5 /\ ∀ j, j < 5 -> ∀ len, Wk (toVs len l j) (toV len (Arr.c y j)) := by
 unfold Arr.m at h
 split at h
 ·split at h
  ·rename_i h0 h1 h2 h3 h4
   injection h with h
   subst h
   refine ⟨rfl, fun j hj len => ?_⟩
   match j, hj with
   | 0, _ => simp only [toVs]; exact set0_ok h0 len
   | 1, _ => simp only [toVs]; exact set0_ok h1 len
   | 2, _ => simp only [toVs]; exact set0_ok h2 len
   | 3, _ => simp only [toVs]; exact set0_ok h3 len
   | 4, _ => simp only [toVs]; exact set0_ok h4 len
   | n + 5, h => exact absurd h (by omega)
  ·cases h
 ·cases h
def Strm.c (x : Strm) : Nat -> EV
 | 0 => .s (x.name)
 | 1 => .i .i64 (x.width)
 | 2 => .b (x.out)
 | _ => .un
def Strm.s (x : Strm) (j : Nat) (v : EV) : Option Strm := match j with
 | 0 => match set0 (.str) v with
  | some y => some { x with name := y }
  | none => none
 | 1 => match set0 (.int .i64) v with
  | some y => some { x with width := y }
  | none => none
 | 2 => match set0 (.bool) v with
  | some y => some { x with out := y }
  | none => none
 | _ => none
def Strm.m : List EV -> Option Strm
 | [a0, a1, a2] => match set0 (.str) a0, set0 (.int .i64) a1, set0 (.bool) a2 with
  | some y0, some y1, some y2 => some ⟨y0, y1, y2⟩
  | _, _, _ => none
 | _ => none
theorem Strm.c_ok (x : Strm) (len : Len) : ∀ j, j < 3 -> toV len (Strm.c x j) = .t (Strm.e x j)
 | 0, _ => by simp only [Strm.c, toV]; rfl
 | 1, _ => by simp only [Strm.c, toV]; rfl
 | 2, _ => by simp only [Strm.c, toV]; rfl
 | n + 3, h => absurd h (by omega)
theorem Strm.c_dat (x : Strm) : ∀ j, (Strm.c x j).dat = true
 | 0 => rfl
 | 1 => rfl
 | 2 => rfl
 | n + 3 => rfl
theorem Strm.s_ok (x : Strm) (j : Nat) (v : EV) (y : Strm) (h : Strm.s x j v = some y) : (∀ len, Wk (toV len v) (toV len (Strm.c y j))) /\ ∀ j', j' ≠ j -> Strm.c y j' = Strm.c x j' := by
 match j with
 | 0 =>
  simp only [Strm.s] at h
  split at h
  ·rename_i a ha
   injection h with h
   subst h
   refine ⟨set0_ok ha, fun j' hj => ?_⟩
   match j', hj with
   | 0, hj => exact absurd rfl hj
   | 1, hj => exact rfl
   | 2, hj => exact rfl
   | n + 3, _ => rfl
  ·cases h
 | 1 =>
  simp only [Strm.s] at h
  split at h
  ·rename_i a ha
   injection h with h
   subst h
   refine ⟨set0_ok ha, fun j' hj => ?_⟩
   match j', hj with
   | 0, hj => exact rfl
   | 1, hj => exact absurd rfl hj
   | 2, hj => exact rfl
   | n + 3, _ => rfl
  ·cases h
 | 2 =>
  simp only [Strm.s] at h
  split at h
  ·rename_i a ha
   injection h with h
   subst h
   refine ⟨set0_ok ha, fun j' hj => ?_⟩
   match j', hj with
   | 0, hj => exact rfl
   | 1, hj => exact rfl
   | 2, hj => exact absurd rfl hj
   | n + 3, _ => rfl
  ·cases h
 | n + 3 => simp [Strm.s] at h
theorem Strm.m_ok (l : List EV) (y : Strm) (h : Strm.m l = some y) : l.length = 3 /\ ∀ j, j < 3 -> ∀ len, Wk (toVs len l j) (toV len (Strm.c y j)) := by
 unfold Strm.m at h
 split at h
 ·split at h
  ·rename_i h0 h1 h2
   injection h with h
   subst h
   refine ⟨rfl, fun j hj len => ?_⟩
   match j, hj with
   | 0, _ => simp only [toVs]; exact set0_ok h0 len
   | 1, _ => simp only [toVs]; exact set0_ok h1 len
   | 2, _ => simp only [toVs]; exact set0_ok h2 len
   | n + 3, h => exact absurd h (by omega)
  ·cases h
 ·cases h
def Fn.c (x : Fn) : Nat -> EV
 | 0 => .s (x.name)
 | 1 => .fz (.int .i64) (x.widths)
 | 2 => .fz (.st 4) (x.arrays)
 | 3 => .fz (.st 5) (x.streams)
 | 4 => .fz (.int .i64) (x.rets)
 | 5 => .fz (.st 3) (x.blocks)
 | _ => .un
def Fn.s (x : Fn) (j : Nat) (v : EV) : Option Fn := match j with
 | 0 => match set0 (.str) v with
  | some y => some { x with name := y }
  | none => none
 | 1 => match set0 (.sl (.int .i64)) v with
  | some y => some { x with widths := y }
  | none => none
 | 2 => match set0 (.sl (.st 4)) v with
  | some y => some { x with arrays := y }
  | none => none
 | 3 => match set0 (.sl (.st 5)) v with
  | some y => some { x with streams := y }
  | none => none
 | 4 => match set0 (.sl (.int .i64)) v with
  | some y => some { x with rets := y }
  | none => none
 | 5 => match set0 (.sl (.st 3)) v with
  | some y => some { x with blocks := y }
  | none => none
 | _ => none
def Fn.m : List EV -> Option Fn
 | [a0, a1, a2, a3, a4, a5] => match set0 (.str) a0, set0 (.sl (.int .i64)) a1, set0 (.sl (.st 4)) a2, set0 (.sl (.st 5)) a3, set0 (.sl (.int .i64)) a4, set0 (.sl (.st 3)) a5 with
  | some y0, some y1, some y2, some y3, some y4, some y5 => some ⟨y0, y1, y2, y3, y4, y5⟩
  | _, _, _, _, _, _ => none
 | _ => none
theorem Fn.c_ok (x : Fn) (len : Len) : ∀ j, j < 6 -> toV len (Fn.c x j) = .t (Fn.e x j)
 | 0, _ => by simp only [Fn.c, toV]; rfl
 | 1, _ => by simp only [Fn.c, toV]; rfl
 | 2, _ => by simp only [Fn.c, toV]; rfl
 | 3, _ => by simp only [Fn.c, toV]; rfl
 | 4, _ => by simp only [Fn.c, toV]; rfl
 | 5, _ => by simp only [Fn.c, toV]; rfl
 | n + 6, h => absurd h (by omega)
theorem Fn.c_dat (x : Fn) : ∀ j, (Fn.c x j).dat = true
 | 0 => rfl
 | 1 => rfl
 | 2 => rfl
 | 3 => rfl
 | 4 => rfl
 | 5 => rfl
 | n + 6 => rfl
theorem Fn.s_ok (x : Fn) (j : Nat) (v : EV) (y : Fn) (h : Fn.s x j v = some y) : (∀ len, Wk (toV len v) (toV len (Fn.c y j))) /\ ∀ j', j' ≠ j -> Fn.c y j' = Fn.c x j' := by
 match j with
 | 0 =>
  simp only [Fn.s] at h
  split at h
  ·rename_i a ha
   injection h with h
   subst h
   refine ⟨set0_ok ha, fun j' hj => ?_⟩
   match j', hj with
   | 0, hj => exact absurd rfl hj
   | 1, hj => exact rfl
   | 2, hj => exact rfl
   | 3, hj => exact rfl
   | 4, hj => exact rfl
   | 5, hj => exact rfl
   | n + 6, _ => rfl
  ·cases h
 | 1 =>
  simp only [Fn.s] at h
  split at h
  ·rename_i a ha
   injection h with h
   subst h
   refine ⟨set0_ok ha, fun j' hj => ?_⟩
   match j', hj with
   | 0, hj => exact rfl
   | 1, hj => exact absurd rfl hj
   | 2, hj => exact rfl
   | 3, hj => exact rfl
   | 4, hj => exact rfl
   | 5, hj => exact rfl
   | n + 6, _ => rfl
  ·cases h
 | 2 =>
  simp only [Fn.s] at h
  split at h
  ·rename_i a ha
   injection h with h
   subst h
   refine ⟨set0_ok ha, fun j' hj => ?_⟩
   match j', hj with
   | 0, hj => exact rfl
   | 1, hj => exact rfl
   | 2, hj => exact absurd rfl hj
   | 3, hj => exact rfl
   | 4, hj => exact rfl
   | 5, hj => exact rfl
   | n + 6, _ => rfl
  ·cases h
 | 3 =>
  simp only [Fn.s] at h
  split at h
  ·rename_i a ha
   injection h with h
   subst h
   refine ⟨set0_ok ha, fun j' hj => ?_⟩
   match j', hj with
   | 0, hj => exact rfl
   | 1, hj => exact rfl
   | 2, hj => exact rfl
   | 3, hj => exact absurd rfl hj
   | 4, hj => exact rfl
   | 5, hj => exact rfl
   | n + 6, _ => rfl
  ·cases h
 | 4 =>
  simp only [Fn.s] at h
  split at h
  ·rename_i a ha
   injection h with h
   subst h
   refine ⟨set0_ok ha, fun j' hj => ?_⟩
   match j', hj with
   | 0, hj => exact rfl
   | 1, hj => exact rfl
   | 2, hj => exact rfl
   | 3, hj => exact rfl
   | 4, hj => exact absurd rfl hj
   | 5, hj => exact rfl
   | n + 6, _ => rfl
  ·cases h
 | 5 =>
  simp only [Fn.s] at h
  split at h
  ·rename_i a ha
   injection h with h
   subst h
   refine ⟨set0_ok ha, fun j' hj => ?_⟩
   match j', hj with
   | 0, hj => exact rfl
   | 1, hj => exact rfl
   | 2, hj => exact rfl
   | 3, hj => exact rfl
   | 4, hj => exact rfl
   | 5, hj => exact absurd rfl hj
   | n + 6, _ => rfl
  ·cases h
 | n + 6 => simp [Fn.s] at h
theorem Fn.m_ok (l : List EV) (y : Fn) (h : Fn.m l = some y) : l.length = 6 /\ ∀ j, j < 6 -> ∀ len, Wk (toVs len l j) (toV len (Fn.c y j)) := by
 unfold Fn.m at h
 split at h
 ·split at h
  ·rename_i h0 h1 h2 h3 h4 h5
   injection h with h
   subst h
   refine ⟨rfl, fun j hj len => ?_⟩
   match j, hj with
   | 0, _ => simp only [toVs]; exact set0_ok h0 len
   | 1, _ => simp only [toVs]; exact set0_ok h1 len
   | 2, _ => simp only [toVs]; exact set0_ok h2 len
   | 3, _ => simp only [toVs]; exact set0_ok h3 len
   | 4, _ => simp only [toVs]; exact set0_ok h4 len
   | 5, _ => simp only [toVs]; exact set0_ok h5 len
   | n + 6, h => exact absurd h (by omega)
  ·cases h
 ·cases h
def Typ.c (x : Typ) : Nat -> EV
 | 0 => .i .i64 (x.width)
 | 1 => .b (x.signed)
 | _ => .un
def Typ.s (x : Typ) (j : Nat) (v : EV) : Option Typ := match j with
 | 0 => match set0 (.int .i64) v with
  | some y => some { x with width := y }
  | none => none
 | 1 => match set0 (.bool) v with
  | some y => some { x with signed := y }
  | none => none
 | _ => none
def Typ.m : List EV -> Option Typ
 | [a0, a1] => match set0 (.int .i64) a0, set0 (.bool) a1 with
  | some y0, some y1 => some ⟨y0, y1⟩
  | _, _ => none
 | _ => none
theorem Typ.c_ok (x : Typ) (len : Len) : ∀ j, j < 2 -> toV len (Typ.c x j) = .t (Typ.e x j)
 | 0, _ => by simp only [Typ.c, toV]; rfl
 | 1, _ => by simp only [Typ.c, toV]; rfl
 | n + 2, h => absurd h (by omega)
theorem Typ.c_dat (x : Typ) : ∀ j, (Typ.c x j).dat = true
 | 0 => rfl
 | 1 => rfl
 | n + 2 => rfl
theorem Typ.s_ok (x : Typ) (j : Nat) (v : EV) (y : Typ) (h : Typ.s x j v = some y) : (∀ len, Wk (toV len v) (toV len (Typ.c y j))) /\ ∀ j', j' ≠ j -> Typ.c y j' = Typ.c x j' := by
 match j with
 | 0 =>
  simp only [Typ.s] at h
  split at h
  ·rename_i a ha
   injection h with h
   subst h
   refine ⟨set0_ok ha, fun j' hj => ?_⟩
   match j', hj with
   | 0, hj => exact absurd rfl hj
   | 1, hj => exact rfl
   | n + 2, _ => rfl
  ·cases h
 | 1 =>
  simp only [Typ.s] at h
  split at h
  ·rename_i a ha
   injection h with h
   subst h
   refine ⟨set0_ok ha, fun j' hj => ?_⟩
   match j', hj with
   | 0, hj => exact rfl
   | 1, hj => exact absurd rfl hj
   | n + 2, _ => rfl
  ·cases h
 | n + 2 => simp [Typ.s] at h
theorem Typ.m_ok (l : List EV) (y : Typ) (h : Typ.m l = some y) : l.length = 2 /\ ∀ j, j < 2 -> ∀ len, Wk (toVs len l j) (toV len (Typ.c y j)) := by
 unfold Typ.m at h
 split at h
 ·split at h
  ·rename_i h0 h1
   injection h with h
   subst h
   refine ⟨rfl, fun j hj len => ?_⟩
   match j, hj with
   | 0, _ => simp only [toVs]; exact set0_ok h0 len
   | 1, _ => simp only [toVs]; exact set0_ok h1 len
   | n + 2, h => exact absurd h (by omega)
  ·cases h
 ·cases h
def InstM.c (x : InstM) : Nat -> Cell
 | 0 => .ev (.i .i64 (x.op))
 | 1 => .ev (.i .i64 (x.dest))
 | 2 => match x.args with
  | .own l => .own 3 (.int .i64) l
  | .fz l => .ev (.fz (.int .i64) l)
 | 3 => .ev (.i .u64 (x.num))
 | 4 => .ev (.i .i64 (x.mem))
 | _ => .ev .un
def InstM.s (x : InstM) (j : Nat) (v : EV) : Option InstM := match j with
 | 0 => match set0 (.int .i64) v with
  | some y => some { x with op := y }
  | none => none
 | 1 => match set0 (.int .i64) v with
  | some y => some { x with dest := y }
  | none => none
 | 3 => match set0 (.int .u64) v with
  | some y => some { x with num := y }
  | none => none
 | 4 => match set0 (.int .i64) v with
  | some y => some { x with mem := y }
  | none => none
 | _ => none
def InstM.oS (x : InstM) (j : Nat) (t : TypeId) (e : Ty) (l : List e.D) : Option InstM := match j with
 | 2 => bif Nat.beq t 3 then (match castF List e (.int .i64) l with
  | some y => some { x with args := .own y }
  | none => none) else none
 | _ => none
def InstM.k (x : InstM) (j : Nat) (t : TypeId) (e : Ty) (l : List e.D) : Option InstM := match InstM.c x j with
 | .own _ _ _ => InstM.oS x j t e l
 | .ev _ => none
def InstM.oT : Nat -> Option (TypeId × Ty)
 | 2 => some (3, (.int .i64))
 | _ => none
def InstM.fT : Nat -> Option Ty
 | 2 => some (.int .i64)
 | _ => none
def InstM.oG (x : InstM) (j : Nat) (e : Ty) : Option (List e.D) := match j with
 | 2 => (match castF (fun X => Option (List X)) (.int .i64) e (Sp.ownL x.args) with
  | some o => o
  | none => none)
 | _ => none
def InstM.fG (x : InstM) (j : Nat) (e : Ty) : Option (List e.D) := match j with
 | 2 => (match castF (fun X => Option (List X)) (.int .i64) e (Sp.frzL x.args) with
  | some o => o
  | none => none)
 | _ => none
theorem InstM.s_ok (x : InstM) (j : Nat) (v : EV) (y : InstM) (h : InstM.s x j v = some y) : (∃ u0, InstM.c x j = .ev u0) /\ (∃ u, InstM.c y j = .ev u /\ ∀ len, Wk (toV len v) (toV len u)) /\ ∀ j', j' ≠ j -> InstM.c y j' = InstM.c x j' := by
 match j with
 | 0 =>
  simp only [InstM.s] at h
  split at h
  ·rename_i a ha
   injection h with h
   subst h
   refine ⟨⟨_, rfl⟩, ⟨_, rfl, set0_ok ha⟩, fun j' hj => ?_⟩
   match j', hj with
   | 0, hj => exact absurd rfl hj
   | 1, hj => exact rfl
   | 2, hj => exact rfl
   | 3, hj => exact rfl
   | 4, hj => exact rfl
   | n + 5, _ => rfl
  ·cases h
 | 1 =>
  simp only [InstM.s] at h
  split at h
  ·rename_i a ha
   injection h with h
   subst h
   refine ⟨⟨_, rfl⟩, ⟨_, rfl, set0_ok ha⟩, fun j' hj => ?_⟩
   match j', hj with
   | 0, hj => exact rfl
   | 1, hj => exact absurd rfl hj
   | 2, hj => exact rfl
   | 3, hj => exact rfl
   | 4, hj => exact rfl
   | n + 5, _ => rfl
  ·cases h
 | 2 => simp [InstM.s] at h
 | 3 =>
  simp only [InstM.s] at h
  split at h
  ·rename_i a ha
   injection h with h
   subst h
   refine ⟨⟨_, rfl⟩, ⟨_, rfl, set0_ok ha⟩, fun j' hj => ?_⟩
   match j', hj with
   | 0, hj => exact rfl
   | 1, hj => exact rfl
   | 2, hj => exact rfl
   | 3, hj => exact absurd rfl hj
   | 4, hj => exact rfl
   | n + 5, _ => rfl
  ·cases h
 | 4 =>
  simp only [InstM.s] at h
  split at h
  ·rename_i a ha
   injection h with h
   subst h
   refine ⟨⟨_, rfl⟩, ⟨_, rfl, set0_ok ha⟩, fun j' hj => ?_⟩
   match j', hj with
   | 0, hj => exact rfl
   | 1, hj => exact rfl
   | 2, hj => exact rfl
   | 3, hj => exact rfl
   | 4, hj => exact absurd rfl hj
   | n + 5, _ => rfl
  ·cases h
 | n + 5 => simp [InstM.s] at h
theorem InstM.oS_ok (x : InstM) (j : Nat) (t : TypeId) (e : Ty) (l : List e.D) (y : InstM) (h : InstM.oS x j t e l = some y) : InstM.c y j = .own t e l /\ ∀ j', j' ≠ j -> InstM.c y j' = InstM.c x j' := by
 match j with
 | 0 => simp [InstM.oS] at h
 | 1 => simp [InstM.oS] at h
 | 2 =>
  simp only [InstM.oS] at h
  cases hb : Nat.beq t 3 with
  | false => rw [hb] at h; cases h
  | true =>
   rw [hb] at h
   obtain rfl := Nat.eq_of_beq_eq_true hb
   simp only [cond_true] at h
   split at h
   ·rename_i a ha
    injection h with h
    subst h
    obtain ⟨rfl, ha⟩ := castL_ok ha
    obtain rfl := eq_of_heq ha
    refine ⟨rfl, fun j' hj => ?_⟩
    match j', hj with
    | 0, hj => exact rfl
    | 1, hj => exact rfl
    | 2, hj => exact absurd rfl hj
    | 3, hj => exact rfl
    | 4, hj => exact rfl
    | n + 5, _ => rfl
   ·cases h
 | 3 => simp [InstM.oS] at h
 | 4 => simp [InstM.oS] at h
 | n + 5 => simp [InstM.oS] at h
theorem InstM.oG_ok (x : InstM) (j : Nat) (t : TypeId) (e : Ty) (l : List e.D) (h1 : InstM.oT j = some (t, e)) (h2 : InstM.oG x j e = some l) : InstM.c x j = .own t e l := by
 match j with
 | 0 => simp [InstM.oT] at h1
 | 1 => simp [InstM.oT] at h1
 | 2 =>
  injection h1 with h1
  injection h1 with h1 h3
  subst h1; subst h3
  simp only [InstM.oG, castF_same, InstM.c] at h2 ⊢
  cases hx : x.args with
  | own l' => rw [hx] at h2; injection h2 with h2; subst h2; rfl
  | fz l' => rw [hx] at h2; cases h2
 | 3 => simp [InstM.oT] at h1
 | 4 => simp [InstM.oT] at h1
 | n + 5 => simp [InstM.oT] at h1
theorem InstM.fG_ok (x : InstM) (j : Nat) (e : Ty) (l : List e.D) (h1 : InstM.fT j = some e) (h2 : InstM.fG x j e = some l) : InstM.c x j = .ev (.fz e l) := by
 match j with
 | 0 => simp [InstM.fT] at h1
 | 1 => simp [InstM.fT] at h1
 | 2 =>
  injection h1 with h1
  subst h1
  simp only [InstM.fG, castF_same, InstM.c] at h2 ⊢
  cases hx : x.args with
  | fz l' => rw [hx] at h2; injection h2 with h2; subst h2; rfl
  | own l' => rw [hx] at h2; cases h2
 | 3 => simp [InstM.fT] at h1
 | 4 => simp [InstM.fT] at h1
 | n + 5 => simp [InstM.fT] at h1
theorem InstM.same (x : InstM) (j : Nat) (t : TypeId) (e : Ty) (l : List e.D) (y : InstM) (t0 : TypeId) (e0 : Ty) (l0 : List e0.D) (h : InstM.oS x j t e l = some y) (hc : InstM.c x j = .own t0 e0 l0) : ∃ l1, InstM.c x j = .own t e l1 := by
 match j with
 | 0 => simp [InstM.oS] at h
 | 1 => simp [InstM.oS] at h
 | 2 =>
  simp only [InstM.oS] at h
  cases hb : Nat.beq t 3 with
  | false => rw [hb] at h; cases h
  | true =>
   rw [hb] at h
   obtain rfl := Nat.eq_of_beq_eq_true hb
   simp only [cond_true] at h
   split at h
   ·rename_i a ha
    obtain ⟨rfl, _⟩ := castL_ok ha
    simp only [InstM.c] at hc ⊢
    cases hx : x.args with
    | own l1 => exact ⟨l1, rfl⟩
    | fz l1 => rw [hx] at hc; cases hc
   ·cases h
 | 3 => simp [InstM.oS] at h
 | 4 => simp [InstM.oS] at h
 | n + 5 => simp [InstM.oS] at h
theorem InstM.z_own (j : Nat) (t : TypeId) (e : Ty) (l : List e.D) (h : InstM.c InstM.z j = .own t e l) : l = [] := by
 match j with
 | 0 => cases h
 | 1 => cases h
 | 2 => cases h
 | 3 => cases h
 | 4 => cases h
 | n + 5 => cases h
theorem InstM.c_dat (x : InstM) (j : Nat) (u : EV) (h : InstM.c x j = .ev u) : u.dat = true := by
 match j with
 | 0 => injection h with h; subst h; rfl
 | 1 => injection h with h; subst h; rfl
 | 2 =>
  simp only [InstM.c] at h
  cases hx : x.args <;> rw [hx] at h
  ·cases h
  ·injection h with h; subst h; rfl
 | 3 => injection h with h; subst h; rfl
 | 4 => injection h with h; subst h; rfl
 | n + 5 => injection h with h; subst h; rfl
def EdgeM.c (x : EdgeM) : Nat -> Cell
 | 0 => .ev (.i .i64 (x.block))
 | 1 => match x.args with
  | .own l => .own 3 (.int .i64) l
  | .fz l => .ev (.fz (.int .i64) l)
 | _ => .ev .un
def EdgeM.s (x : EdgeM) (j : Nat) (v : EV) : Option EdgeM := match j with
 | 0 => match set0 (.int .i64) v with
  | some y => some { x with block := y }
  | none => none
 | _ => none
def EdgeM.oS (x : EdgeM) (j : Nat) (t : TypeId) (e : Ty) (l : List e.D) : Option EdgeM := match j with
 | 1 => bif Nat.beq t 3 then (match castF List e (.int .i64) l with
  | some y => some { x with args := .own y }
  | none => none) else none
 | _ => none
def EdgeM.k (x : EdgeM) (j : Nat) (t : TypeId) (e : Ty) (l : List e.D) : Option EdgeM := match EdgeM.c x j with
 | .own _ _ _ => EdgeM.oS x j t e l
 | .ev _ => none
def EdgeM.oT : Nat -> Option (TypeId × Ty)
 | 1 => some (3, (.int .i64))
 | _ => none
def EdgeM.fT : Nat -> Option Ty
 | 1 => some (.int .i64)
 | _ => none
def EdgeM.oG (x : EdgeM) (j : Nat) (e : Ty) : Option (List e.D) := match j with
 | 1 => (match castF (fun X => Option (List X)) (.int .i64) e (Sp.ownL x.args) with
  | some o => o
  | none => none)
 | _ => none
def EdgeM.fG (x : EdgeM) (j : Nat) (e : Ty) : Option (List e.D) := match j with
 | 1 => (match castF (fun X => Option (List X)) (.int .i64) e (Sp.frzL x.args) with
  | some o => o
  | none => none)
 | _ => none
theorem EdgeM.s_ok (x : EdgeM) (j : Nat) (v : EV) (y : EdgeM) (h : EdgeM.s x j v = some y) : (∃ u0, EdgeM.c x j = .ev u0) /\ (∃ u, EdgeM.c y j = .ev u /\ ∀ len, Wk (toV len v) (toV len u)) /\ ∀ j', j' ≠ j -> EdgeM.c y j' = EdgeM.c x j' := by
 match j with
 | 0 =>
  simp only [EdgeM.s] at h
  split at h
  ·rename_i a ha
   injection h with h
   subst h
   refine ⟨⟨_, rfl⟩, ⟨_, rfl, set0_ok ha⟩, fun j' hj => ?_⟩
   match j', hj with
   | 0, hj => exact absurd rfl hj
   | 1, hj => exact rfl
   | n + 2, _ => rfl
  ·cases h
 | 1 => simp [EdgeM.s] at h
 | n + 2 => simp [EdgeM.s] at h
theorem EdgeM.oS_ok (x : EdgeM) (j : Nat) (t : TypeId) (e : Ty) (l : List e.D) (y : EdgeM) (h : EdgeM.oS x j t e l = some y) : EdgeM.c y j = .own t e l /\ ∀ j', j' ≠ j -> EdgeM.c y j' = EdgeM.c x j' := by
 match j with
 | 0 => simp [EdgeM.oS] at h
 | 1 =>
  simp only [EdgeM.oS] at h
  cases hb : Nat.beq t 3 with
  | false => rw [hb] at h; cases h
  | true =>
   rw [hb] at h
   obtain rfl := Nat.eq_of_beq_eq_true hb
   simp only [cond_true] at h
   split at h
   ·rename_i a ha
    injection h with h
    subst h
    obtain ⟨rfl, ha⟩ := castL_ok ha
    obtain rfl := eq_of_heq ha
    refine ⟨rfl, fun j' hj => ?_⟩
    match j', hj with
    | 0, hj => exact rfl
    | 1, hj => exact absurd rfl hj
    | n + 2, _ => rfl
   ·cases h
 | n + 2 => simp [EdgeM.oS] at h
theorem EdgeM.oG_ok (x : EdgeM) (j : Nat) (t : TypeId) (e : Ty) (l : List e.D) (h1 : EdgeM.oT j = some (t, e)) (h2 : EdgeM.oG x j e = some l) : EdgeM.c x j = .own t e l := by
 match j with
 | 0 => simp [EdgeM.oT] at h1
 | 1 =>
  injection h1 with h1
  injection h1 with h1 h3
  subst h1; subst h3
  simp only [EdgeM.oG, castF_same, EdgeM.c] at h2 ⊢
  cases hx : x.args with
  | own l' => rw [hx] at h2; injection h2 with h2; subst h2; rfl
  | fz l' => rw [hx] at h2; cases h2
 | n + 2 => simp [EdgeM.oT] at h1
theorem EdgeM.fG_ok (x : EdgeM) (j : Nat) (e : Ty) (l : List e.D) (h1 : EdgeM.fT j = some e) (h2 : EdgeM.fG x j e = some l) : EdgeM.c x j = .ev (.fz e l) := by
 match j with
 | 0 => simp [EdgeM.fT] at h1
 | 1 =>
  injection h1 with h1
  subst h1
  simp only [EdgeM.fG, castF_same, EdgeM.c] at h2 ⊢
  cases hx : x.args with
  | fz l' => rw [hx] at h2; injection h2 with h2; subst h2; rfl
  | own l' => rw [hx] at h2; cases h2
 | n + 2 => simp [EdgeM.fT] at h1
theorem EdgeM.same (x : EdgeM) (j : Nat) (t : TypeId) (e : Ty) (l : List e.D) (y : EdgeM) (t0 : TypeId) (e0 : Ty) (l0 : List e0.D) (h : EdgeM.oS x j t e l = some y) (hc : EdgeM.c x j = .own t0 e0 l0) : ∃ l1, EdgeM.c x j = .own t e l1 := by
 match j with
 | 0 => simp [EdgeM.oS] at h
 | 1 =>
  simp only [EdgeM.oS] at h
  cases hb : Nat.beq t 3 with
  | false => rw [hb] at h; cases h
  | true =>
   rw [hb] at h
   obtain rfl := Nat.eq_of_beq_eq_true hb
   simp only [cond_true] at h
   split at h
   ·rename_i a ha
    obtain ⟨rfl, _⟩ := castL_ok ha
    simp only [EdgeM.c] at hc ⊢
    cases hx : x.args with
    | own l1 => exact ⟨l1, rfl⟩
    | fz l1 => rw [hx] at hc; cases hc
   ·cases h
 | n + 2 => simp [EdgeM.oS] at h
theorem EdgeM.z_own (j : Nat) (t : TypeId) (e : Ty) (l : List e.D) (h : EdgeM.c EdgeM.z j = .own t e l) : l = [] := by
 match j with
 | 0 => cases h
 | 1 => cases h
 | n + 2 => cases h
theorem EdgeM.c_dat (x : EdgeM) (j : Nat) (u : EV) (h : EdgeM.c x j = .ev u) : u.dat = true := by
 match j with
 | 0 => injection h with h; subst h; rfl
 | 1 =>
  simp only [EdgeM.c] at h
  cases hx : x.args <;> rw [hx] at h
  ·cases h
  ·injection h with h; subst h; rfl
 | n + 2 => injection h with h; subst h; rfl
def TermM.c (x : TermM) : Nat -> Cell
 | 0 => .ev (.i .i64 (x.kind))
 | 1 => .ev (.i .i64 (x.cond))
 | 2 => match x.to with
  | .own l => .own 51 (.st 9) l
  | .fz l => .ev (.fz (.st 1) l)
 | 3 => match x.rets with
  | .own l => .own 3 (.int .i64) l
  | .fz l => .ev (.fz (.int .i64) l)
 | _ => .ev .un
def TermM.s (x : TermM) (j : Nat) (v : EV) : Option TermM := match j with
 | 0 => match set0 (.int .i64) v with
  | some y => some { x with kind := y }
  | none => none
 | 1 => match set0 (.int .i64) v with
  | some y => some { x with cond := y }
  | none => none
 | _ => none
def TermM.oS (x : TermM) (j : Nat) (t : TypeId) (e : Ty) (l : List e.D) : Option TermM := match j with
 | 2 => bif Nat.beq t 51 then (match castF List e (.st 9) l with
  | some y => some { x with to := .own y }
  | none => none) else none
 | 3 => bif Nat.beq t 3 then (match castF List e (.int .i64) l with
  | some y => some { x with rets := .own y }
  | none => none) else none
 | _ => none
def TermM.k (x : TermM) (j : Nat) (t : TypeId) (e : Ty) (l : List e.D) : Option TermM := match TermM.c x j with
 | .own _ _ _ => TermM.oS x j t e l
 | .ev _ => none
def TermM.oT : Nat -> Option (TypeId × Ty)
 | 2 => some (51, (.st 9))
 | 3 => some (3, (.int .i64))
 | _ => none
def TermM.fT : Nat -> Option Ty
 | 2 => some (.st 1)
 | 3 => some (.int .i64)
 | _ => none
def TermM.oG (x : TermM) (j : Nat) (e : Ty) : Option (List e.D) := match j with
 | 2 => (match castF (fun X => Option (List X)) (.st 9) e (Sp.ownL x.to) with
  | some o => o
  | none => none)
 | 3 => (match castF (fun X => Option (List X)) (.int .i64) e (Sp.ownL x.rets) with
  | some o => o
  | none => none)
 | _ => none
def TermM.fG (x : TermM) (j : Nat) (e : Ty) : Option (List e.D) := match j with
 | 2 => (match castF (fun X => Option (List X)) (.st 1) e (Sp.frzL x.to) with
  | some o => o
  | none => none)
 | 3 => (match castF (fun X => Option (List X)) (.int .i64) e (Sp.frzL x.rets) with
  | some o => o
  | none => none)
 | _ => none
theorem TermM.s_ok (x : TermM) (j : Nat) (v : EV) (y : TermM) (h : TermM.s x j v = some y) : (∃ u0, TermM.c x j = .ev u0) /\ (∃ u, TermM.c y j = .ev u /\ ∀ len, Wk (toV len v) (toV len u)) /\ ∀ j', j' ≠ j -> TermM.c y j' = TermM.c x j' := by
 match j with
 | 0 =>
  simp only [TermM.s] at h
  split at h
  ·rename_i a ha
   injection h with h
   subst h
   refine ⟨⟨_, rfl⟩, ⟨_, rfl, set0_ok ha⟩, fun j' hj => ?_⟩
   match j', hj with
   | 0, hj => exact absurd rfl hj
   | 1, hj => exact rfl
   | 2, hj => exact rfl
   | 3, hj => exact rfl
   | n + 4, _ => rfl
  ·cases h
 | 1 =>
  simp only [TermM.s] at h
  split at h
  ·rename_i a ha
   injection h with h
   subst h
   refine ⟨⟨_, rfl⟩, ⟨_, rfl, set0_ok ha⟩, fun j' hj => ?_⟩
   match j', hj with
   | 0, hj => exact rfl
   | 1, hj => exact absurd rfl hj
   | 2, hj => exact rfl
   | 3, hj => exact rfl
   | n + 4, _ => rfl
  ·cases h
 | 2 => simp [TermM.s] at h
 | 3 => simp [TermM.s] at h
 | n + 4 => simp [TermM.s] at h
theorem TermM.oS_ok (x : TermM) (j : Nat) (t : TypeId) (e : Ty) (l : List e.D) (y : TermM) (h : TermM.oS x j t e l = some y) : TermM.c y j = .own t e l /\ ∀ j', j' ≠ j -> TermM.c y j' = TermM.c x j' := by
 match j with
 | 0 => simp [TermM.oS] at h
 | 1 => simp [TermM.oS] at h
 | 2 =>
  simp only [TermM.oS] at h
  cases hb : Nat.beq t 51 with
  | false => rw [hb] at h; cases h
  | true =>
   rw [hb] at h
   obtain rfl := Nat.eq_of_beq_eq_true hb
   simp only [cond_true] at h
   split at h
   ·rename_i a ha
    injection h with h
    subst h
    obtain ⟨rfl, ha⟩ := castL_ok ha
    obtain rfl := eq_of_heq ha
    refine ⟨rfl, fun j' hj => ?_⟩
    match j', hj with
    | 0, hj => exact rfl
    | 1, hj => exact rfl
    | 2, hj => exact absurd rfl hj
    | 3, hj => exact rfl
    | n + 4, _ => rfl
   ·cases h
 | 3 =>
  simp only [TermM.oS] at h
  cases hb : Nat.beq t 3 with
  | false => rw [hb] at h; cases h
  | true =>
   rw [hb] at h
   obtain rfl := Nat.eq_of_beq_eq_true hb
   simp only [cond_true] at h
   split at h
   ·rename_i a ha
    injection h with h
    subst h
    obtain ⟨rfl, ha⟩ := castL_ok ha
    obtain rfl := eq_of_heq ha
    refine ⟨rfl, fun j' hj => ?_⟩
    match j', hj with
    | 0, hj => exact rfl
    | 1, hj => exact rfl
    | 2, hj => exact rfl
    | 3, hj => exact absurd rfl hj
    | n + 4, _ => rfl
   ·cases h
 | n + 4 => simp [TermM.oS] at h
theorem TermM.oG_ok (x : TermM) (j : Nat) (t : TypeId) (e : Ty) (l : List e.D) (h1 : TermM.oT j = some (t, e)) (h2 : TermM.oG x j e = some l) : TermM.c x j = .own t e l := by
 match j with
 | 0 => simp [TermM.oT] at h1
 | 1 => simp [TermM.oT] at h1
 | 2 =>
  injection h1 with h1
  injection h1 with h1 h3
  subst h1; subst h3
  simp only [TermM.oG, castF_same, TermM.c] at h2 ⊢
  cases hx : x.to with
  | own l' => rw [hx] at h2; injection h2 with h2; subst h2; rfl
  | fz l' => rw [hx] at h2; cases h2
 | 3 =>
  injection h1 with h1
  injection h1 with h1 h3
  subst h1; subst h3
  simp only [TermM.oG, castF_same, TermM.c] at h2 ⊢
  cases hx : x.rets with
  | own l' => rw [hx] at h2; injection h2 with h2; subst h2; rfl
  | fz l' => rw [hx] at h2; cases h2
 | n + 4 => simp [TermM.oT] at h1
theorem TermM.fG_ok (x : TermM) (j : Nat) (e : Ty) (l : List e.D) (h1 : TermM.fT j = some e) (h2 : TermM.fG x j e = some l) : TermM.c x j = .ev (.fz e l) := by
 match j with
 | 0 => simp [TermM.fT] at h1
 | 1 => simp [TermM.fT] at h1
 | 2 =>
  injection h1 with h1
  subst h1
  simp only [TermM.fG, castF_same, TermM.c] at h2 ⊢
  cases hx : x.to with
  | fz l' => rw [hx] at h2; injection h2 with h2; subst h2; rfl
  | own l' => rw [hx] at h2; cases h2
 | 3 =>
  injection h1 with h1
  subst h1
  simp only [TermM.fG, castF_same, TermM.c] at h2 ⊢
  cases hx : x.rets with
  | fz l' => rw [hx] at h2; injection h2 with h2; subst h2; rfl
  | own l' => rw [hx] at h2; cases h2
 | n + 4 => simp [TermM.fT] at h1
theorem TermM.same (x : TermM) (j : Nat) (t : TypeId) (e : Ty) (l : List e.D) (y : TermM) (t0 : TypeId) (e0 : Ty) (l0 : List e0.D) (h : TermM.oS x j t e l = some y) (hc : TermM.c x j = .own t0 e0 l0) : ∃ l1, TermM.c x j = .own t e l1 := by
 match j with
 | 0 => simp [TermM.oS] at h
 | 1 => simp [TermM.oS] at h
 | 2 =>
  simp only [TermM.oS] at h
  cases hb : Nat.beq t 51 with
  | false => rw [hb] at h; cases h
  | true =>
   rw [hb] at h
   obtain rfl := Nat.eq_of_beq_eq_true hb
   simp only [cond_true] at h
   split at h
   ·rename_i a ha
    obtain ⟨rfl, _⟩ := castL_ok ha
    simp only [TermM.c] at hc ⊢
    cases hx : x.to with
    | own l1 => exact ⟨l1, rfl⟩
    | fz l1 => rw [hx] at hc; cases hc
   ·cases h
 | 3 =>
  simp only [TermM.oS] at h
  cases hb : Nat.beq t 3 with
  | false => rw [hb] at h; cases h
  | true =>
   rw [hb] at h
   obtain rfl := Nat.eq_of_beq_eq_true hb
   simp only [cond_true] at h
   split at h
   ·rename_i a ha
    obtain ⟨rfl, _⟩ := castL_ok ha
    simp only [TermM.c] at hc ⊢
    cases hx : x.rets with
    | own l1 => exact ⟨l1, rfl⟩
    | fz l1 => rw [hx] at hc; cases hc
   ·cases h
 | n + 4 => simp [TermM.oS] at h
theorem TermM.z_own (j : Nat) (t : TypeId) (e : Ty) (l : List e.D) (h : TermM.c TermM.z j = .own t e l) : l = [] := by
 match j with
 | 0 => cases h
 | 1 => cases h
 | 2 => cases h
 | 3 => cases h
 | n + 4 => cases h
theorem TermM.c_dat (x : TermM) (j : Nat) (u : EV) (h : TermM.c x j = .ev u) : u.dat = true := by
 match j with
 | 0 => injection h with h; subst h; rfl
 | 1 => injection h with h; subst h; rfl
 | 2 =>
  simp only [TermM.c] at h
  cases hx : x.to <;> rw [hx] at h
  ·cases h
  ·injection h with h; subst h; rfl
 | 3 =>
  simp only [TermM.c] at h
  cases hx : x.rets <;> rw [hx] at h
  ·cases h
  ·injection h with h; subst h; rfl
 | n + 4 => injection h with h; subst h; rfl
def BlockM.c (x : BlockM) : Nat -> Cell
 | 0 => match x.params with
  | .own l => .own 3 (.int .i64) l
  | .fz l => .ev (.fz (.int .i64) l)
 | 1 => match x.insts with
  | .own l => .own 46 (.st 8) l
  | .fz l => .ev (.fz (.st 0) l)
 | 2 => .ev (.i .i64 (x.term.kind))
 | 3 => .ev (.i .i64 (x.term.cond))
 | 4 => match x.term.to with
  | .own l => .own 51 (.st 9) l
  | .fz l => .ev (.fz (.st 1) l)
 | 5 => match x.term.rets with
  | .own l => .own 3 (.int .i64) l
  | .fz l => .ev (.fz (.int .i64) l)
 | 6 => .ev (.i .i64 (x.pipeline))
 | 7 => .ev (.i .i64 (x.unroll))
 | 8 => .ev (.i .i64 (x.line))
 | _ => .ev .un
def BlockM.s (x : BlockM) (j : Nat) (v : EV) : Option BlockM := match j with
 | 2 => match set0 (.int .i64) v with
  | some y => some { x with term := { x.term with kind := y } }
  | none => none
 | 3 => match set0 (.int .i64) v with
  | some y => some { x with term := { x.term with cond := y } }
  | none => none
 | 6 => match set0 (.int .i64) v with
  | some y => some { x with pipeline := y }
  | none => none
 | 7 => match set0 (.int .i64) v with
  | some y => some { x with unroll := y }
  | none => none
 | 8 => match set0 (.int .i64) v with
  | some y => some { x with line := y }
  | none => none
 | _ => none
def BlockM.oS (x : BlockM) (j : Nat) (t : TypeId) (e : Ty) (l : List e.D) : Option BlockM := match j with
 | 0 => bif Nat.beq t 3 then (match castF List e (.int .i64) l with
  | some y => some { x with params := .own y }
  | none => none) else none
 | 1 => bif Nat.beq t 46 then (match castF List e (.st 8) l with
  | some y => some { x with insts := .own y }
  | none => none) else none
 | 4 => bif Nat.beq t 51 then (match castF List e (.st 9) l with
  | some y => some { x with term := { x.term with to := .own y } }
  | none => none) else none
 | 5 => bif Nat.beq t 3 then (match castF List e (.int .i64) l with
  | some y => some { x with term := { x.term with rets := .own y } }
  | none => none) else none
 | _ => none
def BlockM.k (x : BlockM) (j : Nat) (t : TypeId) (e : Ty) (l : List e.D) : Option BlockM := match BlockM.c x j with
 | .own _ _ _ => BlockM.oS x j t e l
 | .ev _ => none
def BlockM.oT : Nat -> Option (TypeId × Ty)
 | 0 => some (3, (.int .i64))
 | 1 => some (46, (.st 8))
 | 4 => some (51, (.st 9))
 | 5 => some (3, (.int .i64))
 | _ => none
def BlockM.fT : Nat -> Option Ty
 | 0 => some (.int .i64)
 | 1 => some (.st 0)
 | 4 => some (.st 1)
 | 5 => some (.int .i64)
 | _ => none
def BlockM.oG (x : BlockM) (j : Nat) (e : Ty) : Option (List e.D) := match j with
 | 0 => (match castF (fun X => Option (List X)) (.int .i64) e (Sp.ownL x.params) with
  | some o => o
  | none => none)
 | 1 => (match castF (fun X => Option (List X)) (.st 8) e (Sp.ownL x.insts) with
  | some o => o
  | none => none)
 | 4 => (match castF (fun X => Option (List X)) (.st 9) e (Sp.ownL x.term.to) with
  | some o => o
  | none => none)
 | 5 => (match castF (fun X => Option (List X)) (.int .i64) e (Sp.ownL x.term.rets) with
  | some o => o
  | none => none)
 | _ => none
def BlockM.fG (x : BlockM) (j : Nat) (e : Ty) : Option (List e.D) := match j with
 | 0 => (match castF (fun X => Option (List X)) (.int .i64) e (Sp.frzL x.params) with
  | some o => o
  | none => none)
 | 1 => (match castF (fun X => Option (List X)) (.st 0) e (Sp.frzL x.insts) with
  | some o => o
  | none => none)
 | 4 => (match castF (fun X => Option (List X)) (.st 1) e (Sp.frzL x.term.to) with
  | some o => o
  | none => none)
 | 5 => (match castF (fun X => Option (List X)) (.int .i64) e (Sp.frzL x.term.rets) with
  | some o => o
  | none => none)
 | _ => none
theorem BlockM.s_ok (x : BlockM) (j : Nat) (v : EV) (y : BlockM) (h : BlockM.s x j v = some y) : (∃ u0, BlockM.c x j = .ev u0) /\ (∃ u, BlockM.c y j = .ev u /\ ∀ len, Wk (toV len v) (toV len u)) /\ ∀ j', j' ≠ j -> BlockM.c y j' = BlockM.c x j' := by
 match j with
 | 0 => simp [BlockM.s] at h
 | 1 => simp [BlockM.s] at h
 | 2 =>
  simp only [BlockM.s] at h
  split at h
  ·rename_i a ha
   injection h with h
   subst h
   refine ⟨⟨_, rfl⟩, ⟨_, rfl, set0_ok ha⟩, fun j' hj => ?_⟩
   match j', hj with
   | 0, hj => exact rfl
   | 1, hj => exact rfl
   | 2, hj => exact absurd rfl hj
   | 3, hj => exact rfl
   | 4, hj => exact rfl
   | 5, hj => exact rfl
   | 6, hj => exact rfl
   | 7, hj => exact rfl
   | 8, hj => exact rfl
   | n + 9, _ => rfl
  ·cases h
 | 3 =>
  simp only [BlockM.s] at h
  split at h
  ·rename_i a ha
   injection h with h
   subst h
   refine ⟨⟨_, rfl⟩, ⟨_, rfl, set0_ok ha⟩, fun j' hj => ?_⟩
   match j', hj with
   | 0, hj => exact rfl
   | 1, hj => exact rfl
   | 2, hj => exact rfl
   | 3, hj => exact absurd rfl hj
   | 4, hj => exact rfl
   | 5, hj => exact rfl
   | 6, hj => exact rfl
   | 7, hj => exact rfl
   | 8, hj => exact rfl
   | n + 9, _ => rfl
  ·cases h
 | 4 => simp [BlockM.s] at h
 | 5 => simp [BlockM.s] at h
 | 6 =>
  simp only [BlockM.s] at h
  split at h
  ·rename_i a ha
   injection h with h
   subst h
   refine ⟨⟨_, rfl⟩, ⟨_, rfl, set0_ok ha⟩, fun j' hj => ?_⟩
   match j', hj with
   | 0, hj => exact rfl
   | 1, hj => exact rfl
   | 2, hj => exact rfl
   | 3, hj => exact rfl
   | 4, hj => exact rfl
   | 5, hj => exact rfl
   | 6, hj => exact absurd rfl hj
   | 7, hj => exact rfl
   | 8, hj => exact rfl
   | n + 9, _ => rfl
  ·cases h
 | 7 =>
  simp only [BlockM.s] at h
  split at h
  ·rename_i a ha
   injection h with h
   subst h
   refine ⟨⟨_, rfl⟩, ⟨_, rfl, set0_ok ha⟩, fun j' hj => ?_⟩
   match j', hj with
   | 0, hj => exact rfl
   | 1, hj => exact rfl
   | 2, hj => exact rfl
   | 3, hj => exact rfl
   | 4, hj => exact rfl
   | 5, hj => exact rfl
   | 6, hj => exact rfl
   | 7, hj => exact absurd rfl hj
   | 8, hj => exact rfl
   | n + 9, _ => rfl
  ·cases h
 | 8 =>
  simp only [BlockM.s] at h
  split at h
  ·rename_i a ha
   injection h with h
   subst h
   refine ⟨⟨_, rfl⟩, ⟨_, rfl, set0_ok ha⟩, fun j' hj => ?_⟩
   match j', hj with
   | 0, hj => exact rfl
   | 1, hj => exact rfl
   | 2, hj => exact rfl
   | 3, hj => exact rfl
   | 4, hj => exact rfl
   | 5, hj => exact rfl
   | 6, hj => exact rfl
   | 7, hj => exact rfl
   | 8, hj => exact absurd rfl hj
   | n + 9, _ => rfl
  ·cases h
 | n + 9 => simp [BlockM.s] at h
theorem BlockM.oS_ok (x : BlockM) (j : Nat) (t : TypeId) (e : Ty) (l : List e.D) (y : BlockM) (h : BlockM.oS x j t e l = some y) : BlockM.c y j = .own t e l /\ ∀ j', j' ≠ j -> BlockM.c y j' = BlockM.c x j' := by
 match j with
 | 0 =>
  simp only [BlockM.oS] at h
  cases hb : Nat.beq t 3 with
  | false => rw [hb] at h; cases h
  | true =>
   rw [hb] at h
   obtain rfl := Nat.eq_of_beq_eq_true hb
   simp only [cond_true] at h
   split at h
   ·rename_i a ha
    injection h with h
    subst h
    obtain ⟨rfl, ha⟩ := castL_ok ha
    obtain rfl := eq_of_heq ha
    refine ⟨rfl, fun j' hj => ?_⟩
    match j', hj with
    | 0, hj => exact absurd rfl hj
    | 1, hj => exact rfl
    | 2, hj => exact rfl
    | 3, hj => exact rfl
    | 4, hj => exact rfl
    | 5, hj => exact rfl
    | 6, hj => exact rfl
    | 7, hj => exact rfl
    | 8, hj => exact rfl
    | n + 9, _ => rfl
   ·cases h
 | 1 =>
  simp only [BlockM.oS] at h
  cases hb : Nat.beq t 46 with
  | false => rw [hb] at h; cases h
  | true =>
   rw [hb] at h
   obtain rfl := Nat.eq_of_beq_eq_true hb
   simp only [cond_true] at h
   split at h
   ·rename_i a ha
    injection h with h
    subst h
    obtain ⟨rfl, ha⟩ := castL_ok ha
    obtain rfl := eq_of_heq ha
    refine ⟨rfl, fun j' hj => ?_⟩
    match j', hj with
    | 0, hj => exact rfl
    | 1, hj => exact absurd rfl hj
    | 2, hj => exact rfl
    | 3, hj => exact rfl
    | 4, hj => exact rfl
    | 5, hj => exact rfl
    | 6, hj => exact rfl
    | 7, hj => exact rfl
    | 8, hj => exact rfl
    | n + 9, _ => rfl
   ·cases h
 | 2 => simp [BlockM.oS] at h
 | 3 => simp [BlockM.oS] at h
 | 4 =>
  simp only [BlockM.oS] at h
  cases hb : Nat.beq t 51 with
  | false => rw [hb] at h; cases h
  | true =>
   rw [hb] at h
   obtain rfl := Nat.eq_of_beq_eq_true hb
   simp only [cond_true] at h
   split at h
   ·rename_i a ha
    injection h with h
    subst h
    obtain ⟨rfl, ha⟩ := castL_ok ha
    obtain rfl := eq_of_heq ha
    refine ⟨rfl, fun j' hj => ?_⟩
    match j', hj with
    | 0, hj => exact rfl
    | 1, hj => exact rfl
    | 2, hj => exact rfl
    | 3, hj => exact rfl
    | 4, hj => exact absurd rfl hj
    | 5, hj => exact rfl
    | 6, hj => exact rfl
    | 7, hj => exact rfl
    | 8, hj => exact rfl
    | n + 9, _ => rfl
   ·cases h
 | 5 =>
  simp only [BlockM.oS] at h
  cases hb : Nat.beq t 3 with
  | false => rw [hb] at h; cases h
  | true =>
   rw [hb] at h
   obtain rfl := Nat.eq_of_beq_eq_true hb
   simp only [cond_true] at h
   split at h
   ·rename_i a ha
    injection h with h
    subst h
    obtain ⟨rfl, ha⟩ := castL_ok ha
    obtain rfl := eq_of_heq ha
    refine ⟨rfl, fun j' hj => ?_⟩
    match j', hj with
    | 0, hj => exact rfl
    | 1, hj => exact rfl
    | 2, hj => exact rfl
    | 3, hj => exact rfl
    | 4, hj => exact rfl
    | 5, hj => exact absurd rfl hj
    | 6, hj => exact rfl
    | 7, hj => exact rfl
    | 8, hj => exact rfl
    | n + 9, _ => rfl
   ·cases h
 | 6 => simp [BlockM.oS] at h
 | 7 => simp [BlockM.oS] at h
 | 8 => simp [BlockM.oS] at h
 | n + 9 => simp [BlockM.oS] at h
theorem BlockM.oG_ok (x : BlockM) (j : Nat) (t : TypeId) (e : Ty) (l : List e.D) (h1 : BlockM.oT j = some (t, e)) (h2 : BlockM.oG x j e = some l) : BlockM.c x j = .own t e l := by
 match j with
 | 0 =>
  injection h1 with h1
  injection h1 with h1 h3
  subst h1; subst h3
  simp only [BlockM.oG, castF_same, BlockM.c] at h2 ⊢
  cases hx : x.params with
  | own l' => rw [hx] at h2; injection h2 with h2; subst h2; rfl
  | fz l' => rw [hx] at h2; cases h2
 | 1 =>
  injection h1 with h1
  injection h1 with h1 h3
  subst h1; subst h3
  simp only [BlockM.oG, castF_same, BlockM.c] at h2 ⊢
  cases hx : x.insts with
  | own l' => rw [hx] at h2; injection h2 with h2; subst h2; rfl
  | fz l' => rw [hx] at h2; cases h2
 | 2 => simp [BlockM.oT] at h1
 | 3 => simp [BlockM.oT] at h1
 | 4 =>
  injection h1 with h1
  injection h1 with h1 h3
  subst h1; subst h3
  simp only [BlockM.oG, castF_same, BlockM.c] at h2 ⊢
  cases hx : x.term.to with
  | own l' => rw [hx] at h2; injection h2 with h2; subst h2; rfl
  | fz l' => rw [hx] at h2; cases h2
 | 5 =>
  injection h1 with h1
  injection h1 with h1 h3
  subst h1; subst h3
  simp only [BlockM.oG, castF_same, BlockM.c] at h2 ⊢
  cases hx : x.term.rets with
  | own l' => rw [hx] at h2; injection h2 with h2; subst h2; rfl
  | fz l' => rw [hx] at h2; cases h2
 | 6 => simp [BlockM.oT] at h1
 | 7 => simp [BlockM.oT] at h1
 | 8 => simp [BlockM.oT] at h1
 | n + 9 => simp [BlockM.oT] at h1
theorem BlockM.fG_ok (x : BlockM) (j : Nat) (e : Ty) (l : List e.D) (h1 : BlockM.fT j = some e) (h2 : BlockM.fG x j e = some l) : BlockM.c x j = .ev (.fz e l) := by
 match j with
 | 0 =>
  injection h1 with h1
  subst h1
  simp only [BlockM.fG, castF_same, BlockM.c] at h2 ⊢
  cases hx : x.params with
  | fz l' => rw [hx] at h2; injection h2 with h2; subst h2; rfl
  | own l' => rw [hx] at h2; cases h2
 | 1 =>
  injection h1 with h1
  subst h1
  simp only [BlockM.fG, castF_same, BlockM.c] at h2 ⊢
  cases hx : x.insts with
  | fz l' => rw [hx] at h2; injection h2 with h2; subst h2; rfl
  | own l' => rw [hx] at h2; cases h2
 | 2 => simp [BlockM.fT] at h1
 | 3 => simp [BlockM.fT] at h1
 | 4 =>
  injection h1 with h1
  subst h1
  simp only [BlockM.fG, castF_same, BlockM.c] at h2 ⊢
  cases hx : x.term.to with
  | fz l' => rw [hx] at h2; injection h2 with h2; subst h2; rfl
  | own l' => rw [hx] at h2; cases h2
 | 5 =>
  injection h1 with h1
  subst h1
  simp only [BlockM.fG, castF_same, BlockM.c] at h2 ⊢
  cases hx : x.term.rets with
  | fz l' => rw [hx] at h2; injection h2 with h2; subst h2; rfl
  | own l' => rw [hx] at h2; cases h2
 | 6 => simp [BlockM.fT] at h1
 | 7 => simp [BlockM.fT] at h1
 | 8 => simp [BlockM.fT] at h1
 | n + 9 => simp [BlockM.fT] at h1
theorem BlockM.same (x : BlockM) (j : Nat) (t : TypeId) (e : Ty) (l : List e.D) (y : BlockM) (t0 : TypeId) (e0 : Ty) (l0 : List e0.D) (h : BlockM.oS x j t e l = some y) (hc : BlockM.c x j = .own t0 e0 l0) : ∃ l1, BlockM.c x j = .own t e l1 := by
 match j with
 | 0 =>
  simp only [BlockM.oS] at h
  cases hb : Nat.beq t 3 with
  | false => rw [hb] at h; cases h
  | true =>
   rw [hb] at h
   obtain rfl := Nat.eq_of_beq_eq_true hb
   simp only [cond_true] at h
   split at h
   ·rename_i a ha
    obtain ⟨rfl, _⟩ := castL_ok ha
    simp only [BlockM.c] at hc ⊢
    cases hx : x.params with
    | own l1 => exact ⟨l1, rfl⟩
    | fz l1 => rw [hx] at hc; cases hc
   ·cases h
 | 1 =>
  simp only [BlockM.oS] at h
  cases hb : Nat.beq t 46 with
  | false => rw [hb] at h; cases h
  | true =>
   rw [hb] at h
   obtain rfl := Nat.eq_of_beq_eq_true hb
   simp only [cond_true] at h
   split at h
   ·rename_i a ha
    obtain ⟨rfl, _⟩ := castL_ok ha
    simp only [BlockM.c] at hc ⊢
    cases hx : x.insts with
    | own l1 => exact ⟨l1, rfl⟩
    | fz l1 => rw [hx] at hc; cases hc
   ·cases h
 | 2 => simp [BlockM.oS] at h
 | 3 => simp [BlockM.oS] at h
 | 4 =>
  simp only [BlockM.oS] at h
  cases hb : Nat.beq t 51 with
  | false => rw [hb] at h; cases h
  | true =>
   rw [hb] at h
   obtain rfl := Nat.eq_of_beq_eq_true hb
   simp only [cond_true] at h
   split at h
   ·rename_i a ha
    obtain ⟨rfl, _⟩ := castL_ok ha
    simp only [BlockM.c] at hc ⊢
    cases hx : x.term.to with
    | own l1 => exact ⟨l1, rfl⟩
    | fz l1 => rw [hx] at hc; cases hc
   ·cases h
 | 5 =>
  simp only [BlockM.oS] at h
  cases hb : Nat.beq t 3 with
  | false => rw [hb] at h; cases h
  | true =>
   rw [hb] at h
   obtain rfl := Nat.eq_of_beq_eq_true hb
   simp only [cond_true] at h
   split at h
   ·rename_i a ha
    obtain ⟨rfl, _⟩ := castL_ok ha
    simp only [BlockM.c] at hc ⊢
    cases hx : x.term.rets with
    | own l1 => exact ⟨l1, rfl⟩
    | fz l1 => rw [hx] at hc; cases hc
   ·cases h
 | 6 => simp [BlockM.oS] at h
 | 7 => simp [BlockM.oS] at h
 | 8 => simp [BlockM.oS] at h
 | n + 9 => simp [BlockM.oS] at h
theorem BlockM.z_own (j : Nat) (t : TypeId) (e : Ty) (l : List e.D) (h : BlockM.c BlockM.z j = .own t e l) : l = [] := by
 match j with
 | 0 => cases h
 | 1 => cases h
 | 2 => cases h
 | 3 => cases h
 | 4 => cases h
 | 5 => cases h
 | 6 => cases h
 | 7 => cases h
 | 8 => cases h
 | n + 9 => cases h
theorem BlockM.c_dat (x : BlockM) (j : Nat) (u : EV) (h : BlockM.c x j = .ev u) : u.dat = true := by
 match j with
 | 0 =>
  simp only [BlockM.c] at h
  cases hx : x.params <;> rw [hx] at h
  ·cases h
  ·injection h with h; subst h; rfl
 | 1 =>
  simp only [BlockM.c] at h
  cases hx : x.insts <;> rw [hx] at h
  ·cases h
  ·injection h with h; subst h; rfl
 | 2 => injection h with h; subst h; rfl
 | 3 => injection h with h; subst h; rfl
 | 4 =>
  simp only [BlockM.c] at h
  cases hx : x.term.to <;> rw [hx] at h
  ·cases h
  ·injection h with h; subst h; rfl
 | 5 =>
  simp only [BlockM.c] at h
  cases hx : x.term.rets <;> rw [hx] at h
  ·cases h
  ·injection h with h; subst h; rfl
 | 6 => injection h with h; subst h; rfl
 | 7 => injection h with h; subst h; rfl
 | 8 => injection h with h; subst h; rfl
 | n + 9 => injection h with h; subst h; rfl
def LsI.c (x : LsI) : Nat -> Cell
 | 0 => match x.v with
  | .own l => .own 3 (.int .i64) l
  | .gone => .ev .un
 | _ => .ev .un
def LsI.s (x : LsI) (j : Nat) (v : EV) : Option LsI := match j with
 | _ => none
def LsI.oS (x : LsI) (j : Nat) (t : TypeId) (e : Ty) (l : List e.D) : Option LsI := match j with
 | 0 => bif Nat.beq t 3 then (match castF List e (.int .i64) l with
  | some y => some { x with v := .own y }
  | none => none) else none
 | _ => none
def LsI.k (x : LsI) (j : Nat) (t : TypeId) (e : Ty) (l : List e.D) : Option LsI := match LsI.c x j with
 | .own _ _ _ => LsI.oS x j t e l
 | .ev _ => none
def LsI.oT : Nat -> Option (TypeId × Ty)
 | 0 => some (3, (.int .i64))
 | _ => none
def LsI.fT : Nat -> Option Ty
 | _ => none
def LsI.oG (x : LsI) (j : Nat) (e : Ty) : Option (List e.D) := match j with
 | 0 => (match castF (fun X => Option (List X)) (.int .i64) e (Sp.gnL x.v) with
  | some o => o
  | none => none)
 | _ => none
def LsI.fG (x : LsI) (j : Nat) (e : Ty) : Option (List e.D) := match j with
 | _ => none
theorem LsI.s_ok (x : LsI) (j : Nat) (v : EV) (y : LsI) (h : LsI.s x j v = some y) : (∃ u0, LsI.c x j = .ev u0) /\ (∃ u, LsI.c y j = .ev u /\ ∀ len, Wk (toV len v) (toV len u)) /\ ∀ j', j' ≠ j -> LsI.c y j' = LsI.c x j' := by
 match j with
 | 0 => simp [LsI.s] at h
 | n + 1 => simp [LsI.s] at h
theorem LsI.oS_ok (x : LsI) (j : Nat) (t : TypeId) (e : Ty) (l : List e.D) (y : LsI) (h : LsI.oS x j t e l = some y) : LsI.c y j = .own t e l /\ ∀ j', j' ≠ j -> LsI.c y j' = LsI.c x j' := by
 match j with
 | 0 =>
  simp only [LsI.oS] at h
  cases hb : Nat.beq t 3 with
  | false => rw [hb] at h; cases h
  | true =>
   rw [hb] at h
   obtain rfl := Nat.eq_of_beq_eq_true hb
   simp only [cond_true] at h
   split at h
   ·rename_i a ha
    injection h with h
    subst h
    obtain ⟨rfl, ha⟩ := castL_ok ha
    obtain rfl := eq_of_heq ha
    refine ⟨rfl, fun j' hj => ?_⟩
    match j', hj with
    | 0, hj => exact absurd rfl hj
    | n + 1, _ => rfl
   ·cases h
 | n + 1 => simp [LsI.oS] at h
theorem LsI.oG_ok (x : LsI) (j : Nat) (t : TypeId) (e : Ty) (l : List e.D) (h1 : LsI.oT j = some (t, e)) (h2 : LsI.oG x j e = some l) : LsI.c x j = .own t e l := by
 match j with
 | 0 =>
  injection h1 with h1
  injection h1 with h1 h3
  subst h1; subst h3
  simp only [LsI.oG, castF_same, LsI.c] at h2 ⊢
  cases hx : x.v with
  | own l' => rw [hx] at h2; injection h2 with h2; subst h2; rfl
  | gone => rw [hx] at h2; cases h2
 | n + 1 => simp [LsI.oT] at h1
theorem LsI.fG_ok (x : LsI) (j : Nat) (e : Ty) (l : List e.D) (h1 : LsI.fT j = some e) (h2 : LsI.fG x j e = some l) : LsI.c x j = .ev (.fz e l) := by
 match j with
 | 0 => simp [LsI.fT] at h1
 | n + 1 => simp [LsI.fT] at h1
theorem LsI.same (x : LsI) (j : Nat) (t : TypeId) (e : Ty) (l : List e.D) (y : LsI) (t0 : TypeId) (e0 : Ty) (l0 : List e0.D) (h : LsI.oS x j t e l = some y) (hc : LsI.c x j = .own t0 e0 l0) : ∃ l1, LsI.c x j = .own t e l1 := by
 match j with
 | 0 =>
  simp only [LsI.oS] at h
  cases hb : Nat.beq t 3 with
  | false => rw [hb] at h; cases h
  | true =>
   rw [hb] at h
   obtain rfl := Nat.eq_of_beq_eq_true hb
   simp only [cond_true] at h
   split at h
   ·rename_i a ha
    obtain ⟨rfl, _⟩ := castL_ok ha
    simp only [LsI.c] at hc ⊢
    cases hx : x.v with
    | own l1 => exact ⟨l1, rfl⟩
    | gone => rw [hx] at hc; cases hc
   ·cases h
 | n + 1 => simp [LsI.oS] at h
theorem LsI.z_own (j : Nat) (t : TypeId) (e : Ty) (l : List e.D) (h : LsI.c LsI.z j = .own t e l) : l = [] := by
 match j with
 | 0 => cases h; rfl
 | n + 1 => cases h
theorem LsI.c_dat (x : LsI) (j : Nat) (u : EV) (h : LsI.c x j = .ev u) : u.dat = true := by
 match j with
 | 0 =>
  simp only [LsI.c] at h
  cases hx : x.v <;> rw [hx] at h
  ·cases h
  ·injection h with h; subst h; rfl
 | n + 1 => injection h with h; subst h; rfl
def InstM.gS (x : InstM) (j : Nat) : Option InstM := match j with
 | _ => none
theorem InstM.gS_ok (x : InstM) (j : Nat) (y : InstM) (h : InstM.gS x j = some y) : InstM.c y j = .ev .un /\ ∀ j', j' ≠ j -> InstM.c y j' = InstM.c x j' := by
 match j with
 | 0 => simp [InstM.gS] at h
 | 1 => simp [InstM.gS] at h
 | 2 => simp [InstM.gS] at h
 | 3 => simp [InstM.gS] at h
 | 4 => simp [InstM.gS] at h
 | n + 5 => simp [InstM.gS] at h
def EdgeM.gS (x : EdgeM) (j : Nat) : Option EdgeM := match j with
 | _ => none
theorem EdgeM.gS_ok (x : EdgeM) (j : Nat) (y : EdgeM) (h : EdgeM.gS x j = some y) : EdgeM.c y j = .ev .un /\ ∀ j', j' ≠ j -> EdgeM.c y j' = EdgeM.c x j' := by
 match j with
 | 0 => simp [EdgeM.gS] at h
 | 1 => simp [EdgeM.gS] at h
 | n + 2 => simp [EdgeM.gS] at h
def TermM.gS (x : TermM) (j : Nat) : Option TermM := match j with
 | _ => none
theorem TermM.gS_ok (x : TermM) (j : Nat) (y : TermM) (h : TermM.gS x j = some y) : TermM.c y j = .ev .un /\ ∀ j', j' ≠ j -> TermM.c y j' = TermM.c x j' := by
 match j with
 | 0 => simp [TermM.gS] at h
 | 1 => simp [TermM.gS] at h
 | 2 => simp [TermM.gS] at h
 | 3 => simp [TermM.gS] at h
 | n + 4 => simp [TermM.gS] at h
def BlockM.gS (x : BlockM) (j : Nat) : Option BlockM := match j with
 | _ => none
theorem BlockM.gS_ok (x : BlockM) (j : Nat) (y : BlockM) (h : BlockM.gS x j = some y) : BlockM.c y j = .ev .un /\ ∀ j', j' ≠ j -> BlockM.c y j' = BlockM.c x j' := by
 match j with
 | 0 => simp [BlockM.gS] at h
 | 1 => simp [BlockM.gS] at h
 | 2 => simp [BlockM.gS] at h
 | 3 => simp [BlockM.gS] at h
 | 4 => simp [BlockM.gS] at h
 | 5 => simp [BlockM.gS] at h
 | 6 => simp [BlockM.gS] at h
 | 7 => simp [BlockM.gS] at h
 | 8 => simp [BlockM.gS] at h
 | n + 9 => simp [BlockM.gS] at h
def LsI.gS (x : LsI) (j : Nat) : Option LsI := match j with
 | 0 => some { x with v := .gone }
 | _ => none
theorem LsI.gS_ok (x : LsI) (j : Nat) (y : LsI) (h : LsI.gS x j = some y) : LsI.c y j = .ev .un /\ ∀ j', j' ≠ j -> LsI.c y j' = LsI.c x j' := by
 match j with
 | 0 =>
  injection h with h
  subst h
  refine ⟨rfl, fun j' hj => ?_⟩
  match j', hj with
  | 0, hj => exact absurd rfl hj
  | n + 1, _ => rfl
 | n + 1 => simp [LsI.gS] at h
def InstM.up (x : Inst) : InstM := ⟨x.op, x.dest, .fz x.args, x.num, x.mem⟩
theorem InstM.up_c (x : Inst) : ∀ c, InstM.c (InstM.up x) c = .ev (Inst.c x c)
 | 0 => rfl
 | 1 => rfl
 | 2 => rfl
 | 3 => rfl
 | 4 => rfl
 | n + 5 => rfl
def EdgeM.up (x : Edge) : EdgeM := ⟨x.block, .fz x.args⟩
theorem EdgeM.up_c (x : Edge) : ∀ c, EdgeM.c (EdgeM.up x) c = .ev (Edge.c x c)
 | 0 => rfl
 | 1 => rfl
 | n + 2 => rfl
def TermM.up (x : Term) : TermM := ⟨x.kind, x.cond, .fz x.to, .fz x.rets⟩
theorem TermM.up_c (x : Term) : ∀ c, TermM.c (TermM.up x) c = .ev (Term.c x c)
 | 0 => rfl
 | 1 => rfl
 | 2 => rfl
 | 3 => rfl
 | n + 4 => rfl
def BlockM.up (x : Block) : BlockM := ⟨.fz x.params, .fz x.insts, ⟨x.term.kind, x.term.cond, .fz x.term.to, .fz x.term.rets⟩, x.pipeline, x.unroll, x.line⟩
theorem BlockM.up_c (x : Block) : ∀ c, BlockM.c (BlockM.up x) c = .ev (Block.c x c)
 | 0 => rfl
 | 1 => rfl
 | 2 => rfl
 | 3 => rfl
 | 4 => rfl
 | 5 => rfl
 | 6 => rfl
 | 7 => rfl
 | 8 => rfl
 | n + 9 => rfl
def suCell : (i : Nat) -> suD i -> Nat -> Cell
 | 0, x => fun j => .ev (Inst.c x j)
 | 1, x => fun j => .ev (Edge.c x j)
 | 2, x => fun j => .ev (Term.c x j)
 | 3, x => fun j => .ev (Block.c x j)
 | 4, x => fun j => .ev (Arr.c x j)
 | 5, x => fun j => .ev (Strm.c x j)
 | 6, x => fun j => .ev (Fn.c x j)
 | 7, x => fun j => .ev (Typ.c x j)
 | 8, x => InstM.c x
 | 9, x => EdgeM.c x
 | 10, x => TermM.c x
 | 11, x => BlockM.c x
 | 12, x => LsI.c x
 | _ + 13, _ => fun _ => .ev .un
def suSet : (i : Nat) -> suD i -> Nat -> EV -> Option (suD i)
 | 0, x => Inst.s x
 | 1, x => Edge.s x
 | 2, x => Term.s x
 | 3, x => Block.s x
 | 4, x => Arr.s x
 | 5, x => Strm.s x
 | 6, x => Fn.s x
 | 7, x => Typ.s x
 | 8, x => InstM.s x
 | 9, x => EdgeM.s x
 | 10, x => TermM.s x
 | 11, x => BlockM.s x
 | 12, x => LsI.s x
 | _ + 13, _ => fun _ _ => none
def suMake : (i : Nat) -> List EV -> Option (suD i)
 | 0 => Inst.m
 | 1 => Edge.m
 | 2 => Term.m
 | 3 => Block.m
 | 4 => Arr.m
 | 5 => Strm.m
 | 6 => Fn.m
 | 7 => Typ.m
 | _ + 8 => fun _ => none
def suK : (i : Nat) -> suD i -> Nat -> (t : TypeId) -> (e : Ty) -> List e.D -> Option (suD i)
 | 8, x => InstM.k x
 | 9, x => EdgeM.k x
 | 10, x => TermM.k x
 | 11, x => BlockM.k x
 | 12, x => LsI.k x
 | _, _ => fun _ _ _ _ => none
def suOS : (i : Nat) -> suD i -> Nat -> (t : TypeId) -> (e : Ty) -> List e.D -> Option (suD i)
 | 8, x => InstM.oS x
 | 9, x => EdgeM.oS x
 | 10, x => TermM.oS x
 | 11, x => BlockM.oS x
 | 12, x => LsI.oS x
 | _, _ => fun _ _ _ _ => none
def suGS : (i : Nat) -> suD i -> Nat -> Option (suD i)
 | 8, x => InstM.gS x
 | 9, x => EdgeM.gS x
 | 10, x => TermM.gS x
 | 11, x => BlockM.gS x
 | 12, x => LsI.gS x
 | _, _ => fun _ => none
def suOT : Nat -> Nat -> Option (TypeId × Ty)
 | 8 => InstM.oT
 | 9 => EdgeM.oT
 | 10 => TermM.oT
 | 11 => BlockM.oT
 | 12 => LsI.oT
 | _ => fun _ => none
def suOG : (i : Nat) -> suD i -> Nat -> (e : Ty) -> Option (List e.D)
 | 8, x => InstM.oG x
 | 9, x => EdgeM.oG x
 | 10, x => TermM.oG x
 | 11, x => BlockM.oG x
 | 12, x => LsI.oG x
 | _, _ => fun _ _ => none
def suFT : Nat -> Nat -> Option Ty
 | 8 => InstM.fT
 | 9 => EdgeM.fT
 | 10 => TermM.fT
 | 11 => BlockM.fT
 | 12 => LsI.fT
 | _ => fun _ => none
def suFG : (i : Nat) -> suD i -> Nat -> (e : Ty) -> Option (List e.D)
 | 8, x => InstM.fG x
 | 9, x => EdgeM.fG x
 | 10, x => TermM.fG x
 | 11, x => BlockM.fG x
 | 12, x => LsI.fG x
 | _, _ => fun _ _ => none
def suUp : (i j : Nat) -> Option (suD i -> suD j)
 | 0, 8 => some InstM.up
 | 1, 9 => some EdgeM.up
 | 2, 10 => some TermM.up
 | 3, 11 => some BlockM.up
 | _, _ => none
def suFro : Nat -> Bool := fun i => Nat.blt i 8
instance : Codes where
 fro := suFro
 cell := suCell
 set := suSet
 setK := suK
 make := suMake
 ownT := suOT
 ownG := suOG
 ownS := suOS
 frzT := suFT
 frzG := suFG
 upF := suUp
 goneS := suGS
 cell_ok := fun i x j hf => match i, x, hf with
  | 0, x, _ => ⟨_, rfl, fun hj len => Inst.c_ok x len j hj⟩
  | 1, x, _ => ⟨_, rfl, fun hj len => Edge.c_ok x len j hj⟩
  | 2, x, _ => ⟨_, rfl, fun hj len => Term.c_ok x len j hj⟩
  | 3, x, _ => ⟨_, rfl, fun hj len => Block.c_ok x len j hj⟩
  | 4, x, _ => ⟨_, rfl, fun hj len => Arr.c_ok x len j hj⟩
  | 5, x, _ => ⟨_, rfl, fun hj len => Strm.c_ok x len j hj⟩
  | 6, x, _ => ⟨_, rfl, fun hj len => Fn.c_ok x len j hj⟩
  | 7, x, _ => ⟨_, rfl, fun hj len => Typ.c_ok x len j hj⟩
  | n + 8, _, hf => absurd (Nat.le_of_ble_eq_true hf) (by omega)
 set_ok := fun i x j v y h => match i, x, y, h with
  | 0, x, y, h => ⟨⟨_, rfl⟩, ⟨_, rfl, (Inst.s_ok x j v y h).1⟩, fun j' hj => congrArg Cell.ev ((Inst.s_ok x j v y h).2 j' hj)⟩
  | 1, x, y, h => ⟨⟨_, rfl⟩, ⟨_, rfl, (Edge.s_ok x j v y h).1⟩, fun j' hj => congrArg Cell.ev ((Edge.s_ok x j v y h).2 j' hj)⟩
  | 2, x, y, h => ⟨⟨_, rfl⟩, ⟨_, rfl, (Term.s_ok x j v y h).1⟩, fun j' hj => congrArg Cell.ev ((Term.s_ok x j v y h).2 j' hj)⟩
  | 3, x, y, h => ⟨⟨_, rfl⟩, ⟨_, rfl, (Block.s_ok x j v y h).1⟩, fun j' hj => congrArg Cell.ev ((Block.s_ok x j v y h).2 j' hj)⟩
  | 4, x, y, h => ⟨⟨_, rfl⟩, ⟨_, rfl, (Arr.s_ok x j v y h).1⟩, fun j' hj => congrArg Cell.ev ((Arr.s_ok x j v y h).2 j' hj)⟩
  | 5, x, y, h => ⟨⟨_, rfl⟩, ⟨_, rfl, (Strm.s_ok x j v y h).1⟩, fun j' hj => congrArg Cell.ev ((Strm.s_ok x j v y h).2 j' hj)⟩
  | 6, x, y, h => ⟨⟨_, rfl⟩, ⟨_, rfl, (Fn.s_ok x j v y h).1⟩, fun j' hj => congrArg Cell.ev ((Fn.s_ok x j v y h).2 j' hj)⟩
  | 7, x, y, h => ⟨⟨_, rfl⟩, ⟨_, rfl, (Typ.s_ok x j v y h).1⟩, fun j' hj => congrArg Cell.ev ((Typ.s_ok x j v y h).2 j' hj)⟩
  | 8, x, y, h => InstM.s_ok x j v y h
  | 9, x, y, h => EdgeM.s_ok x j v y h
  | 10, x, y, h => TermM.s_ok x j v y h
  | 11, x, y, h => BlockM.s_ok x j v y h
  | 12, x, y, h => LsI.s_ok x j v y h
  | n + 13, _, _, h => by cases h
 setK_ok := fun i x j t e l y h => match i, x, y, h with
  | 0, _, _, h => by cases h
  | 1, _, _, h => by cases h
  | 2, _, _, h => by cases h
  | 3, _, _, h => by cases h
  | 4, _, _, h => by cases h
  | 5, _, _, h => by cases h
  | 6, _, _, h => by cases h
  | 7, _, _, h => by cases h
  | 8, x, y, h => by
   have h : InstM.k x j t e l = some y := h
   unfold InstM.k at h
   split at h
   ·rename_i t0 e0 l0 hc
    obtain ⟨k1, k2⟩ := InstM.oS_ok x j t e l y h
    refine ⟨?_, k1, k2⟩
    exact InstM.same x j t e l y t0 e0 l0 h hc
   ·cases h
  | 9, x, y, h => by
   have h : EdgeM.k x j t e l = some y := h
   unfold EdgeM.k at h
   split at h
   ·rename_i t0 e0 l0 hc
    obtain ⟨k1, k2⟩ := EdgeM.oS_ok x j t e l y h
    refine ⟨?_, k1, k2⟩
    exact EdgeM.same x j t e l y t0 e0 l0 h hc
   ·cases h
  | 10, x, y, h => by
   have h : TermM.k x j t e l = some y := h
   unfold TermM.k at h
   split at h
   ·rename_i t0 e0 l0 hc
    obtain ⟨k1, k2⟩ := TermM.oS_ok x j t e l y h
    refine ⟨?_, k1, k2⟩
    exact TermM.same x j t e l y t0 e0 l0 h hc
   ·cases h
  | 11, x, y, h => by
   have h : BlockM.k x j t e l = some y := h
   unfold BlockM.k at h
   split at h
   ·rename_i t0 e0 l0 hc
    obtain ⟨k1, k2⟩ := BlockM.oS_ok x j t e l y h
    refine ⟨?_, k1, k2⟩
    exact BlockM.same x j t e l y t0 e0 l0 h hc
   ·cases h
  | 12, x, y, h => by
   have h : LsI.k x j t e l = some y := h
   unfold LsI.k at h
   split at h
   ·rename_i t0 e0 l0 hc
    obtain ⟨k1, k2⟩ := LsI.oS_ok x j t e l y h
    refine ⟨?_, k1, k2⟩
    exact LsI.same x j t e l y t0 e0 l0 h hc
   ·cases h
  | n + 13, _, _, h => by cases h
 cell_dat := fun i x j u h => match i, x, h with
  | 0, x, h => by injection h with h; subst h; exact Inst.c_dat x j
  | 1, x, h => by injection h with h; subst h; exact Edge.c_dat x j
  | 2, x, h => by injection h with h; subst h; exact Term.c_dat x j
  | 3, x, h => by injection h with h; subst h; exact Block.c_dat x j
  | 4, x, h => by injection h with h; subst h; exact Arr.c_dat x j
  | 5, x, h => by injection h with h; subst h; exact Strm.c_dat x j
  | 6, x, h => by injection h with h; subst h; exact Fn.c_dat x j
  | 7, x, h => by injection h with h; subst h; exact Typ.c_dat x j
  | 8, x, h => InstM.c_dat x j u h
  | 9, x, h => EdgeM.c_dat x j u h
  | 10, x, h => TermM.c_dat x j u h
  | 11, x, h => BlockM.c_dat x j u h
  | 12, x, h => LsI.c_dat x j u h
  | n + 13, _, h => by injection h with h; subst h; rfl
 z_own := fun i j t e l h => match i, h with
  | 0, h => by cases h
  | 1, h => by cases h
  | 2, h => by cases h
  | 3, h => by cases h
  | 4, h => by cases h
  | 5, h => by cases h
  | 6, h => by cases h
  | 7, h => by cases h
  | 8, h => InstM.z_own j t e l h
  | 9, h => EdgeM.z_own j t e l h
  | 10, h => TermM.z_own j t e l h
  | 11, h => BlockM.z_own j t e l h
  | 12, h => LsI.z_own j t e l h
  | n + 13, h => by cases h
 make_ok := fun i l y h => match i, y, h with
  | 0, y, h => ⟨(Inst.m_ok l y h).1, fun j hj => ⟨_, rfl, (Inst.m_ok l y h).2 j hj⟩⟩
  | 1, y, h => ⟨(Edge.m_ok l y h).1, fun j hj => ⟨_, rfl, (Edge.m_ok l y h).2 j hj⟩⟩
  | 2, y, h => ⟨(Term.m_ok l y h).1, fun j hj => ⟨_, rfl, (Term.m_ok l y h).2 j hj⟩⟩
  | 3, y, h => ⟨(Block.m_ok l y h).1, fun j hj => ⟨_, rfl, (Block.m_ok l y h).2 j hj⟩⟩
  | 4, y, h => ⟨(Arr.m_ok l y h).1, fun j hj => ⟨_, rfl, (Arr.m_ok l y h).2 j hj⟩⟩
  | 5, y, h => ⟨(Strm.m_ok l y h).1, fun j hj => ⟨_, rfl, (Strm.m_ok l y h).2 j hj⟩⟩
  | 6, y, h => ⟨(Fn.m_ok l y h).1, fun j hj => ⟨_, rfl, (Fn.m_ok l y h).2 j hj⟩⟩
  | 7, y, h => ⟨(Typ.m_ok l y h).1, fun j hj => ⟨_, rfl, (Typ.m_ok l y h).2 j hj⟩⟩
  | n + 8, _, h => by cases h
 ownG_ok := fun i x j t e l h1 h2 => match i, x, h1, h2 with
  | 0, _, h, _ => by cases h
  | 1, _, h, _ => by cases h
  | 2, _, h, _ => by cases h
  | 3, _, h, _ => by cases h
  | 4, _, h, _ => by cases h
  | 5, _, h, _ => by cases h
  | 6, _, h, _ => by cases h
  | 7, _, h, _ => by cases h
  | 8, x, h1, h2 => InstM.oG_ok x j t e l h1 h2
  | 9, x, h1, h2 => EdgeM.oG_ok x j t e l h1 h2
  | 10, x, h1, h2 => TermM.oG_ok x j t e l h1 h2
  | 11, x, h1, h2 => BlockM.oG_ok x j t e l h1 h2
  | 12, x, h1, h2 => LsI.oG_ok x j t e l h1 h2
  | n + 13, _, h, _ => by cases h
 goneS_ok := fun i x j y h => match i, x, y, h with
  | 0, _, _, h => by cases h
  | 1, _, _, h => by cases h
  | 2, _, _, h => by cases h
  | 3, _, _, h => by cases h
  | 4, _, _, h => by cases h
  | 5, _, _, h => by cases h
  | 6, _, _, h => by cases h
  | 7, _, _, h => by cases h
  | 8, x, y, h => InstM.gS_ok x j y h
  | 9, x, y, h => EdgeM.gS_ok x j y h
  | 10, x, y, h => TermM.gS_ok x j y h
  | 11, x, y, h => BlockM.gS_ok x j y h
  | 12, x, y, h => LsI.gS_ok x j y h
  | n + 13, _, _, h => by cases h
 ownS_ok := fun i x j t e l y h => match i, x, y, h with
  | 0, _, _, h => by cases h
  | 1, _, _, h => by cases h
  | 2, _, _, h => by cases h
  | 3, _, _, h => by cases h
  | 4, _, _, h => by cases h
  | 5, _, _, h => by cases h
  | 6, _, _, h => by cases h
  | 7, _, _, h => by cases h
  | 8, x, y, h => InstM.oS_ok x j t e l y h
  | 9, x, y, h => EdgeM.oS_ok x j t e l y h
  | 10, x, y, h => TermM.oS_ok x j t e l y h
  | 11, x, y, h => BlockM.oS_ok x j t e l y h
  | 12, x, y, h => LsI.oS_ok x j t e l y h
  | n + 13, _, _, h => by cases h
 ownS_K := fun i x j t e l0 t' e' l y h1 h2 h3 => match i, x, y, h1, h2, h3 with
  | 0, _, _, h, _, _ => by cases h
  | 1, _, _, h, _, _ => by cases h
  | 2, _, _, h, _, _ => by cases h
  | 3, _, _, h, _, _ => by cases h
  | 4, _, _, h, _, _ => by cases h
  | 5, _, _, h, _, _ => by cases h
  | 6, _, _, h, _, _ => by cases h
  | 7, _, _, h, _, _ => by cases h
  | 8, x, y, h1, h2, h3 => by
   show InstM.k x j t' e' l = some y
   unfold InstM.k
   rw [InstM.oG_ok x j t e l0 h1 h2]
   exact h3
  | 9, x, y, h1, h2, h3 => by
   show EdgeM.k x j t' e' l = some y
   unfold EdgeM.k
   rw [EdgeM.oG_ok x j t e l0 h1 h2]
   exact h3
  | 10, x, y, h1, h2, h3 => by
   show TermM.k x j t' e' l = some y
   unfold TermM.k
   rw [TermM.oG_ok x j t e l0 h1 h2]
   exact h3
  | 11, x, y, h1, h2, h3 => by
   show BlockM.k x j t' e' l = some y
   unfold BlockM.k
   rw [BlockM.oG_ok x j t e l0 h1 h2]
   exact h3
  | 12, x, y, h1, h2, h3 => by
   show LsI.k x j t' e' l = some y
   unfold LsI.k
   rw [LsI.oG_ok x j t e l0 h1 h2]
   exact h3
  | n + 13, _, _, h, _, _ => by cases h
 up_ok := fun i j f h => by
  unfold suUp at h
  split at h
  ·injection h with h; subst h; exact ⟨rfl, rfl, InstM.up_c⟩
  ·injection h with h; subst h; exact ⟨rfl, rfl, EdgeM.up_c⟩
  ·injection h with h; subst h; exact ⟨rfl, rfl, TermM.up_c⟩
  ·injection h with h; subst h; exact ⟨rfl, rfl, BlockM.up_c⟩
  ·cases h
 frzG_ok := fun i x j e l h1 h2 => match i, x, h1, h2 with
  | 0, _, h, _ => by cases h
  | 1, _, h, _ => by cases h
  | 2, _, h, _ => by cases h
  | 3, _, h, _ => by cases h
  | 4, _, h, _ => by cases h
  | 5, _, h, _ => by cases h
  | 6, _, h, _ => by cases h
  | 7, _, h, _ => by cases h
  | 8, x, h1, h2 => InstM.fG_ok x j e l h1 h2
  | 9, x, h1, h2 => EdgeM.fG_ok x j e l h1 h2
  | 10, x, h1, h2 => TermM.fG_ok x j e l h1 h2
  | 11, x, h1, h2 => BlockM.fG_ok x j e l h1 h2
  | 12, x, h1, h2 => LsI.fG_ok x j e l h1 h2
  | n + 13, _, h, _ => by cases h
end Go.Abs
namespace Go.Abs
open Go
def Ow.dat {α β : Type} (g : α -> β) : Ow α β -> List β
 | .own l => l.map g
 | .fz l => l
def InstM.dat (x : InstM) : Inst := ⟨x.op, x.dest, x.args.dat (fun a => a), x.num, x.mem⟩
def EdgeM.dat (x : EdgeM) : Edge := ⟨x.block, x.args.dat (fun a => a)⟩
def TermM.dat (x : TermM) : Term := ⟨x.kind, x.cond, x.to.dat EdgeM.dat, x.rets.dat (fun a => a)⟩
def BlockM.dat (x : BlockM) : Block := ⟨x.params.dat (fun a => a), x.insts.dat InstM.dat, x.term.dat, x.pipeline, x.unroll, x.line⟩
theorem dat_int : DatOk (.int .i64) (.int .i64) (fun a => a) := DatOk.fro rfl
theorem InstM.dat_ok : DatOk (.st 8) (.st 0) InstM.dat := DatOk.of rfl fun x c hc => by
 have hc : c < 5 := hc
 obtain ⟨op, dest, args, num, mem⟩ := x
 match c, hc with
 | 0, _ => exact .inl ⟨_, rfl, fun len => Inst.c_ok (InstM.dat ⟨op, dest, args, num, mem⟩) len 0 (by decide)⟩
 | 1, _ => exact .inl ⟨_, rfl, fun len => Inst.c_ok (InstM.dat ⟨op, dest, args, num, mem⟩) len 1 (by decide)⟩
 | 2, _ => cases args with
  | own l => exact .inr ⟨3, .int .i64, l, .int .i64, fun a => a, rfl, dat_int, rfl⟩
  | fz l => exact .inl ⟨_, rfl, fun len => Inst.c_ok (InstM.dat ⟨op, dest, .fz l, num, mem⟩) len 2 (by decide)⟩
 | 3, _ => exact .inl ⟨_, rfl, fun len => Inst.c_ok (InstM.dat ⟨op, dest, args, num, mem⟩) len 3 (by decide)⟩
 | 4, _ => exact .inl ⟨_, rfl, fun len => Inst.c_ok (InstM.dat ⟨op, dest, args, num, mem⟩) len 4 (by decide)⟩
theorem EdgeM.dat_ok : DatOk (.st 9) (.st 1) EdgeM.dat := DatOk.of rfl fun x c hc => by
 have hc : c < 2 := hc
 obtain ⟨bl, args⟩ := x
 match c, hc with
 | 0, _ => exact .inl ⟨_, rfl, fun len => Edge.c_ok (EdgeM.dat ⟨bl, args⟩) len 0 (by decide)⟩
 | 1, _ => cases args with
  | own l => exact .inr ⟨3, .int .i64, l, .int .i64, fun a => a, rfl, dat_int, rfl⟩
  | fz l => exact .inl ⟨_, rfl, fun len => Edge.c_ok (EdgeM.dat ⟨bl, .fz l⟩) len 1 (by decide)⟩
theorem BlockM.dat_ok : DatOk (.st 11) (.st 3) BlockM.dat := DatOk.of rfl fun x c hc => by
 have hc : c < 9 := hc
 obtain ⟨ps, is, ⟨kind, cond, to, rets⟩, pi, un, li⟩ := x
 match c, hc with
 | 0, _ => cases ps with
  | own l => exact .inr ⟨3, .int .i64, l, .int .i64, fun a => a, rfl, dat_int, rfl⟩
  | fz l => exact .inl ⟨_, rfl, fun len => Block.c_ok (BlockM.dat ⟨.fz l, is, ⟨kind, cond, to, rets⟩, pi, un, li⟩) len 0 (by decide)⟩
 | 1, _ => cases is with
  | own l => exact .inr ⟨46, .st 8, l, .st 0, InstM.dat, rfl, InstM.dat_ok, rfl⟩
  | fz l => exact .inl ⟨_, rfl, fun len => Block.c_ok (BlockM.dat ⟨ps, .fz l, ⟨kind, cond, to, rets⟩, pi, un, li⟩) len 1 (by decide)⟩
 | 2, _ => exact .inl ⟨_, rfl, fun len => Block.c_ok (BlockM.dat ⟨ps, is, ⟨kind, cond, to, rets⟩, pi, un, li⟩) len 2 (by decide)⟩
 | 3, _ => exact .inl ⟨_, rfl, fun len => Block.c_ok (BlockM.dat ⟨ps, is, ⟨kind, cond, to, rets⟩, pi, un, li⟩) len 3 (by decide)⟩
 | 4, _ => cases to with
  | own l => exact .inr ⟨51, .st 9, l, .st 1, EdgeM.dat, rfl, EdgeM.dat_ok, rfl⟩
  | fz l => exact .inl ⟨_, rfl, fun len => Block.c_ok (BlockM.dat ⟨ps, is, ⟨kind, cond, .fz l, rets⟩, pi, un, li⟩) len 4 (by decide)⟩
 | 5, _ => cases rets with
  | own l => exact .inr ⟨3, .int .i64, l, .int .i64, fun a => a, rfl, dat_int, rfl⟩
  | fz l => exact .inl ⟨_, rfl, fun len => Block.c_ok (BlockM.dat ⟨ps, is, ⟨kind, cond, to, .fz l⟩, pi, un, li⟩) len 5 (by decide)⟩
 | 6, _ => exact .inl ⟨_, rfl, fun len => Block.c_ok (BlockM.dat ⟨ps, is, ⟨kind, cond, to, rets⟩, pi, un, li⟩) len 6 (by decide)⟩
 | 7, _ => exact .inl ⟨_, rfl, fun len => Block.c_ok (BlockM.dat ⟨ps, is, ⟨kind, cond, to, rets⟩, pi, un, li⟩) len 7 (by decide)⟩
 | 8, _ => exact .inl ⟨_, rfl, fun len => Block.c_ok (BlockM.dat ⟨ps, is, ⟨kind, cond, to, rets⟩, pi, un, li⟩) len 8 (by decide)⟩
def sdDat : (i : Nat) -> Option (DatT i)
 | 8 => some ⟨0, InstM.dat⟩
 | 9 => some ⟨1, EdgeM.dat⟩
 | 11 => some ⟨3, BlockM.dat⟩
 | _ => none
instance : Dats where
 d := sdDat
 ok := fun i x h => by
  unfold sdDat at h
  split at h
  ·injection h with h; subst h; exact InstM.dat_ok
  ·injection h with h; subst h; exact EdgeM.dat_ok
  ·injection h with h; subst h; exact BlockM.dat_ok
  ·cases h
def sdFF : Nat -> Bool
 | 4 => true
 | 5 => true
 | 7 => true
 | _ => false
instance : FFs where
 st := sdFF
 ok := fun i h => by
  unfold sdFF at h
  split at h
  ·exact ⟨rfl, fun x c hc => by
    have hc : c < 5 := hc
    match c, hc with
    | 0, _ => trivial
    | 1, _ => trivial
    | 2, _ => trivial
    | 3, _ => trivial
    | 4, _ => trivial⟩
  ·exact ⟨rfl, fun x c hc => by
    have hc : c < 3 := hc
    match c, hc with
    | 0, _ => trivial
    | 1, _ => trivial
    | 2, _ => trivial⟩
  ·exact ⟨rfl, fun x c hc => by
    have hc : c < 2 := hc
    match c, hc with
    | 0, _ => trivial
    | 1, _ => trivial⟩
  ·cases h
end Go.Abs
