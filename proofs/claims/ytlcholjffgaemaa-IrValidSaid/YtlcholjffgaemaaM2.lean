/-
Texts of the proof, part 2: Ty O1 A7 A8 B1 G0 E1 E2 G1 G2.
No statement of the program is proved here.
-/
import Derived.Test.YtlcholjffgaemaaM1
import Derived.Test.YtlcholjffgaemaaProg
import Derived.KernelRfl
import Derived.Laws.Small
import Derived.BigFrame
set_option linter.unusedVariables false
namespace Go.Abs
open Go Go.Proofs
instance : TySz Try.prog 2 false 1 := ⟨⟨_, Try.underlying2, rfl⟩, by kernel_rfl⟩
instance : TyDesc Try.prog 2 (.int .i64) := ⟨Try.underlying2⟩
instance : TyZero Try.prog 2 (.int .i64 0) := ⟨by kernel_rfl, by kernel_rfl⟩
instance : TySz Try.prog 3 false 1 := ⟨⟨_, Try.underlying3, rfl⟩, by kernel_rfl⟩
instance : TyDesc Try.prog 3 (.int .i64) := ⟨Try.underlying3⟩
instance : TyZero Try.prog 3 (.int .i64 0) := ⟨by kernel_rfl, by kernel_rfl⟩
instance : TySz Try.prog 4 false 1 := ⟨⟨_, Try.underlying4, rfl⟩, by kernel_rfl⟩
instance : TyDesc Try.prog 4 .bool := ⟨Try.underlying4⟩
instance : TyZero Try.prog 4 (.bool false) := ⟨by kernel_rfl, by kernel_rfl⟩
instance : TySz Try.prog 5 false 1 := ⟨⟨_, Try.underlying5, rfl⟩, by kernel_rfl⟩
instance : TyDesc Try.prog 5 (.int .u8) := ⟨Try.underlying5⟩
instance : TyZero Try.prog 5 (.int .u8 0) := ⟨by kernel_rfl, by kernel_rfl⟩
instance : TySz Try.prog 9 false 1 := ⟨⟨_, Try.underlying9, rfl⟩, by kernel_rfl⟩
instance : TyDesc Try.prog 9 .string := ⟨Try.underlying9⟩
instance : TyZero Try.prog 9 (.string ByteArray.empty) := ⟨by kernel_rfl, by kernel_rfl⟩
instance : TySz Try.prog 23 false 1 := ⟨⟨_, Try.underlying23, rfl⟩, by kernel_rfl⟩
instance : TyZero Try.prog 23 (.nilFunc) := ⟨by kernel_rfl, by kernel_rfl⟩
instance : TySz Try.prog 24 false 1 := ⟨⟨_, Try.underlying24, rfl⟩, by kernel_rfl⟩
instance : TyZero Try.prog 24 (.nilFunc) := ⟨by kernel_rfl, by kernel_rfl⟩
instance : TySz Try.prog 25 false 1 := ⟨⟨_, Try.underlying25, rfl⟩, by kernel_rfl⟩
instance : TyZero Try.prog 25 (.slice none 0 0) := ⟨by kernel_rfl, by kernel_rfl⟩
instance : TySlice Try.prog 25 3 1 8 := ⟨Try.underlying25, by kernel_rfl⟩
instance : TySz Try.prog 26 false 1 := ⟨⟨_, Try.underlying26, rfl⟩, by kernel_rfl⟩
instance : TyZero Try.prog 26 (.slice none 0 0) := ⟨by kernel_rfl, by kernel_rfl⟩
instance : TySlice Try.prog 26 53 5 48 := ⟨Try.underlying26, by kernel_rfl⟩
instance : TySz Try.prog 27 false 1 := ⟨⟨_, Try.underlying27, rfl⟩, by kernel_rfl⟩
instance : TyZero Try.prog 27 (.slice none 0 0) := ⟨by kernel_rfl, by kernel_rfl⟩
instance : TySlice Try.prog 27 55 3 32 := ⟨Try.underlying27, by kernel_rfl⟩
instance : TySz Try.prog 28 false 1 := ⟨⟨_, Try.underlying28, rfl⟩, by kernel_rfl⟩
instance : TyZero Try.prog 28 (.slice none 0 0) := ⟨by kernel_rfl, by kernel_rfl⟩
instance : TySlice Try.prog 28 41 9 136 := ⟨Try.underlying28, by kernel_rfl⟩
instance : TySz Try.prog 30 true 6 := ⟨⟨_, Try.underlying30, rfl⟩, by kernel_rfl⟩
instance : TyZero Try.prog 30 (.agg #[.string ByteArray.empty, .slice none 0 0, .slice none 0 0, .slice none 0 0, .slice none 0 0, .slice none 0 0]) := ⟨by kernel_rfl, by kernel_rfl⟩
instance : TySz Try.prog 36 false 1 := ⟨⟨_, Try.underlying36, rfl⟩, by kernel_rfl⟩
instance : TyZero Try.prog 36 (.slice none 0 0) := ⟨by kernel_rfl, by kernel_rfl⟩
instance : TySlice Try.prog 36 46 5 56 := ⟨Try.underlying36, by kernel_rfl⟩
instance : TySz Try.prog 37 false 1 := ⟨⟨_, Try.underlying37, rfl⟩, by kernel_rfl⟩
instance : TyZero Try.prog 37 (.slice none 0 0) := ⟨by kernel_rfl, by kernel_rfl⟩
instance : TySlice Try.prog 37 51 2 32 := ⟨Try.underlying37, by kernel_rfl⟩
instance : TySz Try.prog 39 true 4 := ⟨⟨_, Try.underlying39, rfl⟩, by kernel_rfl⟩
instance : TyZero Try.prog 39 (.agg #[.int .i64 0, .int .i64 0, .slice none 0 0, .slice none 0 0]) := ⟨by kernel_rfl, by kernel_rfl⟩
instance : TySz Try.prog 41 true 9 := ⟨⟨_, Try.underlying41, rfl⟩, by kernel_rfl⟩
instance : TyZero Try.prog 41 (.agg #[.slice none 0 0, .slice none 0 0, .int .i64 0, .int .i64 0, .slice none 0 0, .slice none 0 0, .int .i64 0, .int .i64 0, .int .i64 0]) := ⟨by kernel_rfl, by kernel_rfl⟩
instance : TySz Try.prog 44 false 1 := ⟨⟨_, Try.underlying44, rfl⟩, by kernel_rfl⟩
instance : TyDesc Try.prog 44 (.int .u64) := ⟨Try.underlying44⟩
instance : TyZero Try.prog 44 (.int .u64 0) := ⟨by kernel_rfl, by kernel_rfl⟩
instance : TySz Try.prog 46 true 5 := ⟨⟨_, Try.underlying46, rfl⟩, by kernel_rfl⟩
instance : TyZero Try.prog 46 (.agg #[.int .i64 0, .int .i64 0, .slice none 0 0, .int .u64 0, .int .i64 0]) := ⟨by kernel_rfl, by kernel_rfl⟩
instance : TySz Try.prog 51 true 2 := ⟨⟨_, Try.underlying51, rfl⟩, by kernel_rfl⟩
instance : TyZero Try.prog 51 (.agg #[.int .i64 0, .slice none 0 0]) := ⟨by kernel_rfl, by kernel_rfl⟩
instance : TySz Try.prog 53 true 5 := ⟨⟨_, Try.underlying53, rfl⟩, by kernel_rfl⟩
instance : TyZero Try.prog 53 (.agg #[.string ByteArray.empty, .int .i64 0, .int .i64 0, .int .i64 0, .int .i64 0]) := ⟨by kernel_rfl, by kernel_rfl⟩
instance : TySz Try.prog 55 true 3 := ⟨⟨_, Try.underlying55, rfl⟩, by kernel_rfl⟩
instance : TyZero Try.prog 55 (.agg #[.string ByteArray.empty, .int .i64 0, .bool false]) := ⟨by kernel_rfl, by kernel_rfl⟩
instance : TySz Try.prog 57 true 2 := ⟨⟨_, Try.underlying57, rfl⟩, by kernel_rfl⟩
instance : TyZero Try.prog 57 (.agg #[.int .i64 0, .bool false]) := ⟨by kernel_rfl, by kernel_rfl⟩
instance : TySz Try.prog 58 true 4 := ⟨⟨_, Try.underlying58, rfl⟩, by kernel_rfl⟩
instance : TyZero Try.prog 58 (.agg #[.int .i64 0, .bool false, .int .i64 0, .bool false]) := ⟨by kernel_rfl, by kernel_rfl⟩
instance : TyArr Try.prog 58 2 57 2 := ⟨Try.underlying58, by kernel_rfl⟩
instance : TySz Try.prog 59 true 2 := ⟨⟨_, Try.underlying59, rfl⟩, by kernel_rfl⟩
instance : TyZero Try.prog 59 (.agg #[.int .u64 0, .int .u64 0]) := ⟨by kernel_rfl, by kernel_rfl⟩
instance : TyArr Try.prog 59 2 44 1 := ⟨Try.underlying59, by kernel_rfl⟩
instance : TySz Try.prog 64 true 2 := ⟨⟨_, Try.underlying64, rfl⟩, by kernel_rfl⟩
instance : TyZero Try.prog 64 (.agg #[.int .u8 0, .int .u8 0]) := ⟨by kernel_rfl, by kernel_rfl⟩
instance : TyArr Try.prog 64 2 5 1 := ⟨Try.underlying64, by kernel_rfl⟩
instance : TySz Try.prog 67 false 1 := ⟨⟨_, Try.underlying67, rfl⟩, by kernel_rfl⟩
instance : TyZero Try.prog 67 (.slice none 0 0) := ⟨by kernel_rfl, by kernel_rfl⟩
instance : TySlice Try.prog 67 25 1 24 := ⟨Try.underlying67, by kernel_rfl⟩
instance : TySz Try.prog 69 false 1 := ⟨⟨_, Try.underlying69, rfl⟩, by kernel_rfl⟩
instance : TyZero Try.prog 69 (.slice none 0 0) := ⟨by kernel_rfl, by kernel_rfl⟩
instance : TySlice Try.prog 69 4 1 1 := ⟨Try.underlying69, by kernel_rfl⟩
instance : TySz Try.prog 82 false 1 := ⟨⟨_, Try.underlying82, rfl⟩, by kernel_rfl⟩
instance : TyZero Try.prog 82 (.nilFunc) := ⟨by kernel_rfl, by kernel_rfl⟩
instance : TySz Try.prog 91 false 1 := ⟨⟨_, Try.underlying91, rfl⟩, by kernel_rfl⟩
instance : TyDesc Try.prog 91 (.map 3 3) := ⟨Try.underlying91⟩
instance : TyZero Try.prog 91 (.map none) := ⟨by kernel_rfl, by kernel_rfl⟩
instance : TySz Try.prog 105 false 1 := ⟨⟨_, Try.underlying105, rfl⟩, by kernel_rfl⟩
instance : TyZero Try.prog 105 (.pointer none) := ⟨by kernel_rfl, by kernel_rfl⟩
instance : TySz Try.prog 107 true 8 := ⟨⟨_, Try.underlying107, rfl⟩, by kernel_rfl⟩
instance : TyZero Try.prog 107 (.agg #[.string ByteArray.empty, .slice none 0 0, .slice none 0 0, .slice none 0 0, .slice none 0 0, .slice none 0 0, .slice none 0 0, .slice none 0 0]) := ⟨by kernel_rfl, by kernel_rfl⟩
instance : TySz Try.prog 113 false 1 := ⟨⟨_, Try.underlying113, rfl⟩, by kernel_rfl⟩
instance : TyZero Try.prog 113 (.slice none 0 0) := ⟨by kernel_rfl, by kernel_rfl⟩
instance : TySlice Try.prog 113 9 1 16 := ⟨Try.underlying113, by kernel_rfl⟩
instance : TySz Try.prog 117 false 1 := ⟨⟨_, Try.underlying117, rfl⟩, by kernel_rfl⟩
instance : TyZero Try.prog 117 (.nilFunc) := ⟨by kernel_rfl, by kernel_rfl⟩
instance : TySz Try.prog 119 false 1 := ⟨⟨_, Try.underlying119, rfl⟩, by kernel_rfl⟩
instance : TyZero Try.prog 119 (.nilFunc) := ⟨by kernel_rfl, by kernel_rfl⟩
instance : TySz Try.prog 120 false 1 := ⟨⟨_, Try.underlying120, rfl⟩, by kernel_rfl⟩
instance : TyZero Try.prog 120 (.nilFunc) := ⟨by kernel_rfl, by kernel_rfl⟩
instance : TySz Try.prog 133 false 1 := ⟨⟨_, Try.underlying133, rfl⟩, by kernel_rfl⟩
instance : TyZero Try.prog 133 (.slice none 0 0) := ⟨by kernel_rfl, by kernel_rfl⟩
instance : TySlice Try.prog 133 5 1 1 := ⟨Try.underlying133, by kernel_rfl⟩
instance : TySz Try.prog 134 false 1 := ⟨⟨_, Try.underlying134, rfl⟩, by kernel_rfl⟩
instance : TyDesc Try.prog 134 (.map 9 4) := ⟨Try.underlying134⟩
instance : TyZero Try.prog 134 (.map none) := ⟨by kernel_rfl, by kernel_rfl⟩
instance : TySz Try.prog 137 false 1 := ⟨⟨_, Try.underlying137, rfl⟩, by kernel_rfl⟩
instance : TyZero Try.prog 137 (.nilFunc) := ⟨by kernel_rfl, by kernel_rfl⟩
instance : TySz Try.prog 142 false 1 := ⟨⟨_, Try.underlying142, rfl⟩, by kernel_rfl⟩
instance : TyDesc Try.prog 142 (.int .u64) := ⟨Try.underlying142⟩
instance : TyZero Try.prog 142 (.int .u64 0) := ⟨by kernel_rfl, by kernel_rfl⟩
instance : TySz Try.prog 144 true 3 := ⟨⟨_, Try.underlying144, rfl⟩, by kernel_rfl⟩
instance : TyZero Try.prog 144 (.agg #[.int .i64 0, .int .i64 0, .int .i64 0]) := ⟨by kernel_rfl, by kernel_rfl⟩
instance : TyArr Try.prog 144 3 3 1 := ⟨Try.underlying144, by kernel_rfl⟩
instance : TySz Try.prog 148 false 1 := ⟨⟨_, Try.underlying148, rfl⟩, by kernel_rfl⟩
instance : TyDesc Try.prog 148 (.int .i64) := ⟨Try.underlying148⟩
instance : TyZero Try.prog 148 (.int .i64 0) := ⟨by kernel_rfl, by kernel_rfl⟩
instance : TySz Try.prog 155 false 1 := ⟨⟨_, Try.underlying155, rfl⟩, by kernel_rfl⟩
instance : TyDesc Try.prog 155 (.int .u32) := ⟨Try.underlying155⟩
instance : TyZero Try.prog 155 (.int .u32 0) := ⟨by kernel_rfl, by kernel_rfl⟩
instance : TySz Try.prog 157 false 1 := ⟨⟨_, Try.underlying157, rfl⟩, by kernel_rfl⟩
instance : TyDesc Try.prog 157 (.int .u64) := ⟨Try.underlying157⟩
instance : TyZero Try.prog 157 (.int .u64 0) := ⟨by kernel_rfl, by kernel_rfl⟩
instance : TySz Try.prog 161 false 1 := ⟨⟨_, Try.underlying161, rfl⟩, by kernel_rfl⟩
instance : TyZero Try.prog 161 (.pointer none) := ⟨by kernel_rfl, by kernel_rfl⟩
instance : TyField Try.prog 30 0 0 false 1 := ⟨⟨_, _, Try.underlying30, rfl, rfl, (inferInstance : TySz Try.prog 9 false 1)⟩, by decide⟩
instance : TyField Try.prog 30 1 1 false 1 := ⟨⟨_, _, Try.underlying30, rfl, rfl, (inferInstance : TySz Try.prog 25 false 1)⟩, by decide⟩
instance : TyField Try.prog 30 2 2 false 1 := ⟨⟨_, _, Try.underlying30, rfl, rfl, (inferInstance : TySz Try.prog 26 false 1)⟩, by decide⟩
instance : TyField Try.prog 30 3 3 false 1 := ⟨⟨_, _, Try.underlying30, rfl, rfl, (inferInstance : TySz Try.prog 27 false 1)⟩, by decide⟩
instance : TyField Try.prog 30 4 4 false 1 := ⟨⟨_, _, Try.underlying30, rfl, rfl, (inferInstance : TySz Try.prog 25 false 1)⟩, by decide⟩
instance : TyField Try.prog 30 5 5 false 1 := ⟨⟨_, _, Try.underlying30, rfl, rfl, (inferInstance : TySz Try.prog 28 false 1)⟩, by decide⟩
instance : TyField Try.prog 39 0 0 false 1 := ⟨⟨_, _, Try.underlying39, rfl, rfl, (inferInstance : TySz Try.prog 3 false 1)⟩, by decide⟩
instance : TyField Try.prog 39 1 1 false 1 := ⟨⟨_, _, Try.underlying39, rfl, rfl, (inferInstance : TySz Try.prog 3 false 1)⟩, by decide⟩
instance : TyField Try.prog 39 2 2 false 1 := ⟨⟨_, _, Try.underlying39, rfl, rfl, (inferInstance : TySz Try.prog 37 false 1)⟩, by decide⟩
instance : TyField Try.prog 39 3 3 false 1 := ⟨⟨_, _, Try.underlying39, rfl, rfl, (inferInstance : TySz Try.prog 25 false 1)⟩, by decide⟩
instance : TyField Try.prog 41 0 0 false 1 := ⟨⟨_, _, Try.underlying41, rfl, rfl, (inferInstance : TySz Try.prog 25 false 1)⟩, by decide⟩
instance : TyField Try.prog 41 1 1 false 1 := ⟨⟨_, _, Try.underlying41, rfl, rfl, (inferInstance : TySz Try.prog 36 false 1)⟩, by decide⟩
instance : TyField Try.prog 41 2 2 true 4 := ⟨⟨_, _, Try.underlying41, rfl, rfl, (inferInstance : TySz Try.prog 39 true 4)⟩, by decide⟩
instance : TyField Try.prog 41 3 6 false 1 := ⟨⟨_, _, Try.underlying41, rfl, rfl, (inferInstance : TySz Try.prog 3 false 1)⟩, by decide⟩
instance : TyField Try.prog 41 4 7 false 1 := ⟨⟨_, _, Try.underlying41, rfl, rfl, (inferInstance : TySz Try.prog 3 false 1)⟩, by decide⟩
instance : TyField Try.prog 41 5 8 false 1 := ⟨⟨_, _, Try.underlying41, rfl, rfl, (inferInstance : TySz Try.prog 3 false 1)⟩, by decide⟩
instance : TyField Try.prog 46 0 0 false 1 := ⟨⟨_, _, Try.underlying46, rfl, rfl, (inferInstance : TySz Try.prog 3 false 1)⟩, by decide⟩
instance : TyField Try.prog 46 1 1 false 1 := ⟨⟨_, _, Try.underlying46, rfl, rfl, (inferInstance : TySz Try.prog 3 false 1)⟩, by decide⟩
instance : TyField Try.prog 46 2 2 false 1 := ⟨⟨_, _, Try.underlying46, rfl, rfl, (inferInstance : TySz Try.prog 25 false 1)⟩, by decide⟩
instance : TyField Try.prog 46 3 3 false 1 := ⟨⟨_, _, Try.underlying46, rfl, rfl, (inferInstance : TySz Try.prog 44 false 1)⟩, by decide⟩
instance : TyField Try.prog 46 4 4 false 1 := ⟨⟨_, _, Try.underlying46, rfl, rfl, (inferInstance : TySz Try.prog 3 false 1)⟩, by decide⟩
instance : TyField Try.prog 51 0 0 false 1 := ⟨⟨_, _, Try.underlying51, rfl, rfl, (inferInstance : TySz Try.prog 3 false 1)⟩, by decide⟩
instance : TyField Try.prog 51 1 1 false 1 := ⟨⟨_, _, Try.underlying51, rfl, rfl, (inferInstance : TySz Try.prog 25 false 1)⟩, by decide⟩
instance : TyField Try.prog 53 0 0 false 1 := ⟨⟨_, _, Try.underlying53, rfl, rfl, (inferInstance : TySz Try.prog 9 false 1)⟩, by decide⟩
instance : TyField Try.prog 53 1 1 false 1 := ⟨⟨_, _, Try.underlying53, rfl, rfl, (inferInstance : TySz Try.prog 3 false 1)⟩, by decide⟩
instance : TyField Try.prog 53 2 2 false 1 := ⟨⟨_, _, Try.underlying53, rfl, rfl, (inferInstance : TySz Try.prog 3 false 1)⟩, by decide⟩
instance : TyField Try.prog 53 3 3 false 1 := ⟨⟨_, _, Try.underlying53, rfl, rfl, (inferInstance : TySz Try.prog 3 false 1)⟩, by decide⟩
instance : TyField Try.prog 53 4 4 false 1 := ⟨⟨_, _, Try.underlying53, rfl, rfl, (inferInstance : TySz Try.prog 3 false 1)⟩, by decide⟩
instance : TyField Try.prog 55 0 0 false 1 := ⟨⟨_, _, Try.underlying55, rfl, rfl, (inferInstance : TySz Try.prog 9 false 1)⟩, by decide⟩
instance : TyField Try.prog 55 1 1 false 1 := ⟨⟨_, _, Try.underlying55, rfl, rfl, (inferInstance : TySz Try.prog 3 false 1)⟩, by decide⟩
instance : TyField Try.prog 55 2 2 false 1 := ⟨⟨_, _, Try.underlying55, rfl, rfl, (inferInstance : TySz Try.prog 4 false 1)⟩, by decide⟩
instance : TyField Try.prog 57 0 0 false 1 := ⟨⟨_, _, Try.underlying57, rfl, rfl, (inferInstance : TySz Try.prog 3 false 1)⟩, by decide⟩
instance : TyField Try.prog 57 1 1 false 1 := ⟨⟨_, _, Try.underlying57, rfl, rfl, (inferInstance : TySz Try.prog 4 false 1)⟩, by decide⟩
instance : TyField Try.prog 107 0 0 true 6 := ⟨⟨_, _, Try.underlying107, rfl, rfl, (inferInstance : TySz Try.prog 30 true 6)⟩, by decide⟩
instance : TyField Try.prog 107 1 6 false 1 := ⟨⟨_, _, Try.underlying107, rfl, rfl, (inferInstance : TySz Try.prog 69 false 1)⟩, by decide⟩
instance : TyField Try.prog 107 2 7 false 1 := ⟨⟨_, _, Try.underlying107, rfl, rfl, (inferInstance : TySz Try.prog 25 false 1)⟩, by decide⟩
instance : FnOk Try.prog 9 := ⟨Try.f9, Try.func9, by kernel_rfl, by kernel_rfl⟩
instance : FnOk Try.prog 12 := ⟨Try.f12, Try.func12, by kernel_rfl, by kernel_rfl⟩
instance : FnOk Try.prog 13 := ⟨Try.f13, Try.func13, by kernel_rfl, by kernel_rfl⟩
instance : FnOk Try.prog 14 := ⟨Try.f14, Try.func14, by kernel_rfl, by kernel_rfl⟩
instance : FnOk Try.prog 15 := ⟨Try.f15, Try.func15, by kernel_rfl, by kernel_rfl⟩
instance : FnOk Try.prog 17 := ⟨Try.f17, Try.func17, by kernel_rfl, by kernel_rfl⟩
instance : FnOk Try.prog 18 := ⟨Try.f18, Try.func18, by kernel_rfl, by kernel_rfl⟩
instance : FnOk Try.prog 33 := ⟨Try.f33, Try.func33, by kernel_rfl, by kernel_rfl⟩
instance : FnOk Try.prog 42 := ⟨Try.f42, Try.func42, by kernel_rfl, by kernel_rfl⟩
instance : FnOk Try.prog 43 := ⟨Try.f43, Try.func43, by kernel_rfl, by kernel_rfl⟩
instance : FnOk Try.prog 44 := ⟨Try.f44, Try.func44, by kernel_rfl, by kernel_rfl⟩
instance : FnOk Try.prog 45 := ⟨Try.f45, Try.func45, by kernel_rfl, by kernel_rfl⟩
instance : FnOk Try.prog 46 := ⟨Try.f46, Try.func46, by kernel_rfl, by kernel_rfl⟩
instance : FnOk Try.prog 47 := ⟨Try.f47, Try.func47, by kernel_rfl, by kernel_rfl⟩
instance : FnOk Try.prog 48 := ⟨Try.f48, Try.func48, by kernel_rfl, by kernel_rfl⟩
instance : FnOk Try.prog 49 := ⟨Try.f49, Try.func49, by kernel_rfl, by kernel_rfl⟩
instance : FnOk Try.prog 50 := ⟨Try.f50, Try.func50, by kernel_rfl, by kernel_rfl⟩
instance : FnOk Try.prog 51 := ⟨Try.f51, Try.func51, by kernel_rfl, by kernel_rfl⟩
instance : FnOk Try.prog 53 := ⟨Try.f53, Try.func53, by kernel_rfl, by kernel_rfl⟩
instance : FnOk Try.prog 76 := ⟨Try.f76, Try.func76, by kernel_rfl, by kernel_rfl⟩
instance : FnOk Try.prog 78 := ⟨Try.f78, Try.func78, by kernel_rfl, by kernel_rfl⟩
instance : FnOk Try.prog 79 := ⟨Try.f79, Try.func79, by kernel_rfl, by kernel_rfl⟩
instance : FnOk Try.prog 80 := ⟨Try.f80, Try.func80, by kernel_rfl, by kernel_rfl⟩
instance : FnOk Try.prog 81 := ⟨Try.f81, Try.func81, by kernel_rfl, by kernel_rfl⟩
instance : FnOk Try.prog 82 := ⟨Try.f82, Try.func82, by kernel_rfl, by kernel_rfl⟩
instance : FnOk Try.prog 83 := ⟨Try.f83, Try.func83, by kernel_rfl, by kernel_rfl⟩
instance : FnOk Try.prog 84 := ⟨Try.f84, Try.func84, by kernel_rfl, by kernel_rfl⟩
instance : FnOk Try.prog 85 := ⟨Try.f85, Try.func85, by kernel_rfl, by kernel_rfl⟩
instance : FnOk Try.prog 90 := ⟨Try.f90, Try.func90, by kernel_rfl, by kernel_rfl⟩
instance : FnOk Try.prog 91 := ⟨Try.f91, Try.func91, by kernel_rfl, by kernel_rfl⟩
instance : FnOk Try.prog 92 := ⟨Try.f92, Try.func92, by kernel_rfl, by kernel_rfl⟩
instance : FnOk Try.prog 93 := ⟨Try.f93, Try.func93, by kernel_rfl, by kernel_rfl⟩
instance : FnOk Try.prog 94 := ⟨Try.f94, Try.func94, by kernel_rfl, by kernel_rfl⟩
instance : FnOk Try.prog 95 := ⟨Try.f95, Try.func95, by kernel_rfl, by kernel_rfl⟩
instance : FnOk Try.prog 103 := ⟨Try.f103, Try.func103, by kernel_rfl, by kernel_rfl⟩
instance : FnOk Try.prog 118 := ⟨Try.f118, Try.func118, by kernel_rfl, by kernel_rfl⟩
instance : FnOk Try.prog 119 := ⟨Try.f119, Try.func119, by kernel_rfl, by kernel_rfl⟩
instance : FnOk Try.prog 120 := ⟨Try.f120, Try.func120, by kernel_rfl, by kernel_rfl⟩
instance : FnOk Try.prog 121 := ⟨Try.f121, Try.func121, by kernel_rfl, by kernel_rfl⟩
instance : FnOk Try.prog 122 := ⟨Try.f122, Try.func122, by kernel_rfl, by kernel_rfl⟩
instance : FnOk Try.prog 123 := ⟨Try.f123, Try.func123, by kernel_rfl, by kernel_rfl⟩
instance : FnOk Try.prog 124 := ⟨Try.f124, Try.func124, by kernel_rfl, by kernel_rfl⟩
instance : FnOk Try.prog 127 := ⟨Try.f127, Try.func127, by kernel_rfl, by kernel_rfl⟩
instance : FnOk Try.prog 133 := ⟨Try.f133, Try.func133, by kernel_rfl, by kernel_rfl⟩
instance : FnOk Try.prog 134 := ⟨Try.f134, Try.func134, by kernel_rfl, by kernel_rfl⟩
instance : FnOk Try.prog 135 := ⟨Try.f135, Try.func135, by kernel_rfl, by kernel_rfl⟩
instance : FnOk Try.prog 136 := ⟨Try.f136, Try.func136, by kernel_rfl, by kernel_rfl⟩
instance : FnOk Try.prog 137 := ⟨Try.f137, Try.func137, by kernel_rfl, by kernel_rfl⟩
instance : FnOk Try.prog 149 := ⟨Try.f149, Try.func149, by kernel_rfl, by kernel_rfl⟩
instance : FnOk Try.prog 150 := ⟨Try.f150, Try.func150, by kernel_rfl, by kernel_rfl⟩
end Go.Abs
namespace Go.Abs
open Go Go.Proofs
theorem opI : Opens Try.prog 3 1 (fun a _ => .int .i64 a) I64 := .i64 Try.underlying3 (by kernel_rfl)
theorem opB : Opens Try.prog 4 1 (fun a _ => .bool a) (fun _ => True) := .bool Try.underlying4 (by kernel_rfl)
theorem opU : Opens Try.prog 44 1 (fun a _ => .int .u64 a) U64 := .u64 Try.underlying44 (by kernel_rfl)
theorem opS : Opens Try.prog 9 1 (fun a _ => .str a) Strs := .str Try.underlying9 (by kernel_rfl)
theorem opIs : Opens Try.prog 25 1 (fun l _ => ints l) (All 8 I64) := .slice (by_ := 8) 0 opI Try.underlying25 (by kernel_rfl) (by kernel_rfl) (by decide) (by decide)
theorem opArr : Opens Try.prog 53 5 Arr.e Arr.ok := ⟨by kernel_rfl, fun H enc w spare fuel cs x hx hw => by
 obtain ⟨a0, k0, r0⟩ := Opens.fld Try.underlying53 (i := 0) (off := 0) rfl rfl opS hx hw
 obtain ⟨a1, k1, r1⟩ := Opens.fld Try.underlying53 (i := 1) (off := 1) rfl rfl opI hx hw
 obtain ⟨a2, k2, r2⟩ := Opens.fld Try.underlying53 (i := 2) (off := 2) rfl rfl opI hx hw
 obtain ⟨a3, k3, r3⟩ := Opens.fld Try.underlying53 (i := 3) (off := 3) rfl rfl opI hx hw
 obtain ⟨a4, k4, r4⟩ := Opens.fld Try.underlying53 (i := 4) (off := 4) rfl rfl opI hx hw
 refine ⟨⟨a0, a1, a2, a3, a4⟩, ⟨k0, k1, k2, k3, k4⟩, (Opens.len Try.underlying53 hx).trans (by kernel_rfl), fun j hj => ?_⟩
 match j, hj with
 | 0, _ => exact r0 0 (by decide)
 | 1, _ => exact r1 0 (by decide)
 | 2, _ => exact r2 0 (by decide)
 | 3, _ => exact r3 0 (by decide)
 | 4, _ => exact r4 0 (by decide)
 | n + 5, h => exact absurd h (by omega)⟩
theorem opArrs : Opens Try.prog 26 1 (fun l _ => rows 5 Arr.z Arr.e l) (All 48 Arr.ok) := .slice (by_ := 48) Arr.z opArr Try.underlying26 (by kernel_rfl) (by kernel_rfl) (by decide) (by decide)
theorem opStrm : Opens Try.prog 55 3 Strm.e Strm.ok := ⟨by kernel_rfl, fun H enc w spare fuel cs x hx hw => by
 obtain ⟨a0, k0, r0⟩ := Opens.fld Try.underlying55 (i := 0) (off := 0) rfl rfl opS hx hw
 obtain ⟨a1, k1, r1⟩ := Opens.fld Try.underlying55 (i := 1) (off := 1) rfl rfl opI hx hw
 obtain ⟨a2, k2, r2⟩ := Opens.fld Try.underlying55 (i := 2) (off := 2) rfl rfl opB hx hw
 refine ⟨⟨a0, a1, a2⟩, ⟨k0, k1, k2⟩, (Opens.len Try.underlying55 hx).trans (by kernel_rfl), fun j hj => ?_⟩
 match j, hj with
 | 0, _ => exact r0 0 (by decide)
 | 1, _ => exact r1 0 (by decide)
 | 2, _ => exact r2 0 (by decide)
 | n + 3, h => exact absurd h (by omega)⟩
theorem opStrms : Opens Try.prog 27 1 (fun l _ => rows 3 Strm.z Strm.e l) (All 32 Strm.ok) := .slice (by_ := 32) Strm.z opStrm Try.underlying27 (by kernel_rfl) (by kernel_rfl) (by decide) (by decide)
theorem opInst : Opens Try.prog 46 5 Inst.e Inst.ok := ⟨by kernel_rfl, fun H enc w spare fuel cs x hx hw => by
 obtain ⟨a0, k0, r0⟩ := Opens.fld Try.underlying46 (i := 0) (off := 0) rfl rfl opI hx hw
 obtain ⟨a1, k1, r1⟩ := Opens.fld Try.underlying46 (i := 1) (off := 1) rfl rfl opI hx hw
 obtain ⟨a2, k2, r2⟩ := Opens.fld Try.underlying46 (i := 2) (off := 2) rfl rfl opIs hx hw
 obtain ⟨a3, k3, r3⟩ := Opens.fld Try.underlying46 (i := 3) (off := 3) rfl rfl opU hx hw
 obtain ⟨a4, k4, r4⟩ := Opens.fld Try.underlying46 (i := 4) (off := 4) rfl rfl opI hx hw
 refine ⟨⟨a0, a1, a2, a3, a4⟩, ⟨k0, k1, k2, k3, k4⟩, (Opens.len Try.underlying46 hx).trans (by kernel_rfl), fun j hj => ?_⟩
 match j, hj with
 | 0, _ => exact r0 0 (by decide)
 | 1, _ => exact r1 0 (by decide)
 | 2, _ => exact r2 0 (by decide)
 | 3, _ => exact r3 0 (by decide)
 | 4, _ => exact r4 0 (by decide)
 | n + 5, h => exact absurd h (by omega)⟩
theorem opInsts : Opens Try.prog 36 1 (fun l _ => rows 5 Inst.z Inst.e l) (All 56 Inst.ok) := .slice (by_ := 56) Inst.z opInst Try.underlying36 (by kernel_rfl) (by kernel_rfl) (by decide) (by decide)
theorem opEdge : Opens Try.prog 51 2 Edge.e Edge.ok := ⟨by kernel_rfl, fun H enc w spare fuel cs x hx hw => by
 obtain ⟨a0, k0, r0⟩ := Opens.fld Try.underlying51 (i := 0) (off := 0) rfl rfl opI hx hw
 obtain ⟨a1, k1, r1⟩ := Opens.fld Try.underlying51 (i := 1) (off := 1) rfl rfl opIs hx hw
 refine ⟨⟨a0, a1⟩, ⟨k0, k1⟩, (Opens.len Try.underlying51 hx).trans (by kernel_rfl), fun j hj => ?_⟩
 match j, hj with
 | 0, _ => exact r0 0 (by decide)
 | 1, _ => exact r1 0 (by decide)
 | n + 2, h => exact absurd h (by omega)⟩
theorem opEdges : Opens Try.prog 37 1 (fun l _ => rows 2 Edge.z Edge.e l) (All 32 Edge.ok) := .slice (by_ := 32) Edge.z opEdge Try.underlying37 (by kernel_rfl) (by kernel_rfl) (by decide) (by decide)
theorem opTerm : Opens Try.prog 39 4 Term.e Term.ok := ⟨by kernel_rfl, fun H enc w spare fuel cs x hx hw => by
 obtain ⟨a0, k0, r0⟩ := Opens.fld Try.underlying39 (i := 0) (off := 0) rfl rfl opI hx hw
 obtain ⟨a1, k1, r1⟩ := Opens.fld Try.underlying39 (i := 1) (off := 1) rfl rfl opI hx hw
 obtain ⟨a2, k2, r2⟩ := Opens.fld Try.underlying39 (i := 2) (off := 2) rfl rfl opEdges hx hw
 obtain ⟨a3, k3, r3⟩ := Opens.fld Try.underlying39 (i := 3) (off := 3) rfl rfl opIs hx hw
 refine ⟨⟨a0, a1, a2, a3⟩, ⟨k0, k1, k2, k3⟩, (Opens.len Try.underlying39 hx).trans (by kernel_rfl), fun j hj => ?_⟩
 match j, hj with
 | 0, _ => exact r0 0 (by decide)
 | 1, _ => exact r1 0 (by decide)
 | 2, _ => exact r2 0 (by decide)
 | 3, _ => exact r3 0 (by decide)
 | n + 4, h => exact absurd h (by omega)⟩
theorem opBlock : Opens Try.prog 41 9 Block.e Block.ok := ⟨by kernel_rfl, fun H enc w spare fuel cs x hx hw => by
 obtain ⟨a0, k0, r0⟩ := Opens.fld Try.underlying41 (i := 0) (off := 0) rfl rfl opIs hx hw
 obtain ⟨a1, k1, r1⟩ := Opens.fld Try.underlying41 (i := 1) (off := 1) rfl rfl opInsts hx hw
 obtain ⟨a2, k2, r2⟩ := Opens.fld Try.underlying41 (i := 2) (off := 2) rfl rfl opTerm hx hw
 obtain ⟨a3, k3, r3⟩ := Opens.fld Try.underlying41 (i := 3) (off := 6) rfl rfl opI hx hw
 obtain ⟨a4, k4, r4⟩ := Opens.fld Try.underlying41 (i := 4) (off := 7) rfl rfl opI hx hw
 obtain ⟨a5, k5, r5⟩ := Opens.fld Try.underlying41 (i := 5) (off := 8) rfl rfl opI hx hw
 refine ⟨⟨a0, a1, a2, a3, a4, a5⟩, ⟨k0, k1, k2, k3, k4, k5⟩, (Opens.len Try.underlying41 hx).trans (by kernel_rfl), fun j hj => ?_⟩
 match j, hj with
 | 0, _ => exact r0 0 (by decide)
 | 1, _ => exact r1 0 (by decide)
 | 2, _ => exact r2 0 (by decide)
 | 3, _ => exact r2 1 (by decide)
 | 4, _ => exact r2 2 (by decide)
 | 5, _ => exact r2 3 (by decide)
 | 6, _ => exact r3 0 (by decide)
 | 7, _ => exact r4 0 (by decide)
 | 8, _ => exact r5 0 (by decide)
 | n + 9, h => exact absurd h (by omega)⟩
theorem opBlocks : Opens Try.prog 28 1 (fun l _ => rows 9 Block.z Block.e l) (All 136 Block.ok) := .slice (by_ := 136) Block.z opBlock Try.underlying28 (by kernel_rfl) (by kernel_rfl) (by decide) (by decide)
theorem opFn : Opens Try.prog 30 6 Fn.e Fn.ok := ⟨by kernel_rfl, fun H enc w spare fuel cs x hx hw => by
 obtain ⟨a0, k0, r0⟩ := Opens.fld Try.underlying30 (i := 0) (off := 0) rfl rfl opS hx hw
 obtain ⟨a1, k1, r1⟩ := Opens.fld Try.underlying30 (i := 1) (off := 1) rfl rfl opIs hx hw
 obtain ⟨a2, k2, r2⟩ := Opens.fld Try.underlying30 (i := 2) (off := 2) rfl rfl opArrs hx hw
 obtain ⟨a3, k3, r3⟩ := Opens.fld Try.underlying30 (i := 3) (off := 3) rfl rfl opStrms hx hw
 obtain ⟨a4, k4, r4⟩ := Opens.fld Try.underlying30 (i := 4) (off := 4) rfl rfl opIs hx hw
 obtain ⟨a5, k5, r5⟩ := Opens.fld Try.underlying30 (i := 5) (off := 5) rfl rfl opBlocks hx hw
 refine ⟨⟨a0, a1, a2, a3, a4, a5⟩, ⟨k0, k1, k2, k3, k4, k5⟩, (Opens.len Try.underlying30 hx).trans (by kernel_rfl), fun j hj => ?_⟩
 match j, hj with
 | 0, _ => exact r0 0 (by decide)
 | 1, _ => exact r1 0 (by decide)
 | 2, _ => exact r2 0 (by decide)
 | 3, _ => exact r3 0 (by decide)
 | 4, _ => exact r4 0 (by decide)
 | 5, _ => exact r5 0 (by decide)
 | n + 6, h => exact absurd h (by omega)⟩
end Go.Abs
set_option linter.unusedSimpArgs false
namespace Go.Abs
open Go
variable {P : Program} {Q : Exit -> St -> Prop} {st : St} {L : List GOp} {d : Option Tmp} {ty : TypeId} {K : St -> Prop}
class Mixed (P : Program) : Prop where
 m : P.follows .mixedOrders = true
theorem prepL_map (all : List Oper) : ∀ l : List Oper, prepL all l = l.map (Oper.gop all)
 | [] => rfl
 | o :: l => by rw [prepL_cons, prepL_map all l]; rfl
theorem prep_map (A : Array Oper) : prep A = (List.range A.size).map (opAt A) := by
 unfold prep
 rw [prepL_map]
 apply List.ext_getElem
 ·simp
 ·intro i h1 h2
  have h1' : i < A.size := by simpa using h1
  simp [opAt, Array.getD, h1']
theorem SC.drawQ {id : Nat} {A : Array Oper} [m : Mixed P] (hc : chk A (befL A) [] (List.range A.size) = true) (h : QS P (Q .normal) (prep A) st) : SC P (.region id A true) Q st := by
 refine SC.draw (J := fun _ => false) m.m (AnyL.quiet (AbOk.bef A) (List.range A.size) hc ?_)
 rw [<- prep_map]
 have : ∀ (L : List GOp) (st : St), QS P (Q .normal) L st -> QS P (AnyL P A (fun _ => false) ([] ++ List.range A.size) Q) L st := by
  intro L st h
  induction h with
  | nil h => exact .nil (AnyL.done (by simp [allIn]) h)
  | cons u h k ih => exact .cons u h ih
 exact this _ _ h
theorem St.know {t : Tmp} {v : V} (h : st.env t = v) (hlt : Nat.blt t st.nt = true) : st.put (some t) v = st := by
 obtain ⟨nt, env, heap⟩ := st
 simp only [St.put, St.mk.injEq, true_and, and_true]
 funext x
 cases hb : Nat.beq x t with
 | false => rfl
 | true =>
  obtain rfl := Nat.eq_of_beq_eq_true hb
  have hlt' : Nat.blt x nt = true := hlt
  simp only [cond_true, hlt']
  exact h.symm
theorem QS.split_ (t : Tmp) {b : Bool} (hb : st.env t = .t (.bool b)) (hlt : Nat.blt t st.nt = true) (h1 : b = true -> QS P K L (st.put (some t) (.t (.bool true)))) (h2 : b = false -> QS P K L (st.put (some t) (.t (.bool false)))) : QS P K L st := by
 cases b with
 | true => have := h1 rfl; rwa [St.know hb hlt] at this
 | false => have := h2 rfl; rwa [St.know hb hlt] at this
theorem SL.split_ (t : Tmp) {b : Bool} (hb : st.env t = .t (.bool b)) (hlt : Nat.blt t st.nt = true) (h1 : b = true -> SL P L Q (st.put (some t) (.t (.bool true)))) (h2 : b = false -> SL P L Q (st.put (some t) (.t (.bool false)))) : SL P L Q st := by
 cases b with
 | true => have := h1 rfl; rwa [St.know hb hlt] at this
 | false => have := h2 rfl; rwa [St.know hb hlt] at this
theorem SL.gy {op : Op} {t : Tmp} {want : Bool} (hb : st.env t = .t (.bool want)) (hlt : Nat.blt t st.nt = true) (h : SL P (⟨d, op, ty, none⟩ :: L) Q st) : SL P (⟨d, op, ty, some (some t, want)⟩ :: L) Q st :=
 SL.guard hb hlt (fun _ => h) (fun e => by cases want <;> cases e)
theorem SL.gn {op : Op} {t : Tmp} {want : Bool} (hb : st.env t = .t (.bool (!want))) (hlt : Nat.blt t st.nt = true) (h : SL P L Q (st.put d .und)) : SL P (⟨d, op, ty, some (some t, want)⟩ :: L) Q st :=
 SL.guard hb hlt (fun e => by cases want <;> cases e) (fun _ => h)
theorem QS.splitG {g : GOp} {t : Tmp} {w b : Bool} (hg : g.g = some (some t, w)) (hb : st.env t = .t (.bool b)) (hlt : Nat.blt t st.nt = true) (h1 : b = true -> QS P K (g :: L) (st.put (some t) (.t (.bool true)))) (h2 : b = false -> QS P K (g :: L) (st.put (some t) (.t (.bool false)))) : QS P K (g :: L) st :=
 QS.split_ t hb hlt h1 h2
theorem SL.splitG {g : GOp} {t : Tmp} {w b : Bool} (hg : g.g = some (some t, w)) (hb : st.env t = .t (.bool b)) (hlt : Nat.blt t st.nt = true) (h1 : b = true -> SL P (g :: L) Q (st.put (some t) (.t (.bool true)))) (h2 : b = false -> SL P (g :: L) Q (st.put (some t) (.t (.bool false)))) : SL P (g :: L) Q st :=
 SL.split_ t hb hlt h1 h2
theorem QS.gy {op : Op} {t : Tmp} {want : Bool} (hb : st.env t = .t (.bool want)) (hlt : Nat.blt t st.nt = true) (h : QS P K (⟨d, op, ty, none⟩ :: L) st) : QS P K (⟨d, op, ty, some (some t, want)⟩ :: L) st := by
 cases h with
 | cons u h k => exact QS.gq hb hlt h k
def Heap.addAt (H : Heap) (id : Nat) (o : AObj) : Heap := { next := id + 1, slot := fun i => bif Id.beq i ⟨id, []⟩ then .live o else H.slot i, lo := H.lo }
theorem SL.boxA' (id : Nat) {e : TypeId} {x : Operand} {s : Nat} {get : Nat -> V} (hid : st.heap.next = id) (hx : st.eval x = .agg s get)
  (hk : SL P L Q ((st.on (st.heap.addAt id (V.boxed e s get))).put d (.ptr ⟨id, []⟩ 0 0 0))) : SL P (⟨d, .box e x, ty, none⟩ :: L) Q st := by
 subst hid; exact SL.boxA hx hk
theorem SL.box1' (id : Nat) {e : TypeId} {x : Operand} {u : V} (hid : st.heap.next = id) (hx : st.eval x = u) (hp : u.one = true)
  (hk : SL P L Q ((st.on (st.heap.addAt id (V.boxed e 1 (fun _ => u)))).put d (.ptr ⟨id, []⟩ 0 0 0))) : SL P (⟨d, .box e x, ty, none⟩ :: L) Q st := by
 subst hid; exact SL.box1 hx hp hk
theorem SL.alloc' (id : Nat) {e : TypeId} {z : Value} [h : TyZero P e z] (hid : st.heap.next = id) (hk : SL P L Q ((st.on (st.heap.addAt id (V.boxed e z.cells.size (fun j => V.cell (z.cells.getD j undef))))).put d (.ptr ⟨id, []⟩ 0 0 0))) :
  SL P (⟨d, .alloc e, ty, none⟩ :: L) Q st := by
 subst hid; exact SL.alloc hk
theorem O.indexFN {t e : TypeId} {s by_ : Nat} [TySlice P t e s by_] {x y : Operand} {n : Nat} {get : Nat -> Nat -> T} {k : IntKind} {m : Nat}
  (hx : st.eval x = .t (.sl s n get)) (hy : st.eval y = .t (.int k ((m : Nat) : Int))) (h1 : m < n) : QV P ⟨d, .indexAddr t x y, ty, none⟩ (.fp s (get m)) st :=
 O.indexF hx hy (by omega) (by omega)
theorem O.indexSN {t e : TypeId} {s by_ : Nat} [TySlice P t e s by_] {x y : Operand} {id : Id} {ver rr len : Nat} {o : AObj} {k : IntKind} {m : Nat}
  (hx : st.eval x = .sref id ver rr len) (ho : st.heap.slot id = .live o) (hv : ver = o.ver) (hs : o.sz = s) (hy : st.eval y = .t (.int k ((m : Nat) : Int))) (h1 : m < len) :
  QV P ⟨d, .indexAddr t x y, ty, none⟩ (.ptr id ver (m + rr) 0) st := O.indexS hx ho hv hs hy (by omega) (by omega)
theorem QS.call {f : FuncId} [FnOk P f] {args : Array Operand} {ats : Array TypeId} {fargs : List V} {v : V} (h : PC P f fargs v)
  (ha : All2 Frz (args.toList.map (st.only (rds (.call { callee := .value (.func f), args := args, argTypes := ats }))).eval) fargs) (k : QS P K L (st.put d v)) :
  QS P K (⟨d, .call { callee := .value (.func f), args := args, argTypes := ats }, ty, none⟩ :: L) st := QS.q (QO.call h ha) k
theorem is.move {x : Operand} (h : SL P (⟨d, .move x, ty, none⟩ :: L) Q st) : SL P (⟨d, .move x, ty, none⟩ :: L) Q st := h
theorem iq.move {x : Operand} (h : QS P K (⟨d, .move x, ty, none⟩ :: L) st) : QS P K (⟨d, .move x, ty, none⟩ :: L) st := h
theorem is.assign {x : Operand} (h : SL P (⟨d, .assign x, ty, none⟩ :: L) Q st) : SL P (⟨d, .assign x, ty, none⟩ :: L) Q st := h
theorem iq.assign {x : Operand} (h : QS P K (⟨d, .assign x, ty, none⟩ :: L) st) : QS P K (⟨d, .assign x, ty, none⟩ :: L) st := h
theorem is.load {t : TypeId} {x : Operand} (h : SL P (⟨d, .load t x, ty, none⟩ :: L) Q st) : SL P (⟨d, .load t x, ty, none⟩ :: L) Q st := h
theorem iq.load {t : TypeId} {x : Operand} (h : QS P K (⟨d, .load t x, ty, none⟩ :: L) st) : QS P K (⟨d, .load t x, ty, none⟩ :: L) st := h
theorem is.fieldAddr {t : TypeId} {x : Operand} {f : Nat} (h : SL P (⟨d, .fieldAddr t x f, ty, none⟩ :: L) Q st) : SL P (⟨d, .fieldAddr t x f, ty, none⟩ :: L) Q st := h
theorem iq.fieldAddr {t : TypeId} {x : Operand} {f : Nat} (h : QS P K (⟨d, .fieldAddr t x f, ty, none⟩ :: L) st) : QS P K (⟨d, .fieldAddr t x f, ty, none⟩ :: L) st := h
theorem is.len {x : Operand} {t : TypeId} (h : SL P (⟨d, .call { callee := .builtin .len, args := #[x], argTypes := #[t] }, ty, none⟩ :: L) Q st) : SL P (⟨d, .call { callee := .builtin .len, args := #[x], argTypes := #[t] }, ty, none⟩ :: L) Q st := h
theorem iq.len {x : Operand} {t : TypeId} (h : QS P K (⟨d, .call { callee := .builtin .len, args := #[x], argTypes := #[t] }, ty, none⟩ :: L) st) : QS P K (⟨d, .call { callee := .builtin .len, args := #[x], argTypes := #[t] }, ty, none⟩ :: L) st := h
theorem is.unOp {o : UnOp} {t : TypeId} {x : Operand} (h : SL P (⟨d, .unOp o t x, ty, none⟩ :: L) Q st) : SL P (⟨d, .unOp o t x, ty, none⟩ :: L) Q st := h
theorem iq.unOp {o : UnOp} {t : TypeId} {x : Operand} (h : QS P K (⟨d, .unOp o t x, ty, none⟩ :: L) st) : QS P K (⟨d, .unOp o t x, ty, none⟩ :: L) st := h
theorem is.pick {c x y : Operand} (h : SL P (⟨d, .pick c x y, ty, none⟩ :: L) Q st) : SL P (⟨d, .pick c x y, ty, none⟩ :: L) Q st := h
theorem iq.pick {c x y : Operand} (h : QS P K (⟨d, .pick c x y, ty, none⟩ :: L) st) : QS P K (⟨d, .pick c x y, ty, none⟩ :: L) st := h
theorem is.extract {x : Operand} {i : Nat} (h : SL P (⟨d, .extract x i, ty, none⟩ :: L) Q st) : SL P (⟨d, .extract x i, ty, none⟩ :: L) Q st := h
theorem iq.extract {x : Operand} {i : Nat} (h : QS P K (⟨d, .extract x i, ty, none⟩ :: L) st) : QS P K (⟨d, .extract x i, ty, none⟩ :: L) st := h
theorem is.nilCheck {x : Operand} (h : SL P (⟨d, .nilCheck x, ty, none⟩ :: L) Q st) : SL P (⟨d, .nilCheck x, ty, none⟩ :: L) Q st := h
theorem iq.nilCheck {x : Operand} (h : QS P K (⟨d, .nilCheck x, ty, none⟩ :: L) st) : QS P K (⟨d, .nilCheck x, ty, none⟩ :: L) st := h
theorem is.indexAddr {t : TypeId} {x y : Operand} (h : SL P (⟨d, .indexAddr t x y, ty, none⟩ :: L) Q st) : SL P (⟨d, .indexAddr t x y, ty, none⟩ :: L) Q st := h
theorem iq.indexAddr {t : TypeId} {x y : Operand} (h : QS P K (⟨d, .indexAddr t x y, ty, none⟩ :: L) st) : QS P K (⟨d, .indexAddr t x y, ty, none⟩ :: L) st := h
theorem is.index {t : TypeId} {x y : Operand} (h : SL P (⟨d, .index t x y, ty, none⟩ :: L) Q st) : SL P (⟨d, .index t x y, ty, none⟩ :: L) Q st := h
theorem iq.index {t : TypeId} {x y : Operand} (h : QS P K (⟨d, .index t x y, ty, none⟩ :: L) st) : QS P K (⟨d, .index t x y, ty, none⟩ :: L) st := h
theorem is.convert {s t : TypeId} {x : Operand} (h : SL P (⟨d, .convert s t x, ty, none⟩ :: L) Q st) : SL P (⟨d, .convert s t x, ty, none⟩ :: L) Q st := h
theorem iq.convert {s t : TypeId} {x : Operand} (h : QS P K (⟨d, .convert s t x, ty, none⟩ :: L) st) : QS P K (⟨d, .convert s t x, ty, none⟩ :: L) st := h
theorem is.b_add {t t2 : TypeId} {x y : Operand} (h : SL P (⟨d, .binOp .add t x y t2, ty, none⟩ :: L) Q st) : SL P (⟨d, .binOp .add t x y t2, ty, none⟩ :: L) Q st := h
theorem iq.b_add {t t2 : TypeId} {x y : Operand} (h : QS P K (⟨d, .binOp .add t x y t2, ty, none⟩ :: L) st) : QS P K (⟨d, .binOp .add t x y t2, ty, none⟩ :: L) st := h
theorem is.b_sub {t t2 : TypeId} {x y : Operand} (h : SL P (⟨d, .binOp .sub t x y t2, ty, none⟩ :: L) Q st) : SL P (⟨d, .binOp .sub t x y t2, ty, none⟩ :: L) Q st := h
theorem iq.b_sub {t t2 : TypeId} {x y : Operand} (h : QS P K (⟨d, .binOp .sub t x y t2, ty, none⟩ :: L) st) : QS P K (⟨d, .binOp .sub t x y t2, ty, none⟩ :: L) st := h
theorem is.b_mul {t t2 : TypeId} {x y : Operand} (h : SL P (⟨d, .binOp .mul t x y t2, ty, none⟩ :: L) Q st) : SL P (⟨d, .binOp .mul t x y t2, ty, none⟩ :: L) Q st := h
theorem iq.b_mul {t t2 : TypeId} {x y : Operand} (h : QS P K (⟨d, .binOp .mul t x y t2, ty, none⟩ :: L) st) : QS P K (⟨d, .binOp .mul t x y t2, ty, none⟩ :: L) st := h
theorem is.b_eql {t t2 : TypeId} {x y : Operand} (h : SL P (⟨d, .binOp .eql t x y t2, ty, none⟩ :: L) Q st) : SL P (⟨d, .binOp .eql t x y t2, ty, none⟩ :: L) Q st := h
theorem iq.b_eql {t t2 : TypeId} {x y : Operand} (h : QS P K (⟨d, .binOp .eql t x y t2, ty, none⟩ :: L) st) : QS P K (⟨d, .binOp .eql t x y t2, ty, none⟩ :: L) st := h
theorem is.b_neq {t t2 : TypeId} {x y : Operand} (h : SL P (⟨d, .binOp .neq t x y t2, ty, none⟩ :: L) Q st) : SL P (⟨d, .binOp .neq t x y t2, ty, none⟩ :: L) Q st := h
theorem iq.b_neq {t t2 : TypeId} {x y : Operand} (h : QS P K (⟨d, .binOp .neq t x y t2, ty, none⟩ :: L) st) : QS P K (⟨d, .binOp .neq t x y t2, ty, none⟩ :: L) st := h
theorem is.b_lss {t t2 : TypeId} {x y : Operand} (h : SL P (⟨d, .binOp .lss t x y t2, ty, none⟩ :: L) Q st) : SL P (⟨d, .binOp .lss t x y t2, ty, none⟩ :: L) Q st := h
theorem iq.b_lss {t t2 : TypeId} {x y : Operand} (h : QS P K (⟨d, .binOp .lss t x y t2, ty, none⟩ :: L) st) : QS P K (⟨d, .binOp .lss t x y t2, ty, none⟩ :: L) st := h
theorem is.b_leq {t t2 : TypeId} {x y : Operand} (h : SL P (⟨d, .binOp .leq t x y t2, ty, none⟩ :: L) Q st) : SL P (⟨d, .binOp .leq t x y t2, ty, none⟩ :: L) Q st := h
theorem iq.b_leq {t t2 : TypeId} {x y : Operand} (h : QS P K (⟨d, .binOp .leq t x y t2, ty, none⟩ :: L) st) : QS P K (⟨d, .binOp .leq t x y t2, ty, none⟩ :: L) st := h
theorem is.b_gtr {t t2 : TypeId} {x y : Operand} (h : SL P (⟨d, .binOp .gtr t x y t2, ty, none⟩ :: L) Q st) : SL P (⟨d, .binOp .gtr t x y t2, ty, none⟩ :: L) Q st := h
theorem iq.b_gtr {t t2 : TypeId} {x y : Operand} (h : QS P K (⟨d, .binOp .gtr t x y t2, ty, none⟩ :: L) st) : QS P K (⟨d, .binOp .gtr t x y t2, ty, none⟩ :: L) st := h
theorem is.b_geq {t t2 : TypeId} {x y : Operand} (h : SL P (⟨d, .binOp .geq t x y t2, ty, none⟩ :: L) Q st) : SL P (⟨d, .binOp .geq t x y t2, ty, none⟩ :: L) Q st := h
theorem iq.b_geq {t t2 : TypeId} {x y : Operand} (h : QS P K (⟨d, .binOp .geq t x y t2, ty, none⟩ :: L) st) : QS P K (⟨d, .binOp .geq t x y t2, ty, none⟩ :: L) st := h
theorem is.b_and {t t2 : TypeId} {x y : Operand} (h : SL P (⟨d, .binOp .and t x y t2, ty, none⟩ :: L) Q st) : SL P (⟨d, .binOp .and t x y t2, ty, none⟩ :: L) Q st := h
theorem iq.b_and {t t2 : TypeId} {x y : Operand} (h : QS P K (⟨d, .binOp .and t x y t2, ty, none⟩ :: L) st) : QS P K (⟨d, .binOp .and t x y t2, ty, none⟩ :: L) st := h
theorem is.b_or {t t2 : TypeId} {x y : Operand} (h : SL P (⟨d, .binOp .or t x y t2, ty, none⟩ :: L) Q st) : SL P (⟨d, .binOp .or t x y t2, ty, none⟩ :: L) Q st := h
theorem iq.b_or {t t2 : TypeId} {x y : Operand} (h : QS P K (⟨d, .binOp .or t x y t2, ty, none⟩ :: L) st) : QS P K (⟨d, .binOp .or t x y t2, ty, none⟩ :: L) st := h
theorem is.b_xor {t t2 : TypeId} {x y : Operand} (h : SL P (⟨d, .binOp .xor t x y t2, ty, none⟩ :: L) Q st) : SL P (⟨d, .binOp .xor t x y t2, ty, none⟩ :: L) Q st := h
theorem iq.b_xor {t t2 : TypeId} {x y : Operand} (h : QS P K (⟨d, .binOp .xor t x y t2, ty, none⟩ :: L) st) : QS P K (⟨d, .binOp .xor t x y t2, ty, none⟩ :: L) st := h
theorem is.b_andNot {t t2 : TypeId} {x y : Operand} (h : SL P (⟨d, .binOp .andNot t x y t2, ty, none⟩ :: L) Q st) : SL P (⟨d, .binOp .andNot t x y t2, ty, none⟩ :: L) Q st := h
theorem iq.b_andNot {t t2 : TypeId} {x y : Operand} (h : QS P K (⟨d, .binOp .andNot t x y t2, ty, none⟩ :: L) st) : QS P K (⟨d, .binOp .andNot t x y t2, ty, none⟩ :: L) st := h
theorem is.b_shl {t t2 : TypeId} {x y : Operand} (h : SL P (⟨d, .binOp .shl t x y t2, ty, none⟩ :: L) Q st) : SL P (⟨d, .binOp .shl t x y t2, ty, none⟩ :: L) Q st := h
theorem iq.b_shl {t t2 : TypeId} {x y : Operand} (h : QS P K (⟨d, .binOp .shl t x y t2, ty, none⟩ :: L) st) : QS P K (⟨d, .binOp .shl t x y t2, ty, none⟩ :: L) st := h
theorem is.b_shr {t t2 : TypeId} {x y : Operand} (h : SL P (⟨d, .binOp .shr t x y t2, ty, none⟩ :: L) Q st) : SL P (⟨d, .binOp .shr t x y t2, ty, none⟩ :: L) Q st := h
theorem iq.b_shr {t t2 : TypeId} {x y : Operand} (h : QS P K (⟨d, .binOp .shr t x y t2, ty, none⟩ :: L) st) : QS P K (⟨d, .binOp .shr t x y t2, ty, none⟩ :: L) st := h
theorem is.box {e : TypeId} {x : Operand} (h : SL P (⟨d, .box e x, ty, none⟩ :: L) Q st) : SL P (⟨d, .box e x, ty, none⟩ :: L) Q st := h
theorem is.alloc {e : TypeId} (h : SL P (⟨d, .alloc e, ty, none⟩ :: L) Q st) : SL P (⟨d, .alloc e, ty, none⟩ :: L) Q st := h
theorem is.store {t : TypeId} {x y : Operand} (h : SL P (⟨d, .store t x y, ty, none⟩ :: L) Q st) : SL P (⟨d, .store t x y, ty, none⟩ :: L) Q st := h
theorem is.sl {g : GOp} (h : SL P (g :: L) Q st) : SL P (g :: L) Q st := h
theorem iq.qs {g : GOp} (h : QS P K (g :: L) st) : QS P K (g :: L) st := h
theorem is.g {op : Op} {t : Tmp} {w : Bool} (h : SL P (⟨d, op, ty, some (some t, w)⟩ :: L) Q st) : SL P (⟨d, op, ty, some (some t, w)⟩ :: L) Q st := h
theorem iq.g {op : Op} {t : Tmp} {w : Bool} (h : QS P K (⟨d, op, ty, some (some t, w)⟩ :: L) st) : QS P K (⟨d, op, ty, some (some t, w)⟩ :: L) st := h
theorem is.sc {c : Code} (h : SC P c Q st) : SC P c Q st := h
theorem is.cond {c : Operand} {x y : Code} (h : SC P (.cond c x y) Q st) : SC P (.cond c x y) Q st := h
theorem thenQ.n {K : St -> Prop} (h : K st) : thenQ K Q .normal st := h
theorem thenQ.r {K : St -> Prop} (h : Q .ret st) : thenQ K Q .ret st := h
theorem thenQ.x {K : St -> Prop} {id : Nat} (h : Q (.exit id) st) : thenQ K Q (.exit id) st := h
theorem inQ.n {id : Nat} (h : Q .normal st) : inQ id Q .normal st := h
theorem inQ.r {id : Nat} (h : Q .ret st) : inQ id Q .ret st := h
theorem inQ.x {id : Nat} (h : Q .normal st) : inQ id Q (.exit id) st := by simp only [inQ, Nat.beq_refl, cond_true]; exact h
theorem inQ.y {id i : Nat} (hn : Nat.beq i id = false) (h : Q (.exit i) st) : inQ id Q (.exit i) st := by simp only [inQ, hn, cond_false]; exact h
structure Rest (R : Prop) : Prop where
 mk :: (out : R)
theorem run {G R : Prop} (k : R) (h : Rest R -> G := by
  intro k
  repeat first
   | refine thenQ.n ?_
   | refine thenQ.r ?_
   | refine thenQ.x ?_
   | refine inQ.n ?_
   | refine inQ.r ?_
   | refine inQ.x ?_
   | refine inQ.y rfl ?_
   | (refine is.sc ?_; first
     | refine SC.seq' ?_
     | refine SC.region ?_
     | (refine is.cond ?_; first
       | refine SC.cond_true rfl ?_
       | refine SC.cond_false rfl ?_)
     | refine SC.block ?_
     | refine SC.skip ?_
     | refine SC.exit ?_
     | refine SC.ret ?_
     | refine SC.drawQ (by decide +kernel) ?_)
   | refine SL.nil ?_
   | refine QS.nil ?_
   | (refine is.sl ?_; first
     | (refine is.g ?_; first
       | refine SL.gy rfl rfl ?_
       | refine SL.gn rfl rfl ?_)
     | (refine is.move ?_; refine SL.o O.move ?_)
     | (refine is.assign ?_; refine SL.o O.assign ?_)
     | (refine is.load ?_; first
       | refine SL.o (O.loadF rfl rfl) ?_
       | refine SL.o (O.loadFA rfl rfl) ?_
       | refine SL.o (O.loadP rfl rfl rfl (by first | exact Nat.le_of_ble_eq_true rfl | (dsimp only; omega)) (by first | exact Nat.le_of_ble_eq_true rfl | (dsimp only; omega))) ?_
       | refine SL.o (O.loadPA rfl rfl rfl (by first | exact Nat.le_of_ble_eq_true rfl | (dsimp only; omega)) (by first | exact Nat.le_of_ble_eq_true rfl | (dsimp only; omega))) ?_)
     | (refine is.fieldAddr ?_; first
       | refine SL.o (O.fieldF rfl) ?_
       | refine SL.o (O.fieldP rfl rfl rfl) ?_)
     | (refine is.len ?_; first
       | refine SL.o (O.lenF rfl) ?_
       | refine SL.o (O.lenS rfl rfl rfl) ?_
       | refine SL.o (O.lenStr rfl) ?_
       | refine SL.o (O.lenN rfl) ?_)
     | (refine is.unOp ?_; first
       | refine SL.o (O.not rfl) ?_
       | refine SL.o (O.neg rfl (wrap_in (by omega) (by omega))) ?_)
     | (refine is.pick ?_; first
       | refine SL.o (O.pick_true rfl) ?_
       | refine SL.o (O.pick_false rfl) ?_)
     | (refine is.extract ?_; refine SL.o (O.extract rfl rfl) ?_)
     | (refine is.nilCheck ?_; first
       | refine SL.o (O.nilCheckP rfl rfl rfl) ?_
       | refine SL.o (O.nilCheckF rfl) ?_)
     | (refine is.indexAddr ?_; first
       | refine SL.o (O.indexFN rfl rfl (by first | omega | assumption)) ?_
       | refine SL.o (O.indexF rfl rfl (by first | omega | assumption) (by first | omega | assumption)) ?_
       | refine SL.o (O.indexSN rfl rfl rfl rfl rfl (by first | omega | assumption)) ?_
       | refine SL.o (O.indexS rfl rfl rfl rfl rfl (by first | omega | assumption) (by first | omega | assumption)) ?_)
     | (refine is.index ?_; refine SL.o (O.indexStr rfl rfl (by omega) (by omega)) ?_)
     | (refine is.convert ?_; refine SL.o (O.convInt rfl (wrap_in (by omega) (by omega))) ?_)
     | (refine is.b_add ?_; refine SL.o (O.add rfl rfl (wrap_in (by omega) (by omega))) ?_)
     | (refine is.b_sub ?_; refine SL.o (O.sub rfl rfl (wrap_in (by omega) (by omega))) ?_)
     | (refine is.b_mul ?_; refine SL.o (O.mul rfl rfl (wrap_in (by omega) (by omega))) ?_)
     | (refine is.b_eql ?_; refine SL.o (O.eql rfl rfl) ?_)
     | (refine is.b_neq ?_; refine SL.o (O.neq rfl rfl) ?_)
     | (refine is.b_lss ?_; refine SL.o (O.lss rfl rfl) ?_)
     | (refine is.b_leq ?_; refine SL.o (O.leq rfl rfl) ?_)
     | (refine is.b_gtr ?_; refine SL.o (O.gtr rfl rfl) ?_)
     | (refine is.b_geq ?_; refine SL.o (O.geq rfl rfl) ?_)
     | (refine is.b_and ?_; refine SL.o (O.bits rfl rfl rfl) ?_)
     | (refine is.b_or ?_; refine SL.o (O.bits rfl rfl rfl) ?_)
     | (refine is.b_xor ?_; refine SL.o (O.bits rfl rfl rfl) ?_)
     | (refine is.b_andNot ?_; refine SL.o (O.bits rfl rfl rfl) ?_)
     | (refine is.b_shl ?_; refine SL.o (O.shl rfl rfl (by omega)) ?_)
     | (refine is.b_shr ?_; refine SL.o (O.shr rfl rfl (by omega)) ?_)
     | (refine is.box ?_; first
       | refine SL.boxA' 0 rfl rfl ?_
       | refine SL.boxA' 1 rfl rfl ?_
       | refine SL.boxA' 2 rfl rfl ?_
       | refine SL.boxA' 3 rfl rfl ?_
       | refine SL.boxA' 4 rfl rfl ?_
       | refine SL.boxA' 5 rfl rfl ?_
       | refine SL.boxA' 6 rfl rfl ?_
       | refine SL.boxA' 7 rfl rfl ?_
       | refine SL.boxA' 8 rfl rfl ?_
       | refine SL.boxA' 9 rfl rfl ?_
       | refine SL.boxA' 10 rfl rfl ?_
       | refine SL.boxA' 11 rfl rfl ?_
       | refine SL.box1' 0 rfl rfl rfl ?_
       | refine SL.box1' 1 rfl rfl rfl ?_
       | refine SL.box1' 2 rfl rfl rfl ?_
       | refine SL.box1' 3 rfl rfl rfl ?_
       | refine SL.box1' 4 rfl rfl rfl ?_
       | refine SL.box1' 5 rfl rfl rfl ?_
       | refine SL.box1' 6 rfl rfl rfl ?_
       | refine SL.box1' 7 rfl rfl rfl ?_
       | refine SL.box1' 8 rfl rfl rfl ?_
       | refine SL.box1' 9 rfl rfl rfl ?_
       | refine SL.box1' 10 rfl rfl rfl ?_
       | refine SL.box1' 11 rfl rfl rfl ?_)
     | (refine is.alloc ?_; first
       | refine SL.alloc' 0 rfl ?_
       | refine SL.alloc' 1 rfl ?_
       | refine SL.alloc' 2 rfl ?_
       | refine SL.alloc' 3 rfl ?_
       | refine SL.alloc' 4 rfl ?_
       | refine SL.alloc' 5 rfl ?_
       | refine SL.alloc' 6 rfl ?_
       | refine SL.alloc' 7 rfl ?_
       | refine SL.alloc' 8 rfl ?_
       | refine SL.alloc' 9 rfl ?_
       | refine SL.alloc' 10 rfl ?_
       | refine SL.alloc' 11 rfl ?_)
     | (refine is.store ?_; first
       | refine SL.store1 rfl rfl rfl (by first | exact Nat.le_of_ble_eq_true rfl | (dsimp only; omega)) (by first | exact Nat.le_of_ble_eq_true rfl | (dsimp only; omega)) rfl rfl ?_
       | refine SL.storeA rfl rfl rfl (by first | exact Nat.le_of_ble_eq_true rfl | (dsimp only; omega)) (by first | exact Nat.le_of_ble_eq_true rfl | (dsimp only; omega)) rfl ?_))
   | (refine iq.qs ?_; first
     | (refine iq.g ?_; first
       | refine QS.gy rfl rfl ?_
       | refine QS.gn rfl rfl ?_)
     | (refine iq.move ?_; refine QS.o O.move ?_)
     | (refine iq.assign ?_; refine QS.o O.assign ?_)
     | (refine iq.load ?_; first
       | refine QS.o (O.loadF rfl rfl) ?_
       | refine QS.o (O.loadFA rfl rfl) ?_
       | refine QS.o (O.loadP rfl rfl rfl (by first | exact Nat.le_of_ble_eq_true rfl | (dsimp only; omega)) (by first | exact Nat.le_of_ble_eq_true rfl | (dsimp only; omega))) ?_
       | refine QS.o (O.loadPA rfl rfl rfl (by first | exact Nat.le_of_ble_eq_true rfl | (dsimp only; omega)) (by first | exact Nat.le_of_ble_eq_true rfl | (dsimp only; omega))) ?_)
     | (refine iq.fieldAddr ?_; first
       | refine QS.o (O.fieldF rfl) ?_
       | refine QS.o (O.fieldP rfl rfl rfl) ?_)
     | (refine iq.len ?_; first
       | refine QS.o (O.lenF rfl) ?_
       | refine QS.o (O.lenS rfl rfl rfl) ?_
       | refine QS.o (O.lenStr rfl) ?_
       | refine QS.o (O.lenN rfl) ?_)
     | (refine iq.unOp ?_; first
       | refine QS.o (O.not rfl) ?_
       | refine QS.o (O.neg rfl (wrap_in (by omega) (by omega))) ?_)
     | (refine iq.pick ?_; first
       | refine QS.o (O.pick_true rfl) ?_
       | refine QS.o (O.pick_false rfl) ?_)
     | (refine iq.extract ?_; refine QS.o (O.extract rfl rfl) ?_)
     | (refine iq.nilCheck ?_; first
       | refine QS.o (O.nilCheckP rfl rfl rfl) ?_
       | refine QS.o (O.nilCheckF rfl) ?_)
     | (refine iq.indexAddr ?_; first
       | refine QS.o (O.indexFN rfl rfl (by first | omega | assumption)) ?_
       | refine QS.o (O.indexF rfl rfl (by first | omega | assumption) (by first | omega | assumption)) ?_
       | refine QS.o (O.indexSN rfl rfl rfl rfl rfl (by first | omega | assumption)) ?_
       | refine QS.o (O.indexS rfl rfl rfl rfl rfl (by first | omega | assumption) (by first | omega | assumption)) ?_)
     | (refine iq.index ?_; refine QS.o (O.indexStr rfl rfl (by omega) (by omega)) ?_)
     | (refine iq.convert ?_; refine QS.o (O.convInt rfl (wrap_in (by omega) (by omega))) ?_)
     | (refine iq.b_add ?_; refine QS.o (O.add rfl rfl (wrap_in (by omega) (by omega))) ?_)
     | (refine iq.b_sub ?_; refine QS.o (O.sub rfl rfl (wrap_in (by omega) (by omega))) ?_)
     | (refine iq.b_mul ?_; refine QS.o (O.mul rfl rfl (wrap_in (by omega) (by omega))) ?_)
     | (refine iq.b_eql ?_; refine QS.o (O.eql rfl rfl) ?_)
     | (refine iq.b_neq ?_; refine QS.o (O.neq rfl rfl) ?_)
     | (refine iq.b_lss ?_; refine QS.o (O.lss rfl rfl) ?_)
     | (refine iq.b_leq ?_; refine QS.o (O.leq rfl rfl) ?_)
     | (refine iq.b_gtr ?_; refine QS.o (O.gtr rfl rfl) ?_)
     | (refine iq.b_geq ?_; refine QS.o (O.geq rfl rfl) ?_)
     | (refine iq.b_and ?_; refine QS.o (O.bits rfl rfl rfl) ?_)
     | (refine iq.b_or ?_; refine QS.o (O.bits rfl rfl rfl) ?_)
     | (refine iq.b_xor ?_; refine QS.o (O.bits rfl rfl rfl) ?_)
     | (refine iq.b_andNot ?_; refine QS.o (O.bits rfl rfl rfl) ?_)
     | (refine iq.b_shl ?_; refine QS.o (O.shl rfl rfl (by omega)) ?_)
     | (refine iq.b_shr ?_; refine QS.o (O.shr rfl rfl (by omega)) ?_))
  exact k.out) : G := h ⟨k⟩
end Go.Abs
namespace Go.Abs
open Go
variable {P : Program} {Q : Exit -> St -> Prop} {st : St} {L : List GOp} {d : Option Tmp} {ty : TypeId} {K : St -> Prop}
def unset (ι : Id -> Option Nat) (id : Id) : Id -> Option Nat := fun i => if i = id then none else ι i
theorem RelH.virt {E : Env} {ι : Id -> Option Nat} {F : Nat -> Prop} {H : Heap} {w : World} (r : RelH E ι F H w) (id : Id) (o' : AObj) (H' : Heap)
  (hH : ∀ i, H'.slot i = if i = id then .live o' else H.slot i) (hn : ∀ i, H'.next <= i.k -> i ≠ id /\ H.next <= i.k) (hlo : H'.lo = H.lo) (h0 : o'.n = 0)
  (hslot : match H.slot id with | .unborn => True | .live o => o.ver < o'.ver | _ => False) :
  RelH E (unset ι id) F H' w /\ Ext H ι F w H' (unset ι id) F w := by
 have hid : (H'.slot id) = .live o' := by rw [hH, if_pos rfl]
 have hwas : ∀ i, i ≠ id -> (H'.slot i).is -> (H.slot i).is := fun i hi h => by rw [hH, if_neg hi] at h; exact h
 have hι : ∀ i, i ≠ id -> unset ι id i = ι i := fun i hi => by simp [unset, hi]
 have hιd : unset ι id id = none := by simp [unset]
 have hx : Ext H ι F w H' (unset ι id) F w := by
  refine Ext.of (fun _ h => h) (fun _ _ => rfl) fun i => ?_
  unfold SlotOk
  by_cases hi : i = id
  ·subst hi
   rw [hid]
   cases hs : H.slot i with
   | unborn => trivial
   | dead => rw [hs] at hslot; exact hslot.elim
   | mp _ _ => rw [hs] at hslot; exact hslot.elim
   | live o =>
    rw [hs] at hslot
    simp only at hslot ⊢
    exact .inr ⟨o', rfl, by omega, fun he => by omega⟩
  ·rw [hH, if_neg hi]
   cases hs : H.slot i with
   | unborn => trivial
   | dead => rfl
   | mp s g => exact .inr ⟨⟨s, g, rfl⟩, hι i hi⟩
   | live o => exact .inr ⟨o, rfl, Nat.le_refl _, fun _ => ⟨rfl, rfl, Nat.le_refl _, hι i hi, fun b cur hb hc => ⟨cur, hc, rfl⟩⟩⟩
 have hid' : ∀ i k, unset ι id i = some k -> i ≠ id := fun i k h e => by subst e; rw [hιd] at h; cases h
 refine ⟨⟨r.os, r.tape, r.output, r.size, r.kept, fun i o hi => ?_, fun i s g hi => ?_, fun i i' k hi hi' hk hk' => ?_, fun i k hi hk => ?_, fun i k hi hk => ?_, fun i k hi hk => ?_, r.frlt, r.frin, fun i hi => ?_, r.ext.trans hx, by rw [hlo]; exact r.lo⟩, hx⟩
 ·by_cases h : i = id
  ·subst h
   rw [hid] at hi
   injection hi with hi
   subst hi
   refine ⟨by rw [h0]; exact Nat.zero_le _, ?_⟩
   rw [hιd]; exact h0
  ·rw [hH, if_neg h] at hi
   obtain ⟨h1, h2⟩ := r.obj i o hi
   refine ⟨h1, ?_⟩
   rw [hι i h]
   cases hk : ι i with
   | none => rw [hk] at h2; exact h2
   | some k =>
    rw [hk] at h2
    obtain ⟨cur, g1, g2, g3⟩ := h2
    exact ⟨cur, g1, g2, fun i hi j hj => by obtain ⟨c, a, b, d⟩ := g3 i hi j hj; exact ⟨c, a, b, hx _ _ d⟩⟩
 ·have h : i ≠ id := fun e => by subst e; rw [hid] at hi; cases hi
  rw [hH, if_neg h] at hi
  obtain ⟨k, es, clock, g1, g2, g3, g4⟩ := r.mapo i s g hi
  refine ⟨k, es, clock, by rw [hι i h]; exact g1, g2, g3, fun key hkey => ?_⟩
  have := g4 key hkey
  cases hg : g key with
  | none => rw [hg] at this; exact this
  | some u => rw [hg] at this; obtain ⟨n, e, a, b, c⟩ := this; exact ⟨n, e, a, b, hx _ _ c⟩
 ·have h := hid' i k hk; have h' := hid' i' k hk'
  rw [hι i h] at hk; rw [hι i' h'] at hk'
  exact r.inj i i' k (hwas i h hi) (hwas i' h' hi') hk hk'
 ·have h := hid' i k hk; rw [hι i h] at hk; exact r.nofr i k (hwas i h hi) hk
 ·have h := hid' i k hk; rw [hι i h] at hk; exact r.own i k (hwas i h hi) hk
 ·have h := hid' i k hk; rw [hι i h] at hk; exact r.lt i k (hwas i h hi) hk
 ·obtain ⟨h1, h2⟩ := hn i hi
  rw [hH, if_neg h1]; exact r.next i h2
def Src (st : St) (x : Operand) (m s : Nat) (news : Nat -> Nat -> V) : Prop := ∀ E ι F a w, Rel E ι F st a w -> ∃ B c, a.eval x = .slice B m c /\ m <= c /\
 (0 < m -> ∃ ad, B = some ad /\ ∀ i, i < m -> ∀ j, j < s -> ∃ v, w.cell? (ad.add (i * s + j)) = some v /\ v.oneCell' = true /\ VRel st.heap ι F w (news i j) v)
theorem Src.sref {x : Operand} {id : Id} {ver rr m s : Nat} {o : AObj} (hx : st.eval x = .sref id ver rr m) (ho : st.heap.slot id = .live o) (hv : ver = o.ver) (hs : o.sz = s) :
  Src st x m s (fun i j => o.get (i + rr) j) := fun E ι F a w r => by
 subst hs
 obtain ⟨hn, A, cap, h1, h2, h3⟩ := live_sref r hx ho hv
 refine ⟨A, cap, h1, h2, fun hm => ?_⟩
 obtain ⟨b, cur, hb, rfl, hh, hsz⟩ := h3 (by omega)
 obtain ⟨cur', g1, g2, g3⟩ := obj_cells r.h ho hb
 refine ⟨_, rfl, fun i hi j hj => ?_⟩
 obtain ⟨u, q1, q2, q3, q4⟩ := g3 (i + rr) (by omega) j hj
 exact ⟨u, by rw [addr_add, show rr * o.sz + (i * o.sz + j) = (i + rr) * o.sz + j by rw [Nat.add_mul]; omega]; exact q1, q3, q4⟩
theorem Src.sl {x : Operand} {m s : Nat} {get : Nat -> Nat -> T} (hx : st.eval x = .t (.sl s m get)) : Src st x m s (fun i j => .t (get i j)) := fun E ι F a w r => by
 have hr := r.eval x
 rw [hx] at hr
 obtain ⟨A, cap, h1, h2, h3, h4⟩ := hr
 refine ⟨A, cap, h1, h2, fun hm => ?_⟩
 obtain ⟨b, o, rfl, hb, hc⟩ := h4 hm
 refine ⟨_, rfl, fun i hi j hj => ?_⟩
 obtain ⟨c, q1, q2⟩ := hc i hi j hj
 exact ⟨c, by rw [addr_add]; exact q1, q2.plain, q2⟩
theorem Src.nils {x : Operand} {s : Nat} (hx : st.eval x = .nils) : Src st x 0 s (fun _ _ => .un) := fun E ι F a w r => by
 have hr := r.eval x
 rw [hx] at hr
 exact ⟨none, 0, hr, Nat.le_refl _, fun h => absurd h (Nat.lt_irrefl _)⟩
theorem gather2 {p : Nat -> Nat -> Value -> Prop} (s : Nat) : ∀ m, (∀ i, i < m -> ∀ j, j < s -> ∃ c, p i j c) -> ∃ cs : List Value, cs.length = m * s /\ ∀ i, i < m -> ∀ j, j < s -> ∃ c, cs[i * s + j]? = some c /\ p i j c
 | 0, _ => ⟨[], by simp, fun i hi => absurd hi (Nat.not_lt_zero _)⟩
 | m + 1, h => by
  obtain ⟨cs, hl, hp⟩ := gather2 s m (fun i hi => h i (by omega))
  obtain ⟨ds, hl2, hp2⟩ := gather (p := fun j c => p m j c) s (fun j hj => h m (by omega) j hj)
  refine ⟨cs ++ ds, by rw [List.length_append, hl, hl2, Nat.succ_mul], fun i hi j hj => ?_⟩
  by_cases him : i < m
  ·obtain ⟨c, h1, h2⟩ := hp i him j hj
   have hlt : i * s + j < cs.length := (List.getElem?_eq_some_iff.1 h1).1
   exact ⟨c, by rw [List.getElem?_append_left hlt]; exact h1, h2⟩
  ·have : i = m := by omega
   subst this
   have hlt : j < ds.length := by omega
   exact ⟨ds[j], by rw [List.getElem?_append_right (by omega), hl, show i * s + j - i * s = j by omega]; exact List.getElem?_eq_getElem hlt, hp2 j _ (List.getElem?_eq_getElem hlt)⟩
theorem lin_lt {i j m s : Nat} (hi : i < m) (hj : j < s) : i * s + j < m * s := by
 have : (i + 1) * s <= m * s := Nat.mul_le_mul_right _ hi
 rw [Nat.succ_mul] at this; omega
theorem lin_div {k m s : Nat} (h : k < m * s) : ∃ i j, i < m /\ j < s /\ k = i * s + j := by
 have hs : 0 < s := by
  rcases Nat.eq_zero_or_pos s with h0 | h0
  ·subst h0; simp at h
  ·exact h0
 refine ⟨k / s, k % s, Nat.div_lt_of_lt_mul (by rw [Nat.mul_comm]; exact h), Nat.mod_lt _ hs, ?_⟩
 rw [Nat.mul_comm]; exact (Nat.div_add_mod k s).symm
def AObj.app (o : AObj) (m : Nat) (news : Nat -> Nat -> V) : AObj :=
 { o with ver := o.ver + 1, n := o.n + m, get := fun i j => bif Nat.blt i o.n then o.get i j else news (i - o.n) j }
theorem blt_true {a b : Nat} (h : a < b) : Nat.blt a b = true := Nat.ble_eq_true_of_le h
theorem blt_false {a b : Nat} (h : b <= a) : Nat.blt a b = false := by
 cases hb : Nat.blt a b with
 | false => rfl
 | true => have := Nat.le_of_ble_eq_true hb; omega
theorem RelH.append {t ty' e : TypeId} {s by_ : Nat} [ht : TySlice P t e s by_] {z : Value} [hz : TyZero P e z] (hzs : z.cells.size = s) {E : Env} {ι : Id -> Option Nat} {F : Nat -> Prop} {H : Heap} {w : World} (r : RelH E ι F H w)
  {id : Id} {o : AObj} (ho : H.slot id = .live o) (hs : o.sz = s) (he : o.elem = e) {A : Option Addr} {cap : Nat} (hlc : o.n <= cap)
  (hcap : 0 < cap -> ∃ b cur, ι id = some b /\ A = some ⟨b, 0, none⟩ /\ w.heap[b]? = some (.cells cur o.elem (0, 0)) /\ cap * o.sz <= cur.size)
  {B : Option Addr} {m c : Nat} (hmc : m <= c) {news : Nat -> Nat -> V}
  (hsrc : 0 < m -> ∃ ad, B = some ad /\ ∀ i, i < m -> ∀ j, j < s -> ∃ v, w.cell? (ad.add (i * s + j)) = some v /\ v.oneCell' = true /\ VRel H ι F w (news i j) v)
  (hb : (o.n + m) * by_ <= 140737488355328) (hl : o.n + m <= LEN) :
  ∃ A' cap' w' ι', (Builtin.append_ #[t, t] ty' #[.slice A o.n cap, .slice B m c]).run P w = .ok (.slice A' (o.n + m) cap') w' /\
   RelH E ι' F (H.set id (o.app m news)) w' /\ Ext H ι F w (H.set id (o.app m news)) ι' F w' /\ VRel (H.set id (o.app m news)) ι' F w' (.sref id (o.ver + 1) 0 (o.n + m)) (.slice A' (o.n + m) cap') := by
 have hLEN : LEN = 281474976710656 := rfl
 subst hs
 subst he
 have hsi := ht.s
 cases hq : P.info? o.elem with
 | none => simp [hq] at hsi
 | some inf =>
 simp only [hq, Option.map_some, Option.some.injEq, Prod.mk.injEq] at hsi
 obtain ⟨hsi1, hsi2⟩ := hsi
 have hz0 := hz.z
 simp only [hq, Option.map_some, Option.some.injEq] at hz0
 have hH : ∀ i, (H.set id (o.app m news)).slot i = if i = id then .live (o.app m news) else H.slot i := fun i => by simp only [Heap.set]; exact beq_if _ _ _ _
 have hnx : ∀ i : Id, (H.set id (o.app m news)).next <= i.k -> i ≠ id /\ H.next <= i.k := fun i hi => ⟨fun e => (by
  subst e
  have := r.next i hi
  rw [ho] at this; cases this), hi⟩
 have hself : (H.set id (o.app m news)).slot id = .live (o.app m news) := by rw [hH, if_pos rfl]
 rcases Nat.eq_zero_or_pos m with hm | hm
 ·-- nothing is appended
  subst hm
  have hrun : (Builtin.append_ #[t, t] ty' #[.slice A o.n cap, .slice B 0 c]).run P w = .ok (.slice A (o.n + 0) cap) w := by
   have hl0 : ∀ (x : Addr), (loadCells x 0).run P w = .ok #[] w := fun x => by simpa using run_loadCells_list (P := P) w x [] (by simp)
   cases A <;> cases B <;> simp [Builtin.append_, run_underlying' ht.d, sizeOf, typeInfo, hq, Builtin.lenOf, Builtin.firstCells, hlc, storeCells, hl0]
  cases hι : ι id with
  | none =>
   have h0 : o.n = 0 := by have := (r.obj id o ho).2; rw [hι] at this; exact this
   obtain ⟨r1, x1⟩ := r.virt id (o.app 0 news) _ hH hnx rfl h0 (by rw [ho]; show o.ver < o.ver + 1; omega)
   refine ⟨A, cap, w, _, hrun, r1, x1, rfl, ?_⟩
   rw [hself]
   refine ⟨Nat.le_refl _, fun _ => ⟨by show 0 + (o.n + 0) <= o.n + 0; omega, A, cap, rfl, hlc, fun hc => ?_⟩⟩
   obtain ⟨b, cur, hb', _⟩ := hcap hc
   rw [hι] at hb'; cases hb'
  | some b =>
   obtain ⟨cur, g1, g2, g3⟩ := obj_cells r ho hι
   obtain ⟨r1, x1⟩ := r.step id b (o.app 0 news) cur w _ hH hnx rfl rfl rfl rfl (Nat.le_refl _) (fun _ _ _ => rfl) g1 (.inr ⟨hι, by rw [ho]; trivial⟩) hl g2
    (fun i hi j hj => by
     have hi' : i < o.n := hi
     obtain ⟨u, q1, q2, q3, q4⟩ := g3 i hi' j hj
     exact ⟨u, q2, q3, by simp only [AObj.app, blt_true hi', cond_true]; exact q4⟩)
    (by rw [ho]; exact ⟨by show o.ver <= o.ver + 1; omega, fun h => by have : o.ver = o.ver + 1 := h; omega⟩)
   refine ⟨A, cap, w, _, hrun, r1, x1, rfl, ?_⟩
   rw [hself]
   refine ⟨Nat.le_refl _, fun _ => ⟨by show 0 + (o.n + 0) <= o.n + 0; omega, A, cap, rfl, hlc, fun hc => ?_⟩⟩
   obtain ⟨b', cur', hb', hA, hh, hsz⟩ := hcap hc
   exact ⟨b', cur', by simp [upd]; rw [hι] at hb'; exact Option.some.inj hb', by rw [hA]; simp, hh, by simpa [AObj.app] using hsz⟩
 ·obtain ⟨ad, rfl, hsrc'⟩ := hsrc hm
  obtain ⟨nl, hnl, hnews⟩ := gather2 (p := fun i j v => w.cell? (ad.add (i * o.sz + j)) = some v /\ v.oneCell' = true /\ VRel H ι F w (news i j) v) o.sz m hsrc'
  have hnl1 : ∀ k v, nl[k]? = some v -> w.cell? (ad.add k) = some v /\ v.oneCell' = true := fun k v hv => by
   have hk : k < m * o.sz := by rw [<- hnl]; exact (List.getElem?_eq_some_iff.1 hv).1
   obtain ⟨i, j, hi, hj, rfl⟩ := lin_div hk
   obtain ⟨c', h1, h2, h3, _⟩ := hnews i hi j hj
   rw [h1] at hv
   have := Option.some.inj hv
   subst this
   exact ⟨h2, h3⟩
  by_cases hfit : o.n + m <= cap
  ·-- it fits
   obtain ⟨b, cur, hι, rfl, hh, hsz⟩ := hcap (by omega)
   obtain ⟨cur0, g1, g2, g3⟩ := obj_cells r ho hι
   rw [hh] at g1
   injection g1 with g1
   injection g1 with g1
   subst g1
   have hroom : o.n * o.sz + nl.length <= cur.size := by
    rw [hnl, <- Nat.add_mul]; exact Nat.le_trans (Nat.mul_le_mul_right _ hfit) hsz
   have hl1 := run_loadCells_list (P := P) w ad nl (fun k v hv => (hnl1 k v hv).1)
   have hst := run_storeCells_cells (P := P) b (o.n * o.sz) nl 0 w (fun j hj => by simp [World.cell?, hh]; omega) (fun j hj => by simp [World.frozen?, hh]) (fun v hv => by
    obtain ⟨k, hk, hkv⟩ := List.getElem_of_mem hv
    exact (hnl1 k v (by rw [List.getElem?_eq_getElem hk, hkv])).2)
   have hrun : (Builtin.append_ #[t, t] ty' #[.slice (some ⟨b, 0, none⟩) o.n cap, .slice (some ad) m c]).run P w = .ok (.slice (some ⟨b, 0, none⟩) (o.n + m) cap) (w.setCells b (o.n * o.sz) nl) := by
    have hadd : (⟨b, 0, none⟩ : Addr).add (o.n * o.sz) = ⟨b, o.n * o.sz, none⟩ := by rw [addr_add]; simp
    simp only [Nat.add_zero] at hst
    rw [hnl] at hl1
    simp [Builtin.append_, run_underlying' ht.d, sizeOf, typeInfo, hq, Builtin.lenOf, Builtin.firstCells, hfit, hsi1, hl1, hadd, hst]
   obtain ⟨k1, k2, k3, k4⟩ := setCells_rest (b := b) nl (o.n * o.sz) w
   obtain ⟨r1, x1⟩ := r.step id b (o.app m news) (setArr cur (o.n * o.sz) nl) _ _ hH hnx rfl k1 k2 k3 (by omega) (fun k hk _ => setCells_other hk _ _ _) (setCells_heap nl _ w cur hh) (.inr ⟨hι, by rw [ho]; trivial⟩) hl
    (by show (o.n + m) * o.sz <= _; rw [setArr_size]; rw [Nat.add_mul]; omega)
    (fun i hi j hj => by
     have hi' : i < o.n + m := hi
     have hj' : j < o.sz := hj
     show ∃ c, (setArr cur (o.n * o.sz) nl)[i * o.sz + j]? = some c /\ _
     rw [setArr_get _ _ _ hroom]
     by_cases hin : i < o.n
     ·have := lin_lt hin hj'
      rw [if_neg (by omega)]
      obtain ⟨u, q1, q2, q3, q4⟩ := g3 i hin j hj'
      exact ⟨u, q2, q3, by simp only [AObj.app, blt_true hin, cond_true]; exact q4⟩
     ·have h1 : (i - o.n) * o.sz + j < m * o.sz := lin_lt (by omega) hj'
      have h2 : i * o.sz + j = o.n * o.sz + ((i - o.n) * o.sz + j) := by
       rw [<- Nat.add_assoc, <- Nat.add_mul]; congr 2; omega
      rw [if_pos (by omega)]
      obtain ⟨v, q1, q2, q3, q4⟩ := hnews (i - o.n) (by omega) j hj'
      exact ⟨v, by rw [h2, show o.n * o.sz + ((i - o.n) * o.sz + j) - o.n * o.sz = (i - o.n) * o.sz + j by omega]; exact q1, q3, by simp only [AObj.app, blt_false (show o.n <= i by omega), cond_false]; exact q4⟩)
    (by rw [ho]; exact ⟨by show o.ver <= o.ver + 1; omega, fun h => by have : o.ver = o.ver + 1 := h; omega⟩)
   refine ⟨_, cap, _, _, hrun, r1, x1, rfl, ?_⟩
   rw [hself]
   refine ⟨Nat.le_refl _, fun _ => ⟨by show 0 + (o.n + m) <= o.n + m; omega, _, cap, rfl, hfit, fun hc => ?_⟩⟩
   exact ⟨b, _, upd_self _ _ _, by simp, setCells_heap nl _ w cur hh, by rw [setArr_size]; simpa [AObj.app] using hsz⟩
  ·-- it grows
   have hg : cap < o.n + m := by omega
   have hf := growslice_fits (old := cap) hg hb
   -- the old cells
   have hold : ∃ olds : List Value, olds.length = o.n * o.sz /\ (∀ j v, olds[j]? = some v -> ∀ bb, A = some bb -> w.cell? (bb.add j) = some v) /\ ∀ i, i < o.n -> ∀ j, j < o.sz -> ∃ c, olds[i * o.sz + j]? = some c /\ c.oneCell' = true /\ VRel H ι F w (o.get i j) c := by
    rcases Nat.eq_zero_or_pos cap with hc | hc
    ·have h0 : o.n = 0 := by omega
     exact ⟨[], by simp [h0], fun j v hv => by simp at hv, fun i hi => by omega⟩
    ·obtain ⟨b, cur, hι, rfl, hh, hsz⟩ := hcap hc
     obtain ⟨cur0, g1, g2, g3⟩ := obj_cells r ho hι
     obtain ⟨ol, hol, hp⟩ := gather2 (p := fun i j v => w.cell? ⟨b, i * o.sz + j, none⟩ = some v /\ v.oneCell' = true /\ VRel H ι F w (o.get i j) v) o.sz o.n (fun i hi j hj => by
      obtain ⟨u, q1, q2, q3, q4⟩ := g3 i hi j hj
      exact ⟨u, q1, q3, q4⟩)
     refine ⟨ol, hol, fun k v hv bb hbb => ?_, fun i hi j hj => ?_⟩
     ·have hk : k < o.n * o.sz := by rw [<- hol]; exact (List.getElem?_eq_some_iff.1 hv).1
      obtain ⟨i, j, hi, hj, rfl⟩ := lin_div hk
      obtain ⟨c', h1, h2, _⟩ := hp i hi j hj
      rw [h1] at hv
      have := Option.some.inj hv
      subst this
      have := Option.some.inj hbb
      subst this
      rw [addr_add, Nat.zero_add]; exact h2
     ·obtain ⟨c', h1, h2, h3, h4⟩ := hp i hi j hj
      exact ⟨c', h1, h3, h4⟩
   obtain ⟨olds, holl, hol1, hol2⟩ := hold
   have hgc := grownCap_ge w (o.n + m) cap o.elem
   have hrun : (Builtin.append_ #[t, t] ty' #[.slice A o.n cap, .slice (some ad) m c]).run P w = .ok (.slice (some ⟨w.heap.size, 0, none⟩) (o.n + m) (grownCap w (o.n + m) cap o.elem))
     (w.drew.alloc (.cells (olds.toArray ++ nl.toArray ++ Builtin.zeroCells z.cells (grownCap w (o.n + m) cap o.elem - (o.n + m))) o.elem)) := by
    cases A with
    | none =>
     have hc0 : cap = 0 := by
      rcases Nat.eq_zero_or_pos cap with h | h
      ·exact h
      ·obtain ⟨_, _, _, h, _⟩ := hcap h; cases h
     have hn0 : o.n = 0 := by omega
     have hol0 : olds = [] := List.eq_nil_of_length_eq_zero (by rw [holl, hn0]; simp)
     subst hc0
     rw [hn0, hol0]
     simp only [Nat.zero_add]
     have := run_append_nil (P := P) w t ty' o.elem inf z ht.d hq hz0 ad m c nl (by rw [hnl, hsi1]) (fun j v hv => (hnl1 j v hv).1) hm (by omega) (by rw [hsi2]; rw [hn0] at hb; simp at hb; omega)
     simpa using this
    | some bb =>
     exact run_append_grow (P := P) w t ty' o.elem inf z ht.d hq hz0 bb o.n cap olds (by rw [holl, hsi1]) (fun j v hv => hol1 j v hv bb rfl) ad m c nl (by rw [hnl, hsi1]) (fun j v hv => (hnl1 j v hv).1) hg (by omega) (by rw [hsi2]; exact hf)
   have hzc : (Builtin.zeroCells z.cells (grownCap w (o.n + m) cap o.elem - (o.n + m))).size = (grownCap w (o.n + m) cap o.elem - (o.n + m)) * o.sz := by
    simp [Builtin.zeroCells, hzs]
   have hcsz : (olds.toArray ++ nl.toArray ++ Builtin.zeroCells z.cells (grownCap w (o.n + m) cap o.elem - (o.n + m))).size = (grownCap w (o.n + m) cap o.elem) * o.sz := by
    rw [Array.size_append, Array.size_append, hzc]
    simp only [List.size_toArray, holl, hnl]
    rw [<- Nat.add_mul, <- Nat.add_mul]; congr 1; omega
   obtain ⟨r0, x0⟩ := r.same (w' := w.drew) rfl rfl rfl rfl
   have hoc : ∀ i, i < o.n + m -> ∀ j, j < o.sz -> ∃ c, (olds.toArray ++ nl.toArray ++ Builtin.zeroCells z.cells (grownCap w (o.n + m) cap o.elem - (o.n + m)))[i * o.sz + j]? = some c /\ c.oneCell' = true /\ VRel H ι F w ((o.app m news).get i j) c := by
    intro i hi j hj
    have hlt : i * o.sz + j < (olds.toArray ++ nl.toArray).size := by
     simp only [Array.size_append, List.size_toArray, holl, hnl]
     rw [<- Nat.add_mul]; exact lin_lt hi hj
    rw [Array.getElem?_append_left hlt]
    by_cases hin : i < o.n
    ·have h1 := lin_lt hin hj
     rw [Array.getElem?_append_left (by simp only [List.size_toArray, holl]; exact h1)]
     obtain ⟨c', q1, q2, q3⟩ := hol2 i hin j hj
     exact ⟨c', by simpa using q1, q2, by simp only [AObj.app, blt_true hin, cond_true]; exact q3⟩
    ·have h2 : i * o.sz + j = o.n * o.sz + ((i - o.n) * o.sz + j) := by
      rw [<- Nat.add_assoc, <- Nat.add_mul]; congr 2; omega
     rw [Array.getElem?_append_right (by simp only [List.size_toArray, holl]; omega)]
     obtain ⟨c', q1, q2, q3, q4⟩ := hnews (i - o.n) (by omega) j hj
     exact ⟨c', by simp only [List.size_toArray, holl]; rw [h2, show o.n * o.sz + ((i - o.n) * o.sz + j) - o.n * o.sz = (i - o.n) * o.sz + j by omega]; simpa using q1, q3,
      by simp only [AObj.app, blt_false (show o.n <= i by omega), cond_false]; exact q4⟩
   obtain ⟨r1, x1⟩ := r0.step id w.heap.size (o.app m news) (olds.toArray ++ nl.toArray ++ Builtin.zeroCells z.cells (grownCap w (o.n + m) cap o.elem - (o.n + m)))
    (w.drew.alloc (.cells (olds.toArray ++ nl.toArray ++ Builtin.zeroCells z.cells (grownCap w (o.n + m) cap o.elem - (o.n + m))) o.elem)) _ hH hnx rfl rfl rfl rfl (by simp) (fun k hk hlt => by
     show (w.heap.push _)[k]? = _
     rw [Array.getElem?_push, if_neg (by exact hk)]; rfl) (by show (w.heap.push _)[w.heap.size]? = _; simp; rfl) (.inl rfl) hl
    (by rw [hcsz]; exact Nat.mul_le_mul_right _ hgc) (fun i hi j hj => by
     obtain ⟨c', q1, q2, q3⟩ := hoc i hi j hj
     exact ⟨c', q1, q2, x0 _ _ q3⟩)
    (by rw [ho]; exact ⟨by show o.ver <= o.ver + 1; omega, fun h => by have : o.ver = o.ver + 1 := h; omega⟩)
   refine ⟨_, _, _, _, hrun, r1, x0.trans x1, rfl, ?_⟩
   rw [hself]
   refine ⟨Nat.le_refl _, fun _ => ⟨by show 0 + (o.n + m) <= o.n + m; omega, _, _, rfl, hgc, fun hc => ?_⟩⟩
   exact ⟨w.heap.size, (olds.toArray ++ nl.toArray ++ Builtin.zeroCells z.cells (grownCap w (o.n + m) cap o.elem - (o.n + m))), upd_self _ _ _, by simp, by show (w.heap.push _)[w.heap.size]? = _; simp; rfl, by rw [hcsz]; simp [AObj.app]⟩
theorem SL.append {t e : TypeId} {s by_ : Nat} [ht : TySlice P t e s by_] {z : Value} [hz : TyZero P e z] {x y : Operand} {id : Id} {ver len m : Nat} {o : AObj} {news : Nat -> Nat -> V}
  (hx : st.eval x = .sref id ver 0 len) (ho : st.heap.slot id = .live o) (hv : ver = o.ver) (hln : len = o.n) (hs : o.sz = s) (he : o.elem = e) (hzs : z.cells.size = s) (hy : Src st y m s news)
  (hb : (o.n + m) * by_ <= 140737488355328) (hl : o.n + m <= LEN)
  (hk : SL P L Q ((st.on (st.heap.set id (o.app m news))).put d (.sref id (o.ver + 1) 0 (o.n + m)))) :
  SL P (⟨d, .call { callee := .builtin .append, args := #[x, y], argTypes := #[t, t] }, ty, none⟩ :: L) Q st :=
 SL.value rfl fun E ι F a w r => by
  subst hln
  obtain ⟨hn, A, cap, h1, h2, h3⟩ := live_sref r hx ho hv
  obtain ⟨B, c, g1, g2, g3⟩ := hy E ι F a w r
  obtain ⟨A', cap', w', ι', q1, q2, q3, q4⟩ := r.h.append (P := P) (t := t) (ty' := ty) (s := s) (by_ := by_) (z := z) hzs ho hs he h2 (fun hc => by
   obtain ⟨b, cur, p1, p2, p3, p4⟩ := h3 hc
   exact ⟨b, cur, p1, by simpa using p2, p3, by simpa using p4⟩) g2 g3 hb hl
  exact ⟨_, w', ι', F, _, _, by simp [execOp, GOp.oper, resolve, invoke, builtin, h1, g1, q1], q2, q3, q4, hk⟩
end Go.Abs
namespace Go.Abs
open Go
variable {P : Program} {Q : Exit -> St -> Prop} {st : St} {L : List GOp} {d : Option Tmp} {ty : TypeId} {K : St -> Prop}
def SlotLike : Slot -> Slot -> Prop
 | _, .dead => True
 | .live o, .live o' => o'.ver = o.ver /\ o'.elem = o.elem /\ o'.sz = o.sz /\ o'.n = o.n
 | .mp _ _, .mp _ _ => True
 | _, _ => False
def Nx (H : Heap) : Prop := ∀ id : Id, H.next <= id.k -> H.slot id = .unborn
def AObj.list {α : Type} (e sz : Nat) (d : α) (g : α -> Nat -> V) (l : List α) : AObj := { elem := e, sz := sz, ver := 0, n := l.length, get := fun i j => g (l.getD i d) j }
def AObj.ints (l : List Int) (e : Nat) : AObj := AObj.list e 1 0 (fun a _ => .t (.int .i64 a)) l
theorem getD_append_left {α : Type} {d : α} {l m : List α} {i : Nat} (h : i < l.length) : (l ++ m).getD i d = l.getD i d := by
 simp [List.getD_eq_getElem?_getD, List.getElem?_append_left h]
end Go.Abs
namespace Go.Abs
open Go
def FZ (H : Heap) (ι : Id -> Option Nat) (Z : Id -> Prop) (F : Nat -> Prop) (b : Nat) : Prop := F b \/ ∃ i, Z i /\ (H.slot i).is /\ ι i = some b
def mι (m : Id -> Option Id) (ι : Id -> Option Nat) : Id -> Option Nat := fun i => match m i with
 | some x => ι x
 | none => none
theorem mι_some {m : Id -> Option Id} {ι : Id -> Option Nat} {i x : Id} (h : m i = some x) : mι m ι i = ι x := by unfold mι; rw [h]
theorem mι_none {m : Id -> Option Id} {ι : Id -> Option Nat} {i : Id} (h : m i = none) : mι m ι i = none := by unfold mι; rw [h]
theorem mι_out {m : Id -> Option Id} {ι : Id -> Option Nat} {i : Id} {b : Nat} (h : mι m ι i = some b) : ∃ x, m i = some x /\ ι x = some b := by
 unfold mι at h
 cases hm : m i with
 | none => rw [hm] at h; cases h
 | some x => rw [hm] at h; exact ⟨x, rfl, h⟩
def KG (H H' : Heap) (m : Id -> Option Id) (Z : Id -> Prop) (u u' : V) : Prop := ∀ E ι F w v, RelH E ι F H w -> VRel H ι F w u v -> VRel H' (mι m ι) (FZ H ι Z F) w u' v
structure Gen (H H' : Heap) (m : Id -> Option Id) (Z : Id -> Prop) : Prop where
 lo : H'.lo = H.lo
 next : Nx H'
 obj : ∀ i o', H'.slot i = .live o' -> (m i = none /\ o'.n = 0) \/ ∃ x o, m i = some x /\ H.slot x = .live o /\ ¬ Z x /\ o'.elem = o.elem /\ o'.sz = o.sz /\ o'.n <= o.n /\ ∀ r, r < o'.n -> ∀ c, c < o'.sz -> KG H H' m Z (o.get r c) (o'.get r c)
 mp : ∀ i s g', H'.slot i = .mp s g' -> ∃ x g, m i = some x /\ H.slot x = .mp s g /\ ¬ Z x /\ ∀ k, (g k = none /\ g' k = none) \/ ∃ u u', g k = some u /\ g' k = some u' /\ KG H H' m Z u u'
 inj : ∀ i j x, (H'.slot i).is -> (H'.slot j).is -> m i = some x -> m j = some x -> i = j
 low : ∀ i : Id, i.k < H.lo -> i.p = [] -> H.slot i = .unborn \/ H'.slot i = .dead \/ (m i = some i /\ SlotLike (H.slot i) (H'.slot i))
theorem Gen.ext {E : Env} {ι : Id -> Option Nat} {F : Nat -> Prop} {H H' : Heap} {m : Id -> Option Id} {Z : Id -> Prop} {w : World} (r : RelH E ι F H w) (k : Gen H H' m Z) :
  Ext E.H0 E.ι0 E.F0 E.w0 H' (mι m ι) (FZ H ι Z F) w := by
 have hF : ∀ b, F b -> FZ H ι Z F b := fun b h => .inl h
 have low : ∀ id, E.H0.slot id ≠ .unborn -> H.slot id = .unborn \/ H'.slot id = .dead \/ (m id = some id /\ SlotLike (H.slot id) (H'.slot id)) := fun id h =>
  k.low id (Nat.lt_of_not_le fun hle => h (r.lo id (.inl hle))) (Classical.byContradiction fun hp => h (r.lo id (.inr hp)))
 have key : ∀ u v, VRel E.H0 E.ι0 E.F0 E.w0 u v -> VRel H ι F w u v -> VRel H' (mι m ι) (FZ H ι Z F) w u v := by
  intro u
  induction u with
  | ptr id ver rr c =>
   rintro v ⟨_, h0⟩ ⟨h1, h2⟩
   refine ⟨h1, ?_⟩
   rcases low id (fun e => by rw [e] at h0; exact h0) with hu | hd | ⟨hm, hl⟩
   ·rw [hu] at h2; exact h2.elim
   ·rw [hd]; trivial
   ·cases hs' : H'.slot id with
    | dead => trivial
    | unborn => rw [hs'] at hl; cases hs : H.slot id <;> rw [hs] at hl <;> exact hl.elim
    | mp s g => trivial
    | live o' =>
     rw [hs'] at hl
     cases hs : H.slot id with
     | live o =>
      rw [hs] at hl h2
      obtain ⟨a, b, c, d⟩ := hl
      simp only [mι_some hm] at h2 ⊢
      rw [a, c]; exact h2
     | unborn => rw [hs] at hl; exact hl.elim
     | dead => rw [hs] at hl; exact hl.elim
     | mp _ _ => rw [hs] at hl; exact hl.elim
  | sref id ver rr len =>
   rintro v ⟨_, h0⟩ ⟨h1, h2⟩
   refine ⟨h1, ?_⟩
   rcases low id (fun e => by rw [e] at h0; exact h0) with hu | hd | ⟨hm, hl⟩
   ·rw [hu] at h2; exact h2.elim
   ·rw [hd]; trivial
   ·cases hs' : H'.slot id with
    | dead => trivial
    | unborn => rw [hs'] at hl; cases hs : H.slot id <;> rw [hs] at hl <;> exact hl.elim
    | mp s g => trivial
    | live o' =>
     rw [hs'] at hl
     cases hs : H.slot id with
     | live o =>
      rw [hs] at hl h2
      obtain ⟨a, b, c, d⟩ := hl
      simp only [mι_some hm] at h2 ⊢
      rw [a, b, c, d]; exact h2
     | unborn => rw [hs] at hl; exact hl.elim
     | dead => rw [hs] at hl; exact hl.elim
     | mp _ _ => rw [hs] at hl; exact hl.elim
  | mref id =>
   rintro v ⟨_, h0⟩ ⟨h1, h2⟩
   refine ⟨h1, ?_⟩
   rcases low id (fun e => by rw [e] at h0; exact h0) with hu | hd | ⟨hm, hl⟩
   ·rw [hu] at h2; exact h2.elim
   ·rw [hd]; trivial
   ·cases hs' : H'.slot id with
    | dead => trivial
    | unborn => rw [hs'] at hl; cases hs : H.slot id <;> rw [hs] at hl <;> exact hl.elim
    | live o' => trivial
    | mp s g =>
     rw [hs'] at hl
     cases hs : H.slot id with
     | mp _ _ => rw [hs] at h2; simp only [mι_some hm]; exact h2
     | unborn => rw [hs] at hl; exact hl.elim
     | dead => rw [hs] at hl; exact hl.elim
     | live _ => rw [hs] at hl; exact hl.elim
  | fn f n cap ih =>
   rintro v ⟨cs, h1, h2, h3⟩ ⟨cs', h1', h2', h3'⟩
   rw [h1] at h1'
   injection h1' with _ _ h1'; subst h1'
   refine ⟨cs, h1, h2, fun j hj => ?_⟩
   obtain ⟨c, a, b⟩ := h3 j hj
   obtain ⟨c', a', b'⟩ := h3' j hj
   rw [a] at a'; injection a' with a'; subst a'
   exact ⟨c, a, ih j _ b b'⟩
  | agg n get ih =>
   rintro v ⟨cs, h1, h2, h3⟩ ⟨cs', h1', h2', h3'⟩
   rw [h1] at h1'
   injection h1' with h1'; subst h1'
   refine ⟨cs, h1, h2, fun j hj => ?_⟩
   obtain ⟨c, a, p, b⟩ := h3 j hj
   obtain ⟨c', a', p', b'⟩ := h3' j hj
   rw [a] at a'; injection a' with a'; subst a'
   exact ⟨c, a, p, ih j _ b b'⟩
  | tup n get ih =>
   rintro v ⟨cs, h1, h2, h3⟩ ⟨cs', h1', h2', h3'⟩
   rw [h1] at h1'
   injection h1' with h1'; subst h1'
   refine ⟨cs, h1, h2, fun j hj => ?_⟩
   obtain ⟨c, a, b⟩ := h3 j hj
   obtain ⟨c', a', b'⟩ := h3' j hj
   rw [a] at a'; injection a' with a'; subst a'
   exact ⟨c, a, ih j _ b b'⟩
  | un => exact fun _ _ _ => trivial
  | und => exact fun _ _ h => h
  | t x => exact fun _ _ h => Reads.mono hF (fun _ _ => rfl) _ _ h
  | nils => exact fun _ _ h => h
  | nilp => exact fun _ _ h => h
  | nilm => exact fun _ _ h => h
  | nilf => exact fun _ _ h => h
  | fp m g =>
   rintro v _ ⟨b, o, h1, h2, h3⟩
   exact ⟨b, o, h1, hF b h2, fun j hj => by obtain ⟨c, a, b⟩ := h3 j hj; exact ⟨c, a, Reads.mono hF (fun _ _ => rfl) _ _ b⟩⟩
 exact fun u v h => key u v h (r.ext u v h)
theorem Gen.rel {E : Env} {ι : Id -> Option Nat} {F : Nat -> Prop} {H H' : Heap} {m : Id -> Option Id} {Z : Id -> Prop} {w : World} (r : RelH E ι F H w) (k : Gen H H' m Z) :
  RelH E (mι m ι) (FZ H ι Z F) H' w := by
 have is : ∀ id b, (H'.slot id).is -> mι m ι id = some b -> ∃ x, m id = some x /\ ι x = some b /\ (H.slot x).is /\ ¬ Z x := fun id b h hb => by
  obtain ⟨x, hx, hxb⟩ := mι_out hb
  cases hs : H'.slot id with
  | live o' =>
   rcases k.obj id o' hs with ⟨h1, _⟩ | ⟨y, o, hy, ho, hz, _⟩
   ·rw [h1] at hx; cases hx
   ·rw [hy] at hx; injection hx with hx; subst hx; exact ⟨y, hy, hxb, by rw [ho]; trivial, hz⟩
  | mp s g => obtain ⟨y, g', hy, ho, hz, _⟩ := k.mp id s g hs; rw [hy] at hx; injection hx with hx; subst hx; exact ⟨y, hy, hxb, by rw [ho]; trivial, hz⟩
  | unborn => rw [hs] at h; exact h.elim
  | dead => rw [hs] at h; exact h.elim
 refine ⟨r.os, r.tape, r.output, r.size, r.kept, fun id o' h => ?_, fun id s g h => ?_, fun i j b h h' hi hj => ?_,
  fun i b h hi => ?_, fun i b h hi => ?_, fun i b h hi => ?_, fun b hb => ?_, fun b hb => ?_, k.next, Gen.ext r k, by rw [k.lo]; exact r.lo⟩
 ·rcases k.obj id o' h with ⟨h1, h2⟩ | ⟨x, o, hm, ho, hz, he, hs, hn, hg⟩
  ·refine ⟨by rw [h2]; exact Nat.zero_le _, ?_⟩
   rw [mι_none h1]; exact h2
  ·obtain ⟨h1, h2⟩ := r.obj _ o ho
   refine ⟨Nat.le_trans hn h1, ?_⟩
   rw [mι_some hm]
   cases hk : ι x with
   | none => rw [hk] at h2; have h2 : o.n = 0 := h2; show o'.n = 0; omega
   | some b =>
    rw [hk] at h2
    obtain ⟨cur, g1, g2, g3⟩ := h2
    dsimp only
    rw [he, hs]
    exact ⟨cur, g1, Nat.le_trans (Nat.mul_le_mul_right _ hn) g2, fun i hi j hj => by obtain ⟨c, a, b, d⟩ := g3 i (by omega) j hj; exact ⟨c, a, b, hg i hi j (by omega) _ _ _ _ _ r d⟩⟩
 ·obtain ⟨x, g', hm, hg, hz, hk⟩ := k.mp id s g h
  obtain ⟨b, es, clock, g1, g2, g3, g4⟩ := r.mapo _ s g' hg
  refine ⟨b, es, clock, (mι_some hm).trans g1, g2, g3, fun key hkey => ?_⟩
  have := g4 key hkey
  rcases hk key with ⟨e1, e2⟩ | ⟨u, u', e1, e2, e3⟩
  ·rw [e1] at this; rw [e2]; exact this
  ·rw [e1] at this; rw [e2]
   obtain ⟨n, e, a, b, c⟩ := this
   exact ⟨n, e, a, b, e3 _ _ _ _ _ r c⟩
 ·obtain ⟨x, hx1, hx2, hx3, _⟩ := is i b h hi
  obtain ⟨y, hy1, hy2, hy3, _⟩ := is j b h' hj
  obtain rfl := r.inj x y b hx3 hy3 hx2 hy2
  exact k.inj i j x h h' hx1 hy1
 ·obtain ⟨x, hx1, hx2, hx3, hx4⟩ := is i b h hi
  rintro (hf | ⟨j, hz, hj, hb⟩)
  ·exact r.nofr _ b hx3 hx2 hf
  ·exact hx4 (by rw [r.inj _ _ b hx3 hj hx2 hb]; exact hz)
 ·obtain ⟨x, hx1, hx2, hx3, hx4⟩ := is i b h hi
  exact r.own _ b hx3 hx2
 ·obtain ⟨x, hx1, hx2, hx3, hx4⟩ := is i b h hi
  exact r.lt _ b hx3 hx2
 ·rcases hb with hf | ⟨j, hz, hj, hb⟩
  ·exact r.frlt b hf
  ·exact r.lt j b hj hb
 ·rcases hb with hf | ⟨j, hz, hj, hb⟩
  ·exact r.frin b hf
  ·rcases r.own j b hj hb with h | h
   ·exact .inr (.inl h)
   ·exact .inr (.inr h)
theorem Weak.gen {st st' : St} (m : Id -> Option Id) (Z : Id -> Prop) (hn : st'.nt = st.nt) (k : Gen st.heap st'.heap m Z) (he : ∀ t, KG st.heap st'.heap m Z (st.env t) (st'.env t)) : Weak st st' := fun E ι F a w r =>
 ⟨_, _, ⟨Gen.rel r.h k, fun t => he t _ _ _ _ _ r.h (r.env t), r.nt.trans hn.symm, r.defers⟩⟩
section
variable {H H' : Heap} {m : Id -> Option Id} {Z : Id -> Prop}
theorem KG.un {u : V} : KG H H' m Z u .un := fun _ _ _ _ _ _ _ => trivial
theorem KG.und : KG H H' m Z .und .und := fun _ _ _ _ _ _ h => h
theorem KG.t (x : T) : KG H H' m Z (.t x) (.t x) := fun _ _ _ _ _ _ h => Reads.mono (fun _ h => .inl h) (fun _ _ => rfl) _ _ h
theorem KG.nils : KG H H' m Z .nils .nils := fun _ _ _ _ _ _ h => h
theorem KG.nilp : KG H H' m Z .nilp .nilp := fun _ _ _ _ _ _ h => h
theorem KG.nilm : KG H H' m Z .nilm .nilm := fun _ _ _ _ _ _ h => h
theorem KG.nilf : KG H H' m Z .nilf .nilf := fun _ _ _ _ _ _ h => h
theorem KG.fp {n : Nat} {g : Nat -> T} : KG H H' m Z (.fp n g) (.fp n g) := fun _ _ _ _ _ _ ⟨b, o, h1, h2, h3⟩ =>
 ⟨b, o, h1, .inl h2, fun j hj => by obtain ⟨c, a, b⟩ := h3 j hj; exact ⟨c, a, Reads.mono (fun _ h => .inl h) (fun _ _ => rfl) _ _ b⟩⟩
theorem KG.agg {n : Nat} {g g' : Nat -> V} (h : ∀ j, j < n -> KG H H' m Z (g j) (g' j)) : KG H H' m Z (.agg n g) (.agg n g') := fun E ι F w v r ⟨cs, h1, h2, h3⟩ =>
 ⟨cs, h1, h2, fun j hj => by obtain ⟨c, a, p, b⟩ := h3 j hj; exact ⟨c, a, p, h j hj _ _ _ _ _ r b⟩⟩
theorem KG.tup {n : Nat} {g g' : Nat -> V} (h : ∀ j, j < n -> KG H H' m Z (g j) (g' j)) : KG H H' m Z (.tup n g) (.tup n g') := fun E ι F w v r ⟨cs, h1, h2, h3⟩ =>
 ⟨cs, h1, h2, fun j hj => by obtain ⟨c, a, b⟩ := h3 j hj; exact ⟨c, a, h j hj _ _ _ _ _ r b⟩⟩
theorem KG.fn {f : FuncId} {n : Nat} {g g' : Nat -> V} (h : ∀ j, j < n -> KG H H' m Z (g j) (g' j)) : KG H H' m Z (.fn f n g) (.fn f n g') := fun E ι F w v r ⟨cs, h1, h2, h3⟩ =>
 ⟨cs, h1, h2, fun j hj => by obtain ⟨c, a, b⟩ := h3 j hj; exact ⟨c, a, h j hj _ _ _ _ _ r b⟩⟩
theorem KG.sref {i j : Id} {ver ver' r len : Nat} {o o' : AObj} (h : H.slot i = .live o) (h' : H'.slot j = .live o') (hm : m j = some i) (hv : ver = o.ver) (hv' : ver' = o'.ver) (hz : o'.sz = o.sz) (he : o'.elem = o.elem) (hn : r + len <= o'.n) :
  KG H H' m Z (.sref i ver r len) (.sref j ver' r len) := fun E ι F w v _ ⟨h0, h1⟩ => by
 rw [h] at h1
 refine ⟨h0, ?_⟩
 rw [h']
 refine ⟨Nat.le_of_eq hv', fun _ => ⟨hn, ?_⟩⟩
 rw [mι_some hm, hz, he]; exact (h1.2 hv).2
theorem KG.virt {j : Id} {ver' : Nat} {o' : AObj} (h' : H'.slot j = .live o') (hv' : ver' = o'.ver) : KG H H' m Z .nils (.sref j ver' 0 0) := fun E ι F w v _ h => by
 have h : v = .slice none 0 0 := h
 subst h
 refine ⟨rfl, ?_⟩
 rw [h']
 exact ⟨Nat.le_of_eq hv', fun _ => ⟨Nat.zero_le _, none, 0, rfl, Nat.le_refl _, fun h => absurd h (Nat.lt_irrefl _)⟩⟩
theorem KG.of_wk {u u1 u' : V} (h : KG H H' m Z u u1) (k : ∀ H ι F w c, VRel H ι F w u1 c -> VRel H ι F w u' c) : KG H H' m Z u u' := fun E ι F w v r hv => k _ _ _ _ _ (h E ι F w v r hv)
theorem KG.of_wk' {u u1 u' : V} (k : ∀ H ι F w c, VRel H ι F w u c -> VRel H ι F w u1 c) (h : KG H H' m Z u1 u') : KG H H' m Z u u' := fun E ι F w v r hv => h E ι F w v r (k _ _ _ _ _ hv)
end
end Go.Abs
namespace Go.Abs
open Go
variable {P : Program} {Q : Exit -> St -> Prop} {st : St} {L : List GOp} {d : Option Tmp} {ty : TypeId} {K : St -> Prop}
structure TyC where
 agg : Bool := false
 sz : Nat := 0
 fields : List (Nat × Bool × Nat) := []
 sl : Option (TypeId × Nat × Nat) := none
 desc : Option TypeDesc := none
 zero : Option Value := none
def nth {α : Type} : List α -> Nat -> Option α
 | [], _ => none
 | a :: _, 0 => some a
 | _ :: l, n + 1 => nth l n
structure TyC.Ok (P : Program) (t : TypeId) (c : TyC) : Prop where
 sz : Nat.blt 0 c.sz = true -> TySz P t c.agg c.sz
 fld : ∀ f off a s, nth c.fields f = some (off, a, s) -> TyField P t f off a s
 sl : ∀ e s b, c.sl = some (e, s, b) -> TySlice P t e s b
 desc : ∀ x, c.desc = some x -> TyDesc P t x
 zero : ∀ v, c.zero = some v -> TyZero P t v
class Tys (P : Program) where
 c : TypeId -> TyC
 ok : ∀ t, TyC.Ok P t (c t)
def kindEq : IntKind -> IntKind -> Bool
 | .i8, .i8 => true
 | .i16, .i16 => true
 | .i32, .i32 => true
 | .i64, .i64 => true
 | .u8, .u8 => true
 | .u16, .u16 => true
 | .u32, .u32 => true
 | .u64, .u64 => true
 | _, _ => false
theorem kindEq_eq {a b : IntKind} (h : kindEq a b = true) : a = b := by cases a <;> cases b <;> first | rfl | cases h
def strAt (s : ByteArray) (i : Nat) : Int := ((s.data.toList.getD i 0).toNat : Int)
theorem O.min' {ats : Array TypeId} {x y : Operand} {k : IntKind} {m n : Int} (hx : st.eval x = .t (.int k m)) (hy : st.eval y = .t (.int k n)) :
  QV P ⟨d, .call { callee := .builtin .min, args := #[x, y], argTypes := ats }, ty, none⟩ (.t (.int k (if n < m then n else m))) st := fun E ι F a w r =>
 ⟨_, by simp [execOp, GOp.oper, resolve, invoke, builtin, Builtin.min_, Builtin.min2, int_eval r hx, int_eval r hy], rfl⟩
theorem O.max' {ats : Array TypeId} {x y : Operand} {k : IntKind} {m n : Int} (hx : st.eval x = .t (.int k m)) (hy : st.eval y = .t (.int k n)) :
  QV P ⟨d, .call { callee := .builtin .max, args := #[x, y], argTypes := ats }, ty, none⟩ (.t (.int k (if n > m then n else m))) st := fun E ι F a w r =>
 ⟨_, by simp [execOp, GOp.oper, resolve, invoke, builtin, Builtin.max_, Builtin.max2, int_eval r hx, int_eval r hy], rfl⟩
theorem str_eval' {E : Env} {ι : Id -> Option Nat} {F : Nat -> Prop} {a : Act} {w : World} (r : Rel E ι F st a w) {x : Operand} {s : ByteArray} (h : st.eval x = .t (.str s)) : a.eval x = .string s := by
 have := r.eval x
 rw [h] at this
 exact this.1
theorem O.eqlB' {tx tY : TypeId} [ht : TyDesc P tx .bool] {x y : Operand} {m n : Bool} (hx : st.eval x = .t (.bool m)) (hy : st.eval y = .t (.bool n)) : QV P ⟨d, .binOp .eql tx x y tY, ty, none⟩ (.t (.bool (m == n))) st := fun E ι F a w r => by
 refine ⟨.bool (m == n), ?_, rfl⟩
 have hg : (eqGuard .eql tx x y (.bool m) (.bool n)).run P w = .ok () w := by unfold eqGuard; rfl
 simp [execOp, GOp.oper, bool_eval r hx, bool_eval r hy, hg, run_eql_bool w _ _ _ ht.d]
theorem O.neqB' {tx tY : TypeId} [ht : TyDesc P tx .bool] {x y : Operand} {m n : Bool} (hx : st.eval x = .t (.bool m)) (hy : st.eval y = .t (.bool n)) : QV P ⟨d, .binOp .neq tx x y tY, ty, none⟩ (.t (.bool (!(m == n)))) st := fun E ι F a w r => by
 refine ⟨.bool (!(m == n)), ?_, rfl⟩
 have hg : (eqGuard .neq tx x y (.bool m) (.bool n)).run P w = .ok () w := by unfold eqGuard; rfl
 simp [execOp, GOp.oper, bool_eval r hx, bool_eval r hy, hg, run_neq_bool w _ _ _ ht.d]
theorem O.eqlStr' {tx tY : TypeId} {x y : Operand} {m n : ByteArray} (hx : st.eval x = .t (.str m)) (hy : st.eval y = .t (.str n)) : QV P ⟨d, .binOp .eql tx x y tY, ty, none⟩ (.t (.bool (m.toList == n.toList))) st := fun E ι F a w r => by
 refine ⟨.bool (m.toList == n.toList), ?_, rfl⟩
 have hg : (eqGuard .eql tx x y (.string m) (.string n)).run P w = .ok () w := by unfold eqGuard; rfl
 simp [execOp, GOp.oper, str_eval' r hx, str_eval' r hy, hg, binOp_string_eql]
theorem O.neqStr' {tx tY : TypeId} {x y : Operand} {m n : ByteArray} (hx : st.eval x = .t (.str m)) (hy : st.eval y = .t (.str n)) : QV P ⟨d, .binOp .neq tx x y tY, ty, none⟩ (.t (.bool (!(m.toList == n.toList)))) st := fun E ι F a w r => by
 refine ⟨.bool (!(m.toList == n.toList)), ?_, rfl⟩
 have hg : (eqGuard .neq tx x y (.string m) (.string n)).run P w = .ok () w := by unfold eqGuard; rfl
 simp [execOp, GOp.oper, str_eval' r hx, str_eval' r hy, hg, binOp_string_neq]
theorem strAt_eq {s : ByteArray} {i : Nat} (h : i < s.size) : ((s[i]'h).toNat : Int) = strAt s i := by
 have hs : i < s.data.toList.length := by simpa using h
 have : s.data.toList.getD i 0 = s[i] := by
  rw [List.getD_eq_getElem?_getD, List.getElem?_eq_getElem hs]; rfl
 rw [strAt, this]
theorem TySz.of' [T : Tys P] {t : TypeId} {a : Bool} (h : Nat.blt 0 (Tys.c P t).sz = true) (e : (Tys.c P t).agg = a) : TySz P t a (Tys.c P t).sz := e ▸ (T.ok t).sz h
theorem natBeq {a b : Nat} (h : Nat.beq a b = true) : a = b := Nat.eq_of_beq_eq_true h
theorem toList_eq {α : Type} {a : Array α} {l : List α} (h : a.toList = l) : a = l.toArray := by subst h; simp
end Go.Abs
namespace Go.Abs
open Go
variable {P : Program} {Q : Exit -> St -> Prop} {st : St} {L : List GOp} {d : Option Tmp} {ty : TypeId} {K : St -> Prop}
def isPureOp : Op -> Bool
 | .move _ => true
 | .assign _ => true
 | .pick _ _ _ => true
 | .load _ _ => true
 | .fieldAddr _ _ _ => true
 | .indexAddr _ _ _ => true
 | .binOp _ _ _ _ _ => true
 | .unOp _ _ _ => true
 | .convert _ _ _ => true
 | .extract _ _ => true
 | .nilCheck _ => true
 | .field _ _ _ => true
 | .index _ _ _ => true
 | .call c => match c.callee with
  | .builtin .len => true
  | .builtin .min => true
  | .builtin .max => true
  | _ => false
 | _ => false
def FldAll (P : Program) (t : TypeId) : List (Nat × Bool × Nat) -> Nat -> Prop
 | [], _ => True
 | (off, a, s) :: l, i => TyField P t i off a s /\ FldAll P t l (i + 1)
theorem fldAll_at {P : Program} {t : TypeId} : ∀ {l : List (Nat × Bool × Nat)} {i : Nat}, FldAll P t l i -> ∀ f off a s, nth l f = some (off, a, s) -> TyField P t (i + f) off a s
 | [], i, h, f, off, a, s, hn => by cases hn
 | x :: l, i, h, 0, off, a, s, hn => by cases hn; exact h.1
 | x :: l, i, h, f + 1, off, a, s, hn => by
  have := fldAll_at h.2 f off a s hn
  rwa [show i + (f + 1) = i + 1 + f by omega]
theorem fldAll {P : Program} {t : TypeId} {l : List (Nat × Bool × Nat)} (h : FldAll P t l 0) (f off : Nat) (a : Bool) (s : Nat) (hn : nth l f = some (off, a, s)) : TyField P t f off a s := by
 have := fldAll_at h f off a s hn
 rwa [Nat.zero_add] at this
theorem okNode {P : Program} {t : TypeId} {b : Bool} {x y : TyC} (h1 : TyC.Ok P t x) (h2 : TyC.Ok P t y) : TyC.Ok P t (bif b then x else y) := by cases b <;> assumption
theorem okLeaf {P : Program} {t n : TypeId} {x : TyC} (h : TyC.Ok P n x) : TyC.Ok P t (bif Nat.beq t n then x else {}) := by
 cases hb : Nat.beq t n with
 | true => obtain rfl := Nat.eq_of_beq_eq_true hb; exact h
 | false => exact ⟨fun h => (by cases h), fun f off a s h => (by cases h), fun e s b h => (by cases h), fun x h => (by cases h), fun v h => (by cases h)⟩
end Go.Abs
set_option linter.unusedSectionVars false
namespace Go.Abs
open Go
def Wk (u u' : V) : Prop := ∀ H ι F w c, VRel H ι F w u c -> VRel H ι F w u' c
theorem Wk.refl (u : V) : Wk u u := fun _ _ _ _ _ h => h
theorem Wk.of_eq {u u' : V} (h : u = u') : Wk u u' := h ▸ Wk.refl u
theorem Wk.trans {a b c : V} (h : Wk a b) (k : Wk b c) : Wk a c := fun H ι F w x hx => k H ι F w x (h H ι F w x hx)
theorem Wk.un (u : V) : Wk u .un := fun _ _ _ _ _ _ => trivial
theorem Wk.nils (sz : Nat) (g : Nat -> Nat -> T) : Wk .nils (.t (.sl sz 0 g)) := fun H ι F w c h => ⟨Option.none, 0, h, Nat.le_refl _, by simp [LEN], fun h => absurd h (Nat.lt_irrefl _)⟩
theorem Wk.agg {n : Nat} {g g' : Nat -> V} (h : ∀ j, j < n -> Wk (g j) (g' j)) : Wk (.agg n g) (.agg n g') := fun H ι F w c ⟨cs, h1, h2, h3⟩ =>
 ⟨cs, h1, h2, fun j hj => by obtain ⟨c, a, p, b⟩ := h3 j hj; exact ⟨c, a, p, h j hj H ι F w c b⟩⟩
theorem Wk.fp {m m' : Nat} {g g' : Nat -> T} (hm : m' <= m) (h : ∀ j, j < m' -> g' j = g j) : Wk (.fp m g) (.fp m' g') := fun H ι F w c ⟨b, o, h1, h2, h3⟩ =>
 ⟨b, o, h1, h2, fun j hj => by rw [h j hj]; exact h3 j (by omega)⟩
inductive Ty where
 | bool
 | int (k : IntKind)
 | str
 | st (i : Nat)
 | sl (e : Ty)
 | ol (t : TypeId) (e : Ty)
deriving DecidableEq
class SU where
 D : Nat -> Type
 z : (i : Nat) -> D i
 sz : Nat -> Nat
 enc : (i : Nat) -> D i -> Nat -> T
section
variable [SU]
@[reducible] def Ty.D : Ty -> Type
 | .bool => Bool
 | .int _ => Int
 | .str => ByteArray
 | .st i => SU.D i
 | .sl e => List e.D
 | .ol _ e => List e.D
def Ty.z : (τ : Ty) -> τ.D
 | .bool => false
 | .int _ => (0 : Int)
 | .str => ByteArray.empty
 | .st i => SU.z i
 | .sl _ => []
 | .ol _ _ => []
def Ty.sz : Ty -> Nat
 | .st i => SU.sz i
 | _ => 1
def Ty.isSt : Ty -> Bool
 | .st _ => true
 | _ => false
def encC : (τ : Ty) -> τ.D -> Nat -> T
 | .bool, x, _ => .bool x
 | .int k, x, _ => .int k x
 | .str, x, _ => .str x
 | .st i, x, c => SU.enc i x c
 | .sl e, l, _ => .sl e.sz (List.length (α := e.D) l) (fun r c => encC e (List.getD (α := e.D) l r e.z) c)
 | .ol _ e, l, _ => .sl e.sz (List.length (α := e.D) l) (fun r c => encC e (List.getD (α := e.D) l r e.z) c)
def encL (e : Ty) (l : List e.D) : T := .sl e.sz l.length (fun r c => encC e (l.getD r e.z) c)
def castN : (D : Nat -> Type) -> (i j : Nat) -> D i -> Option (D j)
 | _, 0, 0, x => some x
 | D, i + 1, j + 1, x => castN (fun n => D (n + 1)) i j x
 | _, _, _, _ => none
theorem castN_ok : ∀ (D : Nat -> Type) (i j : Nat) (x : D i) (y : D j), castN D i j x = some y -> i = j /\ HEq x y
 | _, 0, 0, x, y, h => by injection h with h; subst h; exact ⟨rfl, HEq.rfl⟩
 | D, i + 1, j + 1, x, y, h => by
  obtain ⟨h1, h2⟩ := castN_ok (fun n => D (n + 1)) i j x y h
  exact ⟨by rw [h1], h2⟩
 | _, 0, j + 1, x, y, h => by cases h
 | _, i + 1, 0, x, y, h => by cases h
def castF : (F : Type -> Type) -> (τ τ' : Ty) -> F τ.D -> Option (F τ'.D)
 | _, .bool, .bool, x => some x
 | _, .int k, .int k', x => bif kindEq k k' then some x else none
 | _, .str, .str, x => some x
 | F, .st i, .st j, x => castN (fun i => F (SU.D i)) i j x
 | F, .sl e, .sl e', x => castF (fun X => F (List X)) e e' x
 | F, .ol t e, .ol t' e', x => bif Nat.beq t t' then castF (fun X => F (List X)) e e' x else none
 | _, _, _, _ => none
theorem castF_ok : ∀ (F : Type -> Type) (τ τ' : Ty) (x : F τ.D) (y : F τ'.D), castF F τ τ' x = some y -> τ = τ' /\ HEq x y
 | F, τ, τ', x, y, h => by
  cases τ <;> cases τ' <;> simp only [castF] at h <;> try (cases h; done)
  ·injection h with h; subst h; exact ⟨rfl, HEq.rfl⟩
  ·rename_i k k'
   cases hk : kindEq k k' with
   | false => rw [hk] at h; cases h
   | true =>
    have := kindEq_eq hk
    subst this
    rw [hk] at h
    injection h with h; subst h; exact ⟨rfl, HEq.rfl⟩
  ·injection h with h; subst h; exact ⟨rfl, HEq.rfl⟩
  ·rename_i i j
   obtain ⟨rfl, h2⟩ := castN_ok _ _ _ _ _ h
   exact ⟨rfl, h2⟩
  ·rename_i e e'
   obtain ⟨rfl, h2⟩ := castF_ok _ _ _ _ _ h
   exact ⟨rfl, h2⟩
  ·rename_i t e t' e'
   cases hb : Nat.beq t t' with
   | false => rw [hb] at h; cases h
   | true =>
    rw [hb] at h
    obtain rfl := Nat.eq_of_beq_eq_true hb
    obtain ⟨rfl, h2⟩ := castF_ok _ _ _ _ _ h
    exact ⟨rfl, h2⟩
theorem castL_ok {τ τ' : Ty} {x : List τ.D} {y : List τ'.D} (h : castF List τ τ' x = some y) : τ = τ' /\ HEq x y := castF_ok List τ τ' x y h
theorem castI_ok {τ τ' : Ty} {x : τ.D} {y : τ'.D} (h : castF (fun X => X) τ τ' x = some y) : τ = τ' /\ HEq x y := castF_ok (fun X => X) τ τ' x y h
inductive EV where
 | un
 | und
 | b (x : Bool)
 | i (k : IntKind) (n : Int)
 | s (x : ByteArray)
 | fz (τ : Ty) (l : List τ.D)
 | fp (τ : Ty) (x : τ.D) (c : Nat)
 | st (i : Nat) (x : SU.D i)
 | ptr (id : Nat) (p : List Nat) (r c : Nat)
 | sref (id : Nat) (p : List Nat) (r n : Nat)
 | sfull (id : Nat) (p : List Nat)
 | nils
 | nilp
 | nilm
 | nilf
 | nili
 | mref (id : Nat)
 | agg (l : List EV)
 | tup (l : List EV)
 | fn (f : FuncId) (l : List EV)
abbrev Len := Nat -> List Nat -> Option Nat
mutual
def toV (len : Len) : EV -> V
 | .un => .un
 | .und => .und
 | .b x => .t (.bool x)
 | .i k n => .t (.int k n)
 | .s x => .t (.str x)
 | .fz τ l => .t (encL τ l)
 | .fp τ x c => .fp (τ.sz - c) (fun j => encC τ x (j + c))
 | .st i x => .agg (SU.sz i) (fun j => .t (SU.enc i x j))
 | .ptr id p r c => .ptr ⟨id, p⟩ 0 r c
 | .sref id p r n => .sref ⟨id, p⟩ 0 r n
 | .sfull id p => match len id p with
  | some n => .sref ⟨id, p⟩ 0 0 n
  | none => .sref ⟨id, p⟩ 0 0 0
 | .nils => .nils
 | .nilp => .nilp
 | .nilm => .nilm
 | .nilf => .nilf
 | .nili => .t .nilI
 | .mref id => .mref ⟨id, []⟩
 | .agg l => .agg l.length (toVs len l)
 | .tup l => .tup l.length (toVs len l)
 | .fn f l => .fn f l.length (toVs len l)
def toVs (len : Len) : List EV -> Nat -> V
 | [], _ => .un
 | a :: _, 0 => toV len a
 | _ :: l, j + 1 => toVs len l j
end
theorem toVs_eq (len : Len) : ∀ (l : List EV) (j : Nat), toVs len l j = toV len (l.getD j .un)
 | [], j => by simp [toVs, toV]
 | a :: l, 0 => by simp [toVs]
 | a :: l, j + 1 => by simp only [toVs]; rw [toVs_eq len l j]; simp
def EV.dat : EV -> Bool
 | .un => true
 | .b _ => true
 | .i _ _ => true
 | .s _ => true
 | .fz _ _ => true
 | .nils => true
 | .nilp => true
 | .nilm => true
 | .nilf => true
 | .nili => true
 | _ => false
theorem EV.dat_len {u : EV} (h : u.dat = true) (len len' : Len) : toV len u = toV len' u := by
 cases u <;> first | (cases h; done) | (simp only [toV]; done)
inductive Cell where
 | ev (u : EV)
 | own (t : TypeId) (e : Ty) (l : List e.D)
end
class Codes [SU] where
 fro : Nat -> Bool
 cell : (i : Nat) -> SU.D i -> Nat -> Cell
 set : (i : Nat) -> SU.D i -> Nat -> EV -> Option (SU.D i)
 setK : (i : Nat) -> SU.D i -> Nat -> (t : TypeId) -> (e : Ty) -> List e.D -> Option (SU.D i)
 make : (i : Nat) -> List EV -> Option (SU.D i)
 cell_ok : ∀ i x j, fro i = true -> ∃ u, cell i x j = .ev u /\ (j < SU.sz i -> ∀ len, toV len u = .t (SU.enc i x j))
 set_ok : ∀ i x j v y, set i x j v = some y -> (∃ u0, cell i x j = .ev u0) /\ (∃ u, cell i y j = .ev u /\ ∀ len, Wk (toV len v) (toV len u)) /\ ∀ j', j' ≠ j -> cell i y j' = cell i x j'
 setK_ok : ∀ i x j t e l y, setK i x j t e l = some y -> (∃ l0, cell i x j = .own t e l0) /\ cell i y j = .own t e l /\ ∀ j', j' ≠ j -> cell i y j' = cell i x j'
 cell_dat : ∀ i x j u, cell i x j = .ev u -> u.dat = true
 z_own : ∀ i j t e l, cell i (SU.z i) j = .own t e l -> l = []
 make_ok : ∀ i l y, make i l = some y -> l.length = SU.sz i /\ ∀ j, j < SU.sz i -> ∃ u, cell i y j = .ev u /\ ∀ len, Wk (toVs len l j) (toV len u)
 ownT : Nat -> Nat -> Option (TypeId × Ty)
 ownG : (i : Nat) -> SU.D i -> Nat -> (e : Ty) -> Option (List e.D)
 ownS : (i : Nat) -> SU.D i -> Nat -> (t : TypeId) -> (e : Ty) -> List e.D -> Option (SU.D i)
 frzT : Nat -> Nat -> Option Ty
 frzG : (i : Nat) -> SU.D i -> Nat -> (e : Ty) -> Option (List e.D)
 ownG_ok : ∀ i x j t e l, ownT i j = some (t, e) -> ownG i x j e = some l -> cell i x j = .own t e l
 ownS_ok : ∀ i x j t e l y, ownS i x j t e l = some y -> cell i y j = .own t e l /\ ∀ j', j' ≠ j -> cell i y j' = cell i x j'
 ownS_K : ∀ i x j t e l0 t' e' l y, ownT i j = some (t, e) -> ownG i x j e = some l0 -> ownS i x j t' e' l = some y -> setK i x j t' e' l = some y
 frzG_ok : ∀ i x j e l, frzT i j = some e -> frzG i x j e = some l -> cell i x j = .ev (.fz e l)
 goneS : (i : Nat) -> SU.D i -> Nat -> Option (SU.D i)
 goneS_ok : ∀ i x j y, goneS i x j = some y -> cell i y j = .ev .un /\ ∀ j', j' ≠ j -> cell i y j' = cell i x j'
 upF : (i j : Nat) -> Option (SU.D i -> SU.D j)
 up_ok : ∀ i j f, upF i j = some f -> SU.sz j = SU.sz i /\ f (SU.z i) = SU.z j /\ ∀ x c, cell j (f x) c = cell i x c
section
variable [SU] [Codes]
def cellC : (τ : Ty) -> τ.D -> Nat -> Cell
 | .st i, x, c => Codes.cell i x c
 | .bool, x, 0 => .ev (.b x)
 | .int k, x, 0 => .ev (.i k x)
 | .str, x, 0 => .ev (.s x)
 | .sl e, l, 0 => .ev (.fz e l)
 | .ol t e, l, 0 => .own t e l
 | .bool, _, _ + 1 => .ev .un
 | .int _, _, _ + 1 => .ev .un
 | .str, _, _ + 1 => .ev .un
 | .sl _, _, _ + 1 => .ev .un
 | .ol _ _, _, _ + 1 => .ev .un
def froT : Ty -> Bool
 | .st i => Codes.fro i
 | .ol _ _ => false
 | _ => true
theorem cellC_enc : ∀ (τ : Ty) (x : τ.D) (c : Nat), froT τ = true -> ∃ u, cellC τ x c = .ev u /\ (c < τ.sz -> ∀ len, toV len u = .t (encC τ x c))
 | .bool, x, 0, _ => ⟨_, rfl, fun _ len => by simp only [toV, encC]⟩
 | .int k, x, 0, _ => ⟨_, rfl, fun _ len => by simp only [toV, encC]⟩
 | .str, x, 0, _ => ⟨_, rfl, fun _ len => by simp only [toV, encC]⟩
 | .st i, x, c, h => Codes.cell_ok i x c h
 | .sl e, l, 0, h => ⟨_, rfl, fun _ len => by simp only [toV, encC, encL]⟩
 | .bool, x, c + 1, _ => ⟨_, rfl, fun h => absurd h (by simp [Ty.sz])⟩
 | .int k, x, c + 1, _ => ⟨_, rfl, fun h => absurd h (by simp [Ty.sz])⟩
 | .str, x, c + 1, _ => ⟨_, rfl, fun h => absurd h (by simp [Ty.sz])⟩
 | .sl e, l, c + 1, _ => ⟨_, rfl, fun h => absurd h (by simp [Ty.sz])⟩
 | .ol _ _, _, _, h => by cases h
def setC : (τ : Ty) -> τ.D -> Nat -> EV -> Option τ.D
 | .st i, x, c, v => Codes.set i x c v
 | .bool, _, 0, .b y => some y
 | .int k, _, 0, .i k' n => bif kindEq k k' then some n else none
 | .str, _, 0, .s y => some y
 | .sl e, _, 0, .fz e' l => castF List e' e l
 | .sl e, _, 0, .nils => some []
 | _, _, _, _ => none
theorem sz1 {τ : Ty} (h : τ.isSt = false) : τ.sz = 1 := by cases τ <;> first | rfl | cases h
theorem setC_ok : ∀ (τ : Ty) (x : τ.D) (c : Nat) (v : EV) (y : τ.D), setC τ x c v = some y ->
  (∃ u0, cellC τ x c = .ev u0) /\ (∃ u, cellC τ y c = .ev u /\ ∀ len, Wk (toV len v) (toV len u)) /\ ∀ c', c' ≠ c -> cellC τ y c' = cellC τ x c'
 | .bool, x, c, v, y, h => by
  cases c <;> cases v <;> simp only [setC] at h <;> first
   | (cases h; done)
   | (injection h with h; subst h; exact ⟨⟨_, rfl⟩, ⟨_, rfl, fun len => Wk.refl _⟩, fun c' h2 => by cases c' <;> first | exact absurd rfl h2 | rfl⟩)
 | .int k, x, c, v, y, h => by
  cases c <;> cases v <;> simp only [setC] at h <;> try (cases h; done)
  rename_i k' n
  cases hk : kindEq k k' with
  | false => rw [hk] at h; cases h
  | true =>
   have := kindEq_eq hk
   subst this
   rw [hk] at h
   simp only [cond_true] at h
   injection h with h; subst h
   exact ⟨⟨_, rfl⟩, ⟨_, rfl, fun len => Wk.refl _⟩, fun c' h2 => by cases c' <;> first | exact absurd rfl h2 | rfl⟩
 | .str, x, c, v, y, h => by
  cases c <;> cases v <;> simp only [setC] at h <;> first
   | (cases h; done)
   | (injection h with h; subst h; exact ⟨⟨_, rfl⟩, ⟨_, rfl, fun len => Wk.refl _⟩, fun c' h2 => by cases c' <;> first | exact absurd rfl h2 | rfl⟩)
 | .st i, x, c, v, y, h => by
  simp only [setC] at h
  exact Codes.set_ok i x c v y h
 | .sl e, x, c, v, y, h => by
  cases c <;> cases v <;> simp only [setC] at h <;> try (cases h; done)
  ·rename_i e' l
   obtain ⟨rfl, h⟩ := castL_ok h
   obtain rfl := eq_of_heq h
   exact ⟨⟨_, rfl⟩, ⟨_, rfl, fun len => Wk.refl _⟩, fun c' h2 => by cases c' <;> first | exact absurd rfl h2 | rfl⟩
  ·injection h with h; subst h
   refine ⟨⟨_, rfl⟩, ⟨_, rfl, fun len => ?_⟩, fun c' h2 => by cases c' <;> first | exact absurd rfl h2 | rfl⟩
   simp only [toV, encL]
   exact Wk.nils _ _
 | .ol _ _, x, c, v, y, h => by cases c <;> cases v <;> cases h
def setKC : (τ : Ty) -> τ.D -> Nat -> (t : TypeId) -> (e : Ty) -> List e.D -> Option τ.D
 | .st i, x, c, t, e, l => Codes.setK i x c t e l
 | .ol t' e', _, 0, t, e, l => bif Nat.beq t t' then castF List e e' l else none
 | _, _, _, _, _, _ => none
theorem setKC_ok : ∀ (τ : Ty) (x : τ.D) (c : Nat) (t : TypeId) (e : Ty) (l : List e.D) (y : τ.D), setKC τ x c t e l = some y ->
  (∃ l0, cellC τ x c = .own t e l0) /\ cellC τ y c = .own t e l /\ ∀ c', c' ≠ c -> cellC τ y c' = cellC τ x c'
 | .st i, x, c, t, e, l, y, h => Codes.setK_ok i x c t e l y h
 | .ol t' e', x, 0, t, e, l, y, h => by
  simp only [setKC] at h
  cases hb : Nat.beq t t' with
  | false => rw [hb] at h; cases h
  | true =>
   rw [hb] at h
   obtain rfl := Nat.eq_of_beq_eq_true hb
   obtain ⟨rfl, h⟩ := castL_ok h
   obtain rfl := eq_of_heq h
   exact ⟨⟨_, rfl⟩, rfl, fun c' h2 => by cases c' <;> first | exact absurd rfl h2 | rfl⟩
 | .ol _ _, _, _ + 1, _, _, _, _, h => by cases h
 | .bool, _, _, _, _, _, _, h => by cases h
 | .int _, _, _, _, _, _, _, h => by cases h
 | .str, _, _, _, _, _, _, h => by cases h
 | .sl _, _, _, _, _, _, _, h => by cases h
theorem cellC_dat : ∀ (τ : Ty) (x : τ.D) (c : Nat) (u : EV), cellC τ x c = .ev u -> u.dat = true
 | .st i, x, c, u, h => Codes.cell_dat i x c u h
 | .bool, x, c, u, h => by cases c <;> (injection h with h; subst h; rfl)
 | .int _, x, c, u, h => by cases c <;> (injection h with h; subst h; rfl)
 | .str, x, c, u, h => by cases c <;> (injection h with h; subst h; rfl)
 | .sl _, x, c, u, h => by cases c <;> (injection h with h; subst h; rfl)
 | .ol _ _, x, 0, u, h => by cases h
 | .ol _ _, x, _ + 1, u, h => by injection h with h; subst h; rfl
theorem z_ownC : ∀ (τ : Ty) (c : Nat) (t : TypeId) (e : Ty) (l : List e.D), cellC τ τ.z c = .own t e l -> l = []
 | .st i, c, t, e, l, h => Codes.z_own i c t e l h
 | .ol t' e', 0, t, e, l, h => by
  simp only [cellC, Ty.z] at h
  injection h with h1 h2 h3
  subst h2
  exact (eq_of_heq h3).symm
 | .ol _ _, _ + 1, _, _, _, h => by cases h
 | .bool, c, _, _, _, h => by cases c <;> cases h
 | .int _, c, _, _, _, h => by cases c <;> cases h
 | .str, c, _, _, _, h => by cases c <;> cases h
 | .sl _, c, _, _, _, h => by cases c <;> cases h
def ownTC : Ty -> Nat -> Option (TypeId × Ty)
 | .st i, c => Codes.ownT i c
 | .ol t e, 0 => some (t, e)
 | _, _ => none
def ownGC : (τ : Ty) -> τ.D -> Nat -> (e : Ty) -> Option (List e.D)
 | .st i, x, c, e => Codes.ownG i x c e
 | .ol _ e', l, 0, e => castF List e' e l
 | _, _, _, _ => none
def ownSC : (τ : Ty) -> τ.D -> Nat -> (t : TypeId) -> (e : Ty) -> List e.D -> Option τ.D
 | .st i, x, c, t, e, l => Codes.ownS i x c t e l
 | .ol t' e', _, 0, t, e, l => bif Nat.beq t t' then castF List e e' l else none
 | _, _, _, _, _, _ => none
def frzTC : Ty -> Nat -> Option Ty
 | .st i, c => Codes.frzT i c
 | _, _ => none
def frzGC : (τ : Ty) -> τ.D -> Nat -> (e : Ty) -> Option (List e.D)
 | .st i, x, c, e => Codes.frzG i x c e
 | _, _, _, _ => none
theorem ownGC_ok : ∀ (τ : Ty) (x : τ.D) (c : Nat) (t : TypeId) (e : Ty) (l : List e.D), ownTC τ c = some (t, e) -> ownGC τ x c e = some l -> cellC τ x c = .own t e l
 | .st i, x, c, t, e, l, h1, h2 => Codes.ownG_ok i x c t e l h1 h2
 | .ol t' e', x, 0, t, e, l, h1, h2 => by
  injection h1 with h1
  injection h1 with h1 h3
  subst h1; subst h3
  obtain ⟨_, h⟩ := castL_ok h2
  obtain rfl := eq_of_heq h
  rfl
 | .ol _ _, _, _ + 1, _, _, _, h, _ => by cases h
 | .bool, _, _, _, _, _, h, _ => by cases h
 | .int _, _, _, _, _, _, h, _ => by cases h
 | .str, _, _, _, _, _, h, _ => by cases h
 | .sl _, _, _, _, _, _, h, _ => by cases h
theorem ownSC_ok : ∀ (τ : Ty) (x : τ.D) (c : Nat) (t : TypeId) (e : Ty) (l : List e.D) (y : τ.D), ownSC τ x c t e l = some y -> cellC τ y c = .own t e l /\ ∀ c', c' ≠ c -> cellC τ y c' = cellC τ x c'
 | .st i, x, c, t, e, l, y, h => Codes.ownS_ok i x c t e l y h
 | .ol t' e', x, 0, t, e, l, y, h => by
  simp only [ownSC] at h
  cases hb : Nat.beq t t' with
  | false => rw [hb] at h; cases h
  | true =>
   rw [hb] at h
   obtain rfl := Nat.eq_of_beq_eq_true hb
   obtain ⟨rfl, h⟩ := castL_ok h
   obtain rfl := eq_of_heq h
   exact ⟨rfl, fun c' h2 => by cases c' <;> first | exact absurd rfl h2 | rfl⟩
 | .ol _ _, _, _ + 1, _, _, _, _, h => by cases h
 | .bool, _, _, _, _, _, _, h => by cases h
 | .int _, _, _, _, _, _, _, h => by cases h
 | .str, _, _, _, _, _, _, h => by cases h
 | .sl _, _, _, _, _, _, _, h => by cases h
theorem ownSC_K : ∀ (τ : Ty) (x : τ.D) (c : Nat) (t : TypeId) (e : Ty) (l0 : List e.D) (t' : TypeId) (e' : Ty) (l : List e'.D) (y : τ.D), ownTC τ c = some (t, e) -> ownGC τ x c e = some l0 -> ownSC τ x c t' e' l = some y -> setKC τ x c t' e' l = some y
 | .st i, x, c, t, e, l0, t', e', l, y, h1, h2, h3 => Codes.ownS_K i x c t e l0 t' e' l y h1 h2 h3
 | .ol _ _, _, 0, _, _, _, _, _, _, _, _, _, h => h
 | .ol _ _, _, _ + 1, _, _, _, _, _, _, _, h, _, _ => by cases h
 | .bool, _, _, _, _, _, _, _, _, _, h, _, _ => by cases h
 | .int _, _, _, _, _, _, _, _, _, _, h, _, _ => by cases h
 | .str, _, _, _, _, _, _, _, _, _, h, _, _ => by cases h
 | .sl _, _, _, _, _, _, _, _, _, _, h, _, _ => by cases h
theorem frzGC_ok : ∀ (τ : Ty) (x : τ.D) (c : Nat) (e : Ty) (l : List e.D), frzTC τ c = some e -> frzGC τ x c e = some l -> cellC τ x c = .ev (.fz e l)
 | .st i, x, c, e, l, h1, h2 => Codes.frzG_ok i x c e l h1 h2
 | .ol _ _, _, _, _, _, h, _ => by cases h
 | .bool, _, _, _, _, h, _ => by cases h
 | .int _, _, _, _, _, h, _ => by cases h
 | .str, _, _, _, _, h, _ => by cases h
 | .sl _, _, _, _, _, h, _ => by cases h
structure LV where
 e : TypeId
 τ : Ty
 l : List τ.D
def LV.row (v : LV) (r : Nat) : v.τ.D := v.l.getD r v.τ.z
def LV.kid (v : LV) (c r : Nat) : Option LV := match cellC v.τ (v.l.getD r v.τ.z) c with
 | .own t e l => some ⟨t, e, l⟩
 | .ev _ => none
def LV.at : LV -> List Nat -> Option LV
 | v, [] => some v
 | v, c :: r :: p => match v.kid c r with
  | some k => LV.at k p
  | none => none
 | _, [_] => none
theorem LV.at_nil (v : LV) : v.at [] = some v := by unfold LV.at; rfl
theorem LV.at_cons (v : LV) (c r : Nat) (p : List Nat) : v.at (c :: r :: p) = match v.kid c r with
  | some k => LV.at k p
  | none => none := by rw [LV.at]
theorem LV.at_odd (v : LV) (c : Nat) : v.at [c] = none := by rw [LV.at]
theorem LV.at_empty : ∀ (p : List Nat) (v w : LV), v.l = [] -> v.at p = some w -> w.l = []
 | [], v, w, h, ha => by rw [LV.at_nil] at ha; injection ha with ha; exact ha ▸ h
 | [_], v, w, h, ha => by rw [LV.at_odd] at ha; cases ha
 | c :: r :: p, v, w, h, ha => by
  rw [LV.at_cons] at ha
  cases hk : v.kid c r with
  | none => rw [hk] at ha; cases ha
  | some k =>
   rw [hk] at ha
   refine LV.at_empty p k w ?_ ha
   unfold LV.kid at hk
   rw [h] at hk
   simp only [List.getD_nil] at hk
   split at hk
   ·rename_i t e l hc
    injection hk with hk
    subst hk
    exact z_ownC _ _ _ _ _ hc
   ·cases hk
def LV.setRow (v : LV) (r : Nat) (y : v.τ.D) : LV := ⟨v.e, v.τ, v.l.set r y⟩
def LV.put : LV -> List Nat -> LV -> Option LV
 | _, [], w => some w
 | v, c :: r :: p, w => match v.kid c r with
  | some k => match LV.put k p w with
   | some k' => match setKC v.τ (v.l.getD r v.τ.z) c k'.e k'.τ k'.l with
    | some y => some ⟨v.e, v.τ, v.l.set r y⟩
    | none => none
   | none => none
  | none => none
 | _, [_], _ => none
def Cell.Sim : Cell -> Cell -> Prop
 | .ev u, .ev u' => u = u'
 | .own t e l, .own t' e' l' => t = t' /\ e = e' /\ l.length = l'.length
 | _, _ => False
theorem Cell.Sim.rfl (x : Cell) : x.Sim x := by cases x <;> simp [Cell.Sim]
structure LV.Alike (a a' : LV) (P : Nat -> Nat -> Prop) : Prop where
 e : a'.e = a.e
 τ : a'.τ = a.τ
 n : a'.l.length = a.l.length
 c : ∀ r c, ¬ P r c -> (cellC a.τ (a.row r) c).Sim (cellC a'.τ (a'.row r) c)
theorem LV.Alike.refl (a : LV) (P : Nat -> Nat -> Prop) : a.Alike a P := ⟨rfl, rfl, rfl, fun _ _ _ => Cell.Sim.rfl _⟩
theorem LV.kid_some {v k : LV} {c r : Nat} (h : v.kid c r = some k) : cellC v.τ (v.row r) c = .own k.e k.τ k.l := by
 unfold LV.kid at h
 split at h
 ·rename_i t e l hc
  injection h with h; subst h; exact hc
 ·cases h
theorem LV.kid_of {v : LV} {c r : Nat} {t : TypeId} {e : Ty} {l : List e.D} (h : cellC v.τ (v.row r) c = .own t e l) : v.kid c r = some ⟨t, e, l⟩ := by
 unfold LV.kid
 unfold LV.row at h
 rw [h]
theorem getD_set_self {α : Type} {l : List α} {r : Nat} {y z : α} (h : r < l.length) : (l.set r y).getD r z = y := by simp [List.getD_eq_getElem?_getD, h]
theorem getD_set_ne {α : Type} {l : List α} {r i : Nat} {y z : α} (h : i ≠ r) : (l.set r y).getD i z = l.getD i z := by
 rw [List.getD_eq_getElem?_getD, List.getD_eq_getElem?_getD, List.getElem?_set_ne (fun e => h e.symm)]
theorem LV.setRow_row {v : LV} {r : Nat} {y : v.τ.D} (h : r < v.l.length) (i : Nat) : (v.setRow r y).row i = if i = r then y else v.row i := by
 unfold LV.row LV.setRow
 by_cases hi : i = r
 ·subst hi; rw [if_pos rfl]; exact getD_set_self h
 ·rw [if_neg hi]; exact getD_set_ne hi
theorem LV.kid_congr {v v' : LV} {c r : Nat} (h : cellC v'.τ (v'.row r) c = cellC v.τ (v.row r) c) : v'.kid c r = v.kid c r := by
 unfold LV.kid
 unfold LV.row at h
 rw [h]
theorem LV.setRow_at {v : LV} {r c : Nat} {y : v.τ.D} (hr : r < v.l.length) (hs : (cellC v.τ (v.row r) c).Sim (cellC v.τ y c) \/ True) (hy : ∀ c', c' ≠ c -> cellC v.τ y c' = cellC v.τ (v.row r) c') :
  ∀ q, ¬ ([c, r] <+: q) -> ((v.setRow r y).at q = none /\ v.at q = none) \/ ∃ a a', v.at q = some a /\ (v.setRow r y).at q = some a' /\ a.Alike a' (fun r' c' => q = [] /\ r' = r /\ c' = c)
 | [], _ => by
  refine .inr ⟨v, v.setRow r y, LV.at_nil _, LV.at_nil _, rfl, rfl, by simp [LV.setRow], fun r' c' hn => ?_⟩
  have e : (v.setRow r y).row r' = if r' = r then y else v.row r' := LV.setRow_row hr r'
  show (cellC v.τ (v.row r') c').Sim (cellC v.τ ((v.setRow r y).row r') c')
  rw [e]
  by_cases h1 : r' = r
  ·subst h1
   rw [if_pos rfl, hy c' (fun h2 => hn ⟨rfl, rfl, h2⟩)]; exact Cell.Sim.rfl _
  ·rw [if_neg h1]; exact Cell.Sim.rfl _
 | [x], _ => .inl ⟨LV.at_odd _ _, LV.at_odd _ _⟩
 | c2 :: r2 :: q, hq => by
  have hk : (v.setRow r y).kid c2 r2 = v.kid c2 r2 := by
   refine LV.kid_congr ?_
   have e : (v.setRow r y).row r2 = if r2 = r then y else v.row r2 := LV.setRow_row hr r2
   show cellC v.τ ((v.setRow r y).row r2) c2 = _
   rw [e]
   by_cases h1 : r2 = r
   ·subst h1
    rw [if_pos rfl]
    refine hy c2 (fun h2 => hq ?_)
    subst h2
    exact ⟨q, rfl⟩
   ·rw [if_neg h1]
  rw [LV.at_cons, LV.at_cons, hk]
  cases v.kid c2 r2 with
  | none => exact .inl ⟨rfl, rfl⟩
  | some k =>
   show (LV.at k q = none /\ LV.at k q = none) \/ _
   cases h : LV.at k q with
   | none => exact .inl ⟨rfl, rfl⟩
   | some a => exact .inr ⟨a, a, h, h, LV.Alike.refl _ _⟩
theorem LV.put_cons {v w v' : LV} {c r : Nat} {p : List Nat} (h : v.put (c :: r :: p) w = some v') :
  ∃ k k' y, v.kid c r = some k /\ LV.put k p w = some k' /\ setKC v.τ (v.row r) c k'.e k'.τ k'.l = some y /\ v' = v.setRow r y := by
 rw [LV.put] at h
 cases hk : v.kid c r with
 | none => rw [hk] at h; cases h
 | some k =>
  rw [hk] at h
  simp only at h
  cases hp : LV.put k p w with
  | none => rw [hp] at h; cases h
  | some k' =>
   rw [hp] at h
   simp only at h
   cases hy : setKC v.τ (v.l.getD r v.τ.z) c k'.e k'.τ k'.l with
   | none => rw [hy] at h; cases h
   | some y => rw [hy] at h; injection h with h; exact ⟨k, k', y, rfl, hp, hy, h.symm⟩
theorem LV.put_ok : ∀ (p : List Nat) (v w0 v' : LV) (r c : Nat) (y : w0.τ.D), v.at p = some w0 -> r < w0.l.length -> (∀ c', c' ≠ c -> cellC w0.τ y c' = cellC w0.τ (w0.row r) c') -> v.put p (w0.setRow r y) = some v' ->
  v'.at p = some (w0.setRow r y) /\ (∀ q, ¬ (p ++ [c, r] <+: q) -> (v'.at q = none /\ v.at q = none) \/ ∃ a a', v.at q = some a /\ v'.at q = some a' /\ a.Alike a' (fun r' c' => q = p /\ r' = r /\ c' = c)) /\ v'.e = v.e /\ v'.τ = v.τ
 | [], v, w0, v', r, c, y, ha, hr, hy, hp => by
  rw [LV.at_nil] at ha; injection ha with ha; subst ha
  rw [LV.put] at hp
  injection hp with hp; subst hp
  exact ⟨LV.at_nil _, LV.setRow_at hr (.inr trivial) hy, rfl, rfl⟩
 | [x], v, w0, v', r, c, y, ha, hr, hy, hp => by rw [LV.at_odd] at ha; cases ha
 | c1 :: r1 :: p, v, w0, v', r, c, y, ha, hr, hy, hp => by
  obtain ⟨k, k', y1, hk, hp1, hs, rfl⟩ := LV.put_cons hp
  rw [LV.at_cons, hk] at ha
  have ha : LV.at k p = some w0 := ha
  obtain ⟨i1, i2, i3, i4⟩ := LV.put_ok p k w0 k' r c y ha hr hy hp1
  obtain ⟨⟨l0, s1⟩, s2, s3⟩ := setKC_ok _ _ _ _ _ _ _ hs
  have hkc := LV.kid_some hk
  have hr1 : r1 < v.l.length := by
   refine Classical.byContradiction fun hn => ?_
   have e : v.row r1 = v.τ.z := by unfold LV.row; rw [List.getD_eq_getElem?_getD, List.getElem?_eq_none (by omega)]; rfl
   rw [e] at hkc
   have hz := z_ownC _ _ _ _ _ hkc
   have := LV.at_empty p k w0 hz ha
   rw [this] at hr; simp at hr
  have hkid : (v.setRow r1 y1).kid c1 r1 = some k' := by
   have e : (v.setRow r1 y1).row r1 = y1 := by rw [LV.setRow_row hr1, if_pos rfl]
   have := LV.kid_of (v := v.setRow r1 y1) (c := c1) (r := r1) (t := k'.e) (e := k'.τ) (l := k'.l) (by rw [e]; exact s2)
   exact this
  refine ⟨by rw [LV.at_cons, hkid]; exact i1, fun q hq => ?_, rfl, rfl⟩
  by_cases hpre : [c1, r1] <+: q
  ·obtain ⟨s, rfl⟩ := hpre
   show ((v.setRow r1 y1).at (c1 :: r1 :: s) = none /\ v.at (c1 :: r1 :: s) = none) \/ _
   rw [LV.at_cons, hkid, LV.at_cons, hk]
   rcases i2 s (fun h => hq (by obtain ⟨z, rfl⟩ := h; exact ⟨z, by simp⟩)) with h | ⟨a, a', h1, h2, h3⟩
   ·exact .inl h
   ·refine .inr ⟨a, a', by rw [List.cons_append, List.cons_append, List.nil_append, LV.at_cons, hk]; exact h1, by rw [List.cons_append, List.cons_append, List.nil_append, LV.at_cons, hkid]; exact h2, h3.e, h3.τ, h3.n, fun r' c' hn => h3.c r' c' (fun ⟨e1, e2, e3⟩ => hn ⟨by rw [e1]; rfl, e2, e3⟩)⟩
  ·rcases LV.setRow_at (v := v) (r := r1) (c := c1) (y := y1) hr1 (.inr trivial) s3 q hpre with h | ⟨a, a', h1, h2, h3⟩
   ·exact .inl h
   ·refine .inr ⟨a, a', h1, h2, h3.e, h3.τ, h3.n, fun r' c' hn => ?_⟩
    by_cases hc : q = [] /\ r' = r1 /\ c' = c1
    ·obtain ⟨rfl, rfl, rfl⟩ := hc
     rw [LV.at_nil] at h1 h2
     injection h1 with h1; subst h1
     injection h2 with h2; subst h2
     have e : (v.setRow r' y1).row r' = y1 := by rw [LV.setRow_row hr1, if_pos rfl]
     rw [e, hkc]
     show (Cell.own k.e k.τ k.l).Sim (cellC v.τ y1 c')
     rw [s2]
     -- the kid's length stays
     have hlen : k'.l.length = k.l.length /\ k'.e = k.e /\ k'.τ = k.τ := by
      refine ⟨?_, i3, i4⟩
      rcases i2 [] (fun h => by simp at h) with ⟨_, h⟩ | ⟨a, a', h1, h2, h3⟩
      ·rw [LV.at_nil] at h; cases h
      ·rw [LV.at_nil] at h1 h2
       injection h1 with h1; subst h1
       injection h2 with h2; subst h2
       exact h3.n
     exact ⟨hlen.2.1.symm, hlen.2.2.symm, hlen.1.symm⟩
    ·exact h3.c r' c' hc
end
end Go.Abs
namespace Go.Abs
open Go
noncomputable section
def okB (p : Prop) : Bool := @decide p (Classical.propDecidable p)
theorem okB_of {p : Prop} (h : p) : okB p = true := @decide_eq_true p (Classical.propDecidable p) h
theorem okB_out {p : Prop} (h : okB p = true) : p := @of_decide_eq_true p (Classical.propDecidable p) h
variable {P : Program} {d : Option Tmp} {ty : TypeId}
section
variable [SU] [Codes]
inductive OD where
 | none
 | dead
 | lst (v : LV)
 | cells (e : TypeId) (l : List EV)
 | hole (v : LV) (q : List Nat) (r c : Nat)
 | mp (s : Bool) (τ : Ty) (g : MKey -> Option τ.D)
structure EHeap where
 next : Nat
 lo : Nat
 obj : Nat -> OD
 md : List TypeId := []
def EHeap.at (H : EHeap) (k : Nat) (p : List Nat) : Option LV := match H.obj k with
 | .lst v => v.at p
 | _ => none
def OD.len : OD -> List Nat -> Option Nat
 | .lst v, p => match v.at p with
  | some a => some a.l.length
  | Option.none => Option.none
 | .cells _ _, [] => some 1
 | _, _ => Option.none
def EHeap.len (H : EHeap) : Len := fun k p => (H.obj k).len p
theorem EHeap.len_at {H : EHeap} {k : Nat} {p : List Nat} {v : LV} (h : H.at k p = some v) : H.len k p = some v.l.length := by
 unfold EHeap.at at h
 unfold EHeap.len
 split at h
 ·rename_i w ho
  rw [ho]
  simp only [OD.len, h]
 ·cases h
structure ESt where
 nt : Nat
 env : Nat -> EV
 heap : EHeap
def cellV (len : Len) (k : Nat) (p : List Nat) (r c : Nat) : Cell -> V
 | .ev u => toV len u
 | .own _ _ l => .sref ⟨k, p ++ [c, r]⟩ 0 0 l.length
def LV.obj (len : Len) (k : Nat) (p : List Nat) (v : LV) : AObj := { elem := v.e, sz := v.τ.sz, ver := 0, n := v.l.length, get := fun r c => cellV len k p r c (cellC v.τ (v.row r) c) }
def LV.holed (len : Len) (k : Nat) (p : List Nat) (v : LV) (q : List Nat) (r c : Nat) : AObj :=
 { elem := v.e, sz := v.τ.sz, ver := 0, n := v.l.length, get := fun r' c' => if p = q /\ r' = r /\ c' = c then .un else cellV len k p r' c' (cellC v.τ (v.row r') c') }
def OD.slot (len : Len) (k : Nat) : OD -> List Nat -> Slot
 | .none, _ => .unborn
 | .dead, _ => .dead
 | .lst v, p => match v.at p with
  | some a => .live (a.obj len k p)
  | Option.none => .unborn
 | .cells e l, [] => .live { elem := e, sz := l.length, ver := 0, n := 1, get := fun _ c => toVs len l c }
 | .cells _ _, _ :: _ => .unborn
 | .hole v q r c, p => if q ++ [c, r] <+: p then .dead else match v.at p with
  | some a => .live (a.holed len k p q r c)
  | Option.none => .unborn
 | .mp s τ g, [] => .mp s (fun x => match g x with
  | some y => some (.t (encC τ y 0))
  | Option.none => Option.none)
 | .mp _ _ _, _ :: _ => .unborn
def toH (H : EHeap) : Heap := ⟨H.next, fun id => (H.obj id.k).slot H.len id.k id.p, H.lo⟩
def toSt (s : ESt) : St := ⟨s.nt, fun t => toV s.heap.len (s.env t), toH s.heap⟩
theorem slot_lst {H : EHeap} {k : Nat} {p : List Nat} {v : LV} (h : H.at k p = some v) : (toH H).slot ⟨k, p⟩ = .live (v.obj H.len k p) := by
 unfold EHeap.at at h
 show (H.obj k).slot H.len k p = _
 split at h
 ·rename_i w ho
  rw [ho]
  simp only [OD.slot, h]
 ·cases h
theorem slot_cells {H : EHeap} {k : Nat} {e : TypeId} {l : List EV} (h : H.obj k = .cells e l) : (toH H).slot ⟨k, []⟩ = .live { elem := e, sz := l.length, ver := 0, n := 1, get := fun _ c => toVs H.len l c } := by
 show (H.obj k).slot H.len k [] = _
 rw [h]; rfl
theorem LV.at_append : ∀ (p : List Nat) (v a : LV) (q : List Nat), v.at p = some a -> v.at (p ++ q) = a.at q
 | [], v, a, q, h => by rw [LV.at_nil] at h; injection h with h; rw [h]; rfl
 | [_], v, a, q, h => by rw [LV.at_odd] at h; cases h
 | c :: r :: p, v, a, q, h => by
  rw [LV.at_cons] at h
  rw [List.cons_append, List.cons_append, LV.at_cons]
  cases hk : v.kid c r with
  | none => rw [hk] at h; cases h
  | some k =>
   rw [hk] at h
   exact LV.at_append p k a q h
theorem EHeap.at_append {H : EHeap} {k : Nat} {p q : List Nat} {a : LV} (h : H.at k p = some a) : H.at k (p ++ q) = a.at q := by
 unfold EHeap.at at h ⊢
 split at h
 ·exact LV.at_append _ _ _ _ h
 ·cases h
theorem LV.at_one (v : LV) (c r : Nat) : v.at [c, r] = v.kid c r := by
 rw [LV.at_cons]
 cases v.kid c r with
 | none => rfl
 | some k => exact LV.at_nil k
def evCell : Value -> EV
 | .bool b => .b b
 | .int k n => .i k n
 | .string s => bif Nat.ble s.size 9223372036854775807 then .s s else .un
 | .slice Option.none 0 0 => .nils
 | .pointer Option.none => .nilp
 | .map Option.none => .nilm
 | .nilFunc => .nilf
 | .nilIface => .nili
 | _ => .un
theorem evCell_eq (len : Len) (v : Value) : toV len (evCell v) = V.cell v := by
 unfold evCell V.cell
 split <;> try (simp only [toV]; done)
 rename_i s
 cases h : Nat.ble s.size 9223372036854775807 <;> simp only [h, cond_true, cond_false, toV]
def evOf : Value -> EV
 | .agg cs => bif cs.all (·.oneCell') then .agg (cs.toList.map evCell) else .un
 | v => evCell v
theorem evOf_wk (len : Len) (v : Value) : Wk (V.ofValue v) (toV len (evOf v)) := by
 unfold V.ofValue
 split
 ·rename_i cs
  simp only [evOf]
  cases h : cs.all (·.oneCell')
  ·exact Wk.un _
  ·simp only [cond_true, toV, List.length_map, Array.length_toList]
   refine Wk.agg fun j hj => Wk.of_eq ?_
   rw [toVs_eq]
   simp [List.getD_eq_getElem?_getD, hj, Array.getD_eq_getD_getElem?, evCell_eq]
 ·rename_i hv
  have : evOf v = evCell v := by
   cases v <;> first | rfl | exact absurd rfl (hv _)
  rw [this, evCell_eq]; exact Wk.refl _
def ESt.eval (s : ESt) : Operand -> EV
 | .tmp t => s.env t
 | .const v => evOf v
 | .global _ => .un
 | .func f => .fn f []
theorem ESt.eval_wk (s : ESt) (x : Operand) : Wk ((toSt s).eval x) (toV s.heap.len (s.eval x)) := by
 cases x with
 | tmp t => exact Wk.refl _
 | const v => exact evOf_wk _ v
 | global g => exact Wk.un _
 | func f => simp only [St.eval, ESt.eval, toV, List.length_nil]; exact fun H ι F w c ⟨cs, h1, h2, h3⟩ => ⟨cs, h1, h2, fun j hj => absurd hj (Nat.not_lt_zero _)⟩
def ESt.put (s : ESt) (d : Option Tmp) (v : EV) : ESt := match d with
 | Option.none => s
 | some d => { s with env := fun t => bif Nat.beq t d then (bif Nat.blt d s.nt then v else .un) else s.env t }
theorem toSt_put (s : ESt) (d : Option Tmp) (v : EV) : toSt (s.put d v) = (toSt s).put d (toV s.heap.len v) := by
 cases d with
 | none => rfl
 | some d =>
  simp only [toSt, ESt.put, St.put]
  congr 1
  funext t
  cases Nat.beq t d with
  | false => rfl
  | true => cases Nat.blt d s.nt <;> simp [toV]
theorem QV.wk {g : GOp} {u u' : V} {st : St} (h : QV P g u st) (k : Wk u u') : QV P g u' st := fun E ι F a w r => by
 obtain ⟨v, h1, h2⟩ := h E ι F a w r
 exact ⟨v, h1, k _ _ _ _ _ h2⟩
def EV.isAgg : EV -> Bool
 | .agg _ => true
 | .fn _ _ => true
 | _ => false
theorem eval_eq {s : ESt} {x : Operand} {u : EV} (h : s.eval x = u) (hu : u.isAgg = false) : (toSt s).eval x = toV s.heap.len u := by
 subst h
 cases x with
 | tmp t => rfl
 | const v =>
  show V.ofValue v = toV _ (evOf v)
  unfold V.ofValue
  split
  ·rename_i cs
   simp only [ESt.eval, evOf] at hu ⊢
   cases h : cs.all (·.oneCell') with
   | false => simp only [cond_false, toV]
   | true => rw [h] at hu; cases hu
  ·rename_i hv
   have : evOf v = evCell v := by
    cases v <;> first | rfl | exact absurd rfl (hv _)
   rw [this, evCell_eq]
 | global g => simp only [St.eval, ESt.eval, toV]
 | func f => cases hu
variable {ρ : Type}
def grd (b : Bool) (x : Option ρ) : Option ρ := bif b then x else none
def ixO (m : Int) (n : Nat) (K : Nat -> Option ρ) : Option ρ := grd (okB (0 <= m /\ m < n)) (K m.toNat)
def wrO (k : IntKind) (z : Int) (K : Int -> Option ρ) : Option ρ := match k with
 | .i64 => grd (okB (-9223372036854775808 <= z /\ z <= 9223372036854775807)) (K z)
 | k => K (k.wrap z)
theorem grd_out {b : Bool} {x : Option ρ} {r : ρ} (h : grd b x = some r) : b = true /\ x = some r := by
 cases b
 ·cases h
 ·exact ⟨rfl, h⟩
theorem ixO_out {m : Int} {n : Nat} {K : Nat -> Option ρ} {r : ρ} (h : ixO m n K = some r) : (0 <= m /\ m < n) /\ K m.toNat = some r := by
 obtain ⟨h1, h2⟩ := grd_out h
 exact ⟨okB_out h1, h2⟩
theorem wrO_out {k : IntKind} {z : Int} {K : Int -> Option ρ} {r : ρ} (h : wrO k z K = some r) : K (k.wrap z) = some r := by
 unfold wrO at h
 split at h
 ·obtain ⟨h1, h2⟩ := grd_out h
  have h1 := okB_out h1
  rw [wrap_in h1.1 h1.2]; exact h2
 ·exact h
theorem bif_none {b : Bool} {x : Option ρ} {r : ρ} (h : (bif b then x else none) = some r) : b = true /\ x = some r := grd_out h
def fE (u : EV) (K : EV -> Option ρ) : Option ρ := match u with
 | .un => K .un
 | .und => K .und
 | .b x => K (.b x)
 | .i k n => K (.i k n)
 | .s x => K (.s x)
 | .fz τ l => K (.fz τ l)
 | .fp τ x c => K (.fp τ x c)
 | .st i x => K (.st i x)
 | .ptr id p r c => K (.ptr id p r c)
 | .sref id p r n => K (.sref id p r n)
 | .sfull id p => K (.sfull id p)
 | .nils => K .nils
 | .nilp => K .nilp
 | .nilm => K .nilm
 | .nilf => K .nilf
 | .nili => K .nili
 | .mref id => K (.mref id)
 | .agg l => K (.agg l)
 | .tup l => K (.tup l)
 | .fn f l => K (.fn f l)
theorem fE_eq (u : EV) (K : EV -> Option ρ) : fE u K = K u := by cases u <;> rfl
def cellE (k : Nat) (p : List Nat) (τ : Ty) (x : τ.D) (r c : Nat) : EV := match cellC τ x c with
 | .ev u => u
 | .own _ _ _ => .sfull k (p ++ [c, r])
def cellsE (k : Nat) (p : List Nat) (τ : Ty) (x : τ.D) (r c : Nat) : Nat -> List EV
 | 0 => []
 | n + 1 => cellE k p τ x r c :: cellsE k p τ x r (c + 1) n
theorem cellsE_len (k : Nat) (p : List Nat) (τ : Ty) (x : τ.D) (r : Nat) : ∀ n c, (cellsE k p τ x r c n).length = n
 | 0, c => rfl
 | n + 1, c => by simp [cellsE, cellsE_len k p τ x r n]
theorem cellsE_at (len : Len) (k : Nat) (p : List Nat) (τ : Ty) (x : τ.D) (r : Nat) : ∀ n c j, j < n -> toVs len (cellsE k p τ x r c n) j = toV len (cellE k p τ x r (c + j))
 | 0, c, j, h => absurd h (Nat.not_lt_zero _)
 | n + 1, c, 0, h => by simp [cellsE, toVs]
 | n + 1, c, j + 1, h => by
  simp only [cellsE, toVs]
  rw [cellsE_at len k p τ x r n (c + 1) j (by omega)]
  congr 2; omega
def rowVal (k : Nat) (p : List Nat) (τ : Ty) (x : τ.D) (r c n : Nat) (K : EV -> Option ρ) : Option ρ := match τ, x with
 | .st i, x => bif Nat.beq n (SU.sz i) then (bif Nat.beq c 0 then (bif Codes.fro i then K (.st i x) else K (.agg (cellsE k p (.st i) x r c n))) else K (.agg (cellsE k p (.st i) x r c n))) else K (.agg (cellsE k p (.st i) x r c n))
 | τ, x => K (.agg (cellsE k p τ x r c n))
theorem rowVal_out {len : Len} {k : Nat} {p : List Nat} {τ : Ty} {x : τ.D} {r c n : Nat} {K : EV -> Option ρ} {res : ρ} (h : rowVal k p τ x r c n K = some res) {g : Nat -> V} (hg : ∀ j, j < n -> Wk (g j) (toV len (cellE k p τ x r (c + j)))) :
  ∃ u, Wk (.agg n g) (toV len u) /\ K u = some res := by
 have key : K (.agg (cellsE k p τ x r c n)) = some res -> ∃ u, Wk (.agg n g) (toV len u) /\ K u = some res := fun k' => ⟨_, by
  simp only [toV, cellsE_len]
  exact Wk.agg fun j hj => by rw [cellsE_at len k p τ x r n c j hj]; exact hg j hj, k'⟩
 cases τ with
 | st i =>
  simp only [rowVal] at h
  cases h1 : Nat.beq n (SU.sz i) with
  | false => rw [h1] at h; exact key h
  | true =>
   cases h2 : Nat.beq c 0 with
   | false => rw [h1, h2] at h; exact key h
   | true =>
    cases h3 : Codes.fro i with
    | false => rw [h1, h2, h3] at h; exact key h
    | true =>
     rw [h1, h2, h3] at h
     obtain rfl := natBeq h1
     obtain rfl := natBeq h2
     refine ⟨.st i x, ?_, h⟩
     simp only [toV]
     exact Wk.agg fun j hj => by
      have := hg j hj
      rw [Nat.zero_add] at this
      obtain ⟨u, e1, e2⟩ := Codes.cell_ok i x j h3
      have e2 := e2 hj
      simp only [cellE, cellC, e1] at this
      rw [e2] at this
      exact this
 | _ => exact key h
theorem cellE_V {H : EHeap} {k : Nat} {p : List Nat} {v : LV} (h : H.at k p = some v) (r c : Nat) : toV H.len (cellE k p v.τ (v.row r) r c) = cellV H.len k p r c (cellC v.τ (v.row r) c) := by
 unfold cellE
 cases hc : cellC v.τ (v.row r) c with
 | ev u => rfl
 | own t e l =>
  simp only [toV, cellV]
  have : H.at k (p ++ [c, r]) = some ⟨t, e, l⟩ := by
   rw [EHeap.at_append h, LV.at_one]
   exact LV.kid_of hc
  rw [EHeap.len_at this]
theorem cellE_F {len : Len} {k : Nat} {p : List Nat} {τ : Ty} {x : τ.D} {r c : Nat} (hf : froT τ = true) (hc : c < τ.sz) : toV len (cellE k p τ x r c) = .t (encC τ x c) := by
 obtain ⟨u, e1, e2⟩ := cellC_enc τ x c hf
 simp only [cellE, e1, e2 hc]
def nthE : List EV -> Nat -> EV
 | [], _ => .un
 | a :: _, 0 => a
 | _ :: l, n + 1 => nthE l n
theorem nthE_eq (len : Len) : ∀ (l : List EV) (n : Nat), toV len (nthE l n) = toVs len l n
 | [], n => by simp [nthE, toVs, toV]
 | a :: l, 0 => by simp [nthE, toVs]
 | a :: l, n + 1 => by simp only [nthE, toVs]; exact nthE_eq len l n
def cutE (l : List EV) (c : Nat) : Nat -> List EV
 | 0 => []
 | n + 1 => nthE l c :: cutE l (c + 1) n
theorem cutE_len (l : List EV) : ∀ n c, (cutE l c n).length = n
 | 0, c => rfl
 | n + 1, c => by simp [cutE, cutE_len l n]
theorem cutE_at (len : Len) (l : List EV) : ∀ n c j, j < n -> toVs len (cutE l c n) j = toVs len l (c + j)
 | 0, c, j, h => absurd h (Nat.not_lt_zero _)
 | n + 1, c, 0, h => by simp [cutE, toVs, nthE_eq]
 | n + 1, c, j + 1, h => by
  simp only [cutE, toVs]
  rw [cutE_at len l n (c + 1) j (by omega)]
  congr 1; omega
def callB {α ρ : Type} (x : Option α) (K : α -> Option ρ) : Option ρ := match x with
 | some y => K y
 | none => none
theorem callB_out {α : Type} {x : Option α} {K : α -> Option ρ} {r : ρ} (h : callB x K = some r) : ∃ y, x = some y /\ K y = some r := by
 cases x with
 | none => cases h
 | some y => exact ⟨y, rfl, h⟩
def LV.walkK : LV -> List Nat -> (LV -> (LV -> Option LV) -> Option ρ) -> Option ρ
 | v, [], K => K v some
 | v, c :: r :: p, K => match ownTC v.τ c with
  | some (t, e) => callB (ownGC v.τ (v.l.getD r v.τ.z) c e) fun l => LV.walkK ⟨t, e, l⟩ p fun a back => K a (fun w => match back w with
   | some k' => (match ownSC v.τ (v.l.getD r v.τ.z) c k'.e k'.τ k'.l with
    | some y => some ⟨v.e, v.τ, v.l.set r y⟩
    | none => none)
   | none => none)
  | none => none
 | _, [_], _ => none
theorem LV.walkK_out : ∀ (p : List Nat) (v : LV) (K : LV -> (LV -> Option LV) -> Option ρ) (res : ρ), v.walkK p K = some res -> ∃ a back, v.at p = some a /\ (∀ w v', back w = some v' -> v.put p w = some v') /\ K a back = some res
 | [], v, K, res, h => ⟨v, some, LV.at_nil v, fun w v' e => by rw [LV.put]; exact e, by rw [LV.walkK] at h; exact h⟩
 | [_], v, K, res, h => by rw [LV.walkK] at h; cases h
 | c :: r :: p, v, K, res, h => by
  rw [LV.walkK] at h
  split at h
  ·rename_i t e ht
   obtain ⟨l, hl, h⟩ := callB_out h
   obtain ⟨a, back, h1, h2, h3⟩ := LV.walkK_out p _ _ _ h
   have hc := ownGC_ok v.τ (v.l.getD r v.τ.z) c t e l ht hl
   have hk : v.kid c r = some ⟨t, e, l⟩ := LV.kid_of hc
   refine ⟨a, _, by rw [LV.at_cons, hk]; exact h1, fun w v' hb => ?_, h3⟩
   split at hb
   ·rename_i k' hk'
    split at hb
    ·rename_i y hy
     injection hb with hb
     rw [LV.put, hk]
     simp only [h2 w k' hk', ownSC_K _ _ _ _ _ _ _ _ _ _ ht hl hy, hb]
    ·cases hb
   ·cases hb
  ·cases h
def EHeap.atK (H : EHeap) (id : Nat) (p : List Nat) (K : LV -> Option ρ) : Option ρ := match H.obj id with
 | .lst root => root.walkK p fun v _ => K v
 | _ => none
theorem EHeap.atK_out {H : EHeap} {id : Nat} {p : List Nat} {K : LV -> Option ρ} {res : ρ} (h : H.atK id p K = some res) : ∃ v, H.at id p = some v /\ K v = some res := by
 unfold EHeap.atK at h
 split at h
 ·rename_i root ho
  obtain ⟨a, _, h1, _, h3⟩ := LV.walkK_out p root _ res h
  exact ⟨a, by unfold EHeap.at; rw [ho]; exact h1, h3⟩
 ·cases h
def memN : Nat -> List Nat -> Bool
 | _, [] => false
 | n, a :: l => Nat.beq n a || memN n l
def ldC (H : EHeap) (t : TypeId) (id : Nat) (p : List Nat) (v : LV) (r c : Nat) (K : EV -> Option ρ) : Option ρ := match ownTC v.τ c with
 | none => fE (cellE id p v.τ (v.l.getD r v.τ.z) r c) K
 | some (_, e) => match frzTC v.τ c with
  | none => callB (ownGC v.τ (v.l.getD r v.τ.z) c e) fun _ => K (.sfull id (p ++ [c, r]))
  | some e' => bif memN t H.md then callB (ownGC v.τ (v.l.getD r v.τ.z) c e) fun _ => K (.sfull id (p ++ [c, r]))
   else callB (frzGC v.τ (v.l.getD r v.τ.z) c e') fun l => K (.fz e' l)
theorem ldC_out {H : EHeap} {t : TypeId} {id : Nat} {p : List Nat} {v : LV} {r c : Nat} {K : EV -> Option ρ} {res : ρ} (h : ldC H t id p v r c K = some res) : K (cellE id p v.τ (v.row r) r c) = some res := by
 unfold ldC at h
 have own : ∀ t' e, ownTC v.τ c = some (t', e) -> callB (ownGC v.τ (v.l.getD r v.τ.z) c e) (fun _ => K (.sfull id (p ++ [c, r]))) = some res -> K (cellE id p v.τ (v.row r) r c) = some res := fun t' e ht hk => by
  obtain ⟨l, hl, hk⟩ := callB_out hk
  have : cellE id p v.τ (v.row r) r c = .sfull id (p ++ [c, r]) := by
   unfold cellE
   rw [show cellC v.τ (v.row r) c = .own t' e l from ownGC_ok _ _ _ _ _ _ ht hl]
  rw [this]; exact hk
 split at h
 ·rw [fE_eq] at h; exact h
 ·rename_i t' e ht
  split at h
  ·exact own t' e ht h
  ·rename_i e' hf
   cases hm : memN t H.md with
   | true => rw [hm] at h; exact own t' e ht h
   | false =>
    rw [hm] at h
    obtain ⟨l, hl, h⟩ := callB_out h
    have : cellE id p v.τ (v.row r) r c = .fz e' l := by
     unfold cellE
     rw [show cellC v.τ (v.row r) c = .ev (.fz e' l) from frzGC_ok _ _ _ _ _ hf hl]
    rw [this]; exact h
def runLoad [Tys P] (H : EHeap) (t : TypeId) (a : EV) (K : EV -> Option ρ) : Option ρ := bif Nat.blt 0 (Tys.c P t).sz then (match a with
 | .fp τ x c => bif froT τ then (bif Nat.ble (c + (Tys.c P t).sz) τ.sz then (bif (Tys.c P t).agg then rowVal 0 [] τ x 0 c (Tys.c P t).sz K else fE (cellE 0 [] τ x 0 c) K) else none) else none
 | .ptr id p r c => match H.obj id with
  | .cells _ l => match p with
   | [] => grd (Nat.blt r 1) (bif (Tys.c P t).agg then (bif Nat.ble (c + (Tys.c P t).sz) l.length then K (.agg (cutE l c (Tys.c P t).sz)) else none) else (bif Nat.blt c l.length then fE (nthE l c) K else none))
   | _ => none
  | _ => H.atK id p fun v => bif Nat.ble (c + (Tys.c P t).sz) v.τ.sz then grd (Nat.blt r v.l.length) (bif (Tys.c P t).agg then rowVal id p v.τ (v.l.getD r v.τ.z) r c (Tys.c P t).sz K else ldC H t id p v r c K) else none
 | _ => none) else none
theorem runLoad_ok [T : Tys P] {s : ESt} {t : TypeId} {a : Operand} {K : EV -> Option ρ} {res : ρ} (h : runLoad (P := P) s.heap t (s.eval a) K = some res) : ∃ u, (∀ d ty, QV P ⟨d, .load t a, ty, none⟩ (toV s.heap.len u) (toSt s)) /\ K u = some res := by
 unfold runLoad at h
 obtain ⟨h0, h⟩ := bif_none h
 split at h
 ·rename_i τ x c hx
  have hx := eval_eq hx rfl
  simp only [toV] at hx
  obtain ⟨hf, h⟩ := bif_none h
  obtain ⟨h1, h⟩ := bif_none h
  have h1 := Nat.le_of_ble_eq_true h1
  have h0' := Nat.le_of_ble_eq_true h0
  cases ha : (Tys.c P t).agg with
  | true =>
   rw [ha] at h
   have := TySz.of' h0 ha
   obtain ⟨u, k1, k2⟩ := rowVal_out (len := s.heap.len) (K := K) h (g := fun j => .t (encC τ x (j + c))) (fun j hj => by
    rw [cellE_F hf (by omega), Nat.add_comm c j]; exact Wk.refl _)
   exact ⟨u, fun d ty => (O.loadFA hx (Nat.ble_eq_true_of_le (by omega))).wk k1, k2⟩
  | false =>
   rw [ha] at h
   have := TySz.of' h0 ha
   simp only [cond_false] at h
   rw [fE_eq] at h
   refine ⟨_, fun d ty => (O.loadF hx (Nat.ble_eq_true_of_le (by omega))).wk ?_, h⟩
   rw [cellE_F hf (by omega), Nat.zero_add]; exact Wk.refl _
 ·rename_i id p r c hx
  have hx := eval_eq hx rfl
  simp only [toV] at hx
  split at h
  ·rename_i e l ho
   split at h
   ·have hs := slot_cells ho
    obtain ⟨h2, h⟩ := grd_out h
    have h2 := Nat.le_of_ble_eq_true h2
    cases ha : (Tys.c P t).agg with
    | true =>
     rw [ha] at h
     obtain ⟨h3, h⟩ := bif_none h
     have h3 := Nat.le_of_ble_eq_true h3
     have := TySz.of' h0 ha
     refine ⟨_, fun d ty => (O.loadPA hx hs rfl (by simpa using h2) h3).wk ?_, h⟩
     simp only [toV, cutE_len]
     exact Wk.agg fun j hj => by rw [cutE_at _ l _ c j hj, Nat.add_comm c j]; exact Wk.refl _
    | false =>
     rw [ha] at h
     obtain ⟨h3, h⟩ := bif_none h
     have := TySz.of' h0 ha
     rw [fE_eq] at h
     refine ⟨_, fun d ty => (O.loadP hx hs rfl (by simpa using h2) (Nat.le_of_ble_eq_true h3)).wk ?_, h⟩
     rw [nthE_eq]; exact Wk.refl _
   ·cases h
  ·obtain ⟨v, hv, g⟩ := EHeap.atK_out h
   clear h
   obtain ⟨h3, g⟩ := bif_none g
   obtain ⟨h2, h⟩ := grd_out g
   clear g
   have h2 := Nat.le_of_ble_eq_true h2
   have h3 := Nat.le_of_ble_eq_true h3
   have h0' := Nat.le_of_ble_eq_true h0
   have hs := slot_lst hv
   cases ha : (Tys.c P t).agg with
   | true =>
    rw [ha] at h
    have := TySz.of' h0 ha
    obtain ⟨u, k1, k2⟩ := rowVal_out (len := s.heap.len) (K := K) h (g := fun j => cellV s.heap.len id p r (j + c) (cellC v.τ (v.row r) (j + c))) (fun j hj => by
     rw [Nat.add_comm j c]; exact Wk.of_eq (cellE_V hv r (c + j)).symm)
    exact ⟨u, fun d ty => (O.loadPA hx hs rfl h2 h3).wk k1, k2⟩
   | false =>
    rw [ha] at h
    have := TySz.of' h0 ha
    simp only [cond_false] at h
    have h := ldC_out h
    exact ⟨_, fun d ty => (O.loadP hx hs rfl h2 (by show c < v.τ.sz; omega)).wk (Wk.of_eq (cellE_V hv r c).symm), h⟩
 ·cases h
def EHeap.is (H : EHeap) (id : Nat) (p : List Nat) : Bool := match H.obj id with
 | .cells _ _ => match p with
  | [] => true
  | _ => false
 | _ => match H.at id p with
  | some _ => true
  | none => false
theorem EHeap.is_out {H : EHeap} {id : Nat} {p : List Nat} (h : H.is id p = true) : ∃ x, (toH H).slot ⟨id, p⟩ = .live x /\ x.ver = 0 := by
 unfold EHeap.is at h
 split at h
 ·rename_i ho
  split at h
  ·exact ⟨_, slot_cells ho, rfl⟩
  ·cases h
 ·split at h
  ·rename_i hv
   exact ⟨_, slot_lst hv, rfl⟩
  ·cases h
def EHeap.isK (H : EHeap) (id : Nat) (p : List Nat) (K : Option ρ) : Option ρ := match H.obj id with
 | .cells _ _ => (match p with
  | [] => K
  | _ => none)
 | _ => H.atK id p fun _ => K
theorem EHeap.isK_out {H : EHeap} {id : Nat} {p : List Nat} {K : Option ρ} {res : ρ} (h : H.isK id p K = some res) : H.is id p = true /\ K = some res := by
 unfold EHeap.isK at h
 unfold EHeap.is
 cases ho : H.obj id with
 | cells e l =>
  rw [ho] at h
  cases p with
  | nil => exact ⟨rfl, h⟩
  | cons a b => cases h
 | lst root =>
  rw [ho] at h
  obtain ⟨v, hv, h⟩ := EHeap.atK_out h
  refine ⟨?_, h⟩
  simp only [hv]
 | none => rw [ho] at h; obtain ⟨v, hv, h⟩ := EHeap.atK_out h; exact ⟨by simp only [hv], h⟩
 | dead => rw [ho] at h; obtain ⟨v, hv, h⟩ := EHeap.atK_out h; exact ⟨by simp only [hv], h⟩
 | hole v q r c => rw [ho] at h; obtain ⟨v, hv, h⟩ := EHeap.atK_out h; exact ⟨by simp only [hv], h⟩
 | mp a b c => rw [ho] at h; obtain ⟨v, hv, h⟩ := EHeap.atK_out h; exact ⟨by simp only [hv], h⟩
def litO (n : Nat) (K : Nat -> Option ρ) : Option ρ := match n with
 | 0 => K 0
 | 1 => K 1
 | 2 => K 2
 | 3 => K 3
 | 4 => K 4
 | 5 => K 5
 | 6 => K 6
 | 7 => K 7
 | 8 => K 8
 | 9 => K 9
 | 10 => K 10
 | 11 => K 11
 | 12 => K 12
 | 13 => K 13
 | 14 => K 14
 | 15 => K 15
 | n + 16 => K (n + 16)
theorem litO_eq (n : Nat) (K : Nat -> Option ρ) : litO n K = K n := by
 unfold litO
 split <;> rfl
def runField [Tys P] (H : EHeap) (t f : Nat) (a : EV) (K : EV -> Option ρ) : Option ρ := match nth (Tys.c P t).fields f with
 | some (off, _, _) => match a with
  | .fp τ x c => litO (c + off) fun c' => K (.fp τ x c')
  | .ptr id p r c => H.isK id p (litO (c + off) fun c' => K (.ptr id p r c'))
  | _ => none
 | none => none
theorem runField_ok [T : Tys P] {s : ESt} {t f : Nat} {x : Operand} {K : EV -> Option ρ} {res : ρ} (h : runField (P := P) s.heap t f (s.eval x) K = some res) : ∃ u, (∀ d ty, QV P ⟨d, .fieldAddr t x f, ty, none⟩ (toV s.heap.len u) (toSt s)) /\ K u = some res := by
 unfold runField at h
 split at h
 ·rename_i off ag sz hf
  have := (T.ok t).fld f off ag sz hf
  split at h
  ·rename_i τ y c hx
   have hx := eval_eq hx rfl
   simp only [toV] at hx
   rw [litO_eq] at h
   refine ⟨_, fun d ty => (O.fieldF hx).wk ?_, h⟩
   simp only [toV]
   exact Wk.fp (by omega) (fun j hj => by congr 1; omega)
  ·rename_i id p r c hx
   have hx := eval_eq hx rfl
   simp only [toV] at hx
   obtain ⟨h1, g⟩ := EHeap.isK_out h
   clear h
   have h := g
   obtain ⟨o, ho, hv⟩ := EHeap.is_out h1
   rw [litO_eq] at h
   exact ⟨_, fun d ty => (by simp only [toV]; exact O.fieldP hx ho hv.symm), h⟩
  ·cases h
 ·cases h
def runIndex [Tys P] (H : EHeap) (t : TypeId) (a i : EV) (K : EV -> Option ρ) : Option ρ := match (Tys.c P t).sl with
 | some (_, sz, _) => match i with
  | .i _ m => match a with
   | .fz τ l => bif Nat.beq τ.sz sz then ixO m l.length fun i => K (.fp τ (l.getD i τ.z) 0) else none
   | .sfull id p => H.atK id p fun v => bif Nat.beq v.τ.sz sz then ixO m v.l.length fun i => K (.ptr id p i 0) else none
   | .sref id p r n => H.atK id p fun v => bif Nat.beq v.τ.sz sz then ixO m n fun i => K (.ptr id p (i + r) 0) else none
   | _ => none
  | _ => none
 | none => none
theorem runIndex_ok [T : Tys P] {s : ESt} {t : Nat} {x y : Operand} {K : EV -> Option ρ} {res : ρ} (h : runIndex (P := P) s.heap t (s.eval x) (s.eval y) K = some res) : ∃ u, (∀ d ty, QV P ⟨d, .indexAddr t x y, ty, none⟩ (toV s.heap.len u) (toSt s)) /\ K u = some res := by
 unfold runIndex at h
 split at h
 ·rename_i e sz b hs
  have := (T.ok t).sl e sz b hs
  split at h
  ·rename_i k m hy
   have hy := eval_eq hy rfl
   simp only [toV] at hy
   split at h
   ·rename_i τ l hx
    have hx := eval_eq hx rfl
    simp only [toV, encL] at hx
    obtain ⟨h2, g⟩ := bif_none h
    clear h
    obtain ⟨h3, h⟩ := ixO_out g
    clear g
    obtain rfl := natBeq h2
    exact ⟨_, fun d ty => (O.indexF hx hy h3.1 h3.2).wk (by simp only [toV]; exact Wk.refl _), h⟩
   ·rename_i id p hx
    obtain ⟨v, hv, k⟩ := EHeap.atK_out h
    clear h
    have hx := eval_eq hx rfl
    simp only [toV, EHeap.len_at hv] at hx
    obtain ⟨h2, g⟩ := bif_none k
    clear k
    obtain ⟨h3, h⟩ := ixO_out g
    clear g
    obtain rfl := natBeq h2
    have hs' := slot_lst hv
    exact ⟨_, fun d ty => (O.indexS hx hs' rfl rfl hy h3.1 h3.2).wk (by simp only [toV]; exact Wk.refl _), h⟩
   ·rename_i id p r n hx
    obtain ⟨v, hv, k⟩ := EHeap.atK_out h
    clear h
    have hx := eval_eq hx rfl
    simp only [toV] at hx
    obtain ⟨h2, g⟩ := bif_none k
    clear k
    obtain ⟨h3, h⟩ := ixO_out g
    clear g
    obtain rfl := natBeq h2
    have hs' := slot_lst hv
    exact ⟨_, fun d ty => (O.indexS hx hs' rfl rfl hy h3.1 h3.2).wk (by simp only [toV]; exact Wk.refl _), h⟩
   ·cases h
  ·cases h
 ·cases h
def runLen [Tys P] (H : EHeap) (t : TypeId) (a : EV) (K : EV -> Option ρ) : Option ρ := match a with
 | .s x => match (Tys.c P t).desc with
  | some .string => K (.i .i64 x.size)
  | _ => none
 | a => match (Tys.c P t).sl with
  | none => none
  | some _ => match a with
   | .fz _ l => K (.i .i64 l.length)
   | .nils => K (.i .i64 0)
   | .sfull id p => H.atK id p fun v => K (.i .i64 v.l.length)
   | .sref id p _ n => H.atK id p fun _ => K (.i .i64 n)
   | _ => none
theorem runLen_ok [T : Tys P] {s : ESt} {t : Nat} {x : Operand} {K : EV -> Option ρ} {res : ρ} (h : runLen (P := P) s.heap t (s.eval x) K = some res) :
  ∃ u, (∀ d ty, QV P ⟨d, .call { callee := .builtin .len, args := #[x], argTypes := #[t] }, ty, none⟩ (toV s.heap.len u) (toSt s)) /\ K u = some res := by
 unfold runLen at h
 split at h
 ·rename_i hx
  have hx := eval_eq hx rfl
  simp only [toV] at hx
  split at h
  ·rename_i hd
   have := (T.ok t).desc _ hd
   exact ⟨_, fun d ty => (by simp only [toV]; exact O.lenStr hx), h⟩
  ·cases h
 ·split at h
  ·cases h
  ·rename_i z hs
   obtain ⟨e, sz, b⟩ := z
   have := (T.ok t).sl e sz b hs
   split at h
   ·rename_i hx
    have hx := eval_eq hx rfl
    simp only [toV, encL] at hx
    exact ⟨_, fun d ty => (by simp only [toV]; exact O.lenF hx), h⟩
   ·rename_i hx
    have hx := eval_eq hx rfl
    simp only [toV] at hx
    exact ⟨_, fun d ty => (by simp only [toV]; exact O.lenN hx), h⟩
   ·rename_i id p hx
    obtain ⟨v, hv, g⟩ := EHeap.atK_out h
    have hx := eval_eq hx rfl
    simp only [toV, EHeap.len_at hv] at hx
    exact ⟨_, fun d ty => (by simp only [toV]; exact O.lenS hx (slot_lst hv) rfl), g⟩
   ·rename_i id p r n hx
    obtain ⟨v, hv, g⟩ := EHeap.atK_out h
    have hx := eval_eq hx rfl
    simp only [toV] at hx
    exact ⟨_, fun d ty => (by simp only [toV]; exact O.lenS hx (slot_lst hv) rfl), g⟩
   ·cases h
def runCmp (op : BinOp) (m n : Int) (K : EV -> Option ρ) : Option ρ := match op with
 | .eql => K (.b (decide (m = n)))
 | .neq => K (.b (!decide (m = n)))
 | .lss => K (.b (decide (m < n)))
 | .leq => K (.b (decide (m <= n)))
 | .gtr => K (.b (decide (n < m)))
 | .geq => K (.b (decide (n <= m)))
 | _ => none
def runInt (op : BinOp) (k : IntKind) (m n : Int) (K : EV -> Option ρ) : Option ρ := match op with
 | .add => wrO k (m + n) fun z => K (.i k z)
 | .sub => wrO k (m - n) fun z => K (.i k z)
 | .mul => wrO k (m * n) fun z => K (.i k z)
 | .quo => grd (!decide (n = 0)) (wrO k (m.tdiv n) fun z => K (.i k z))
 | .rem => grd (!decide (n = 0)) (K (.i k (m.tmod n)))
 | .and => K (.i k (bitOp .and k m n))
 | .or => K (.i k (bitOp .or k m n))
 | .xor => K (.i k (bitOp .xor k m n))
 | .andNot => K (.i k (bitOp .andNot k m n))
 | op => runCmp op m n K
def runBin [Tys P] (op : BinOp) (tx : TypeId) (u v : EV) (K : EV -> Option ρ) : Option ρ := match u, v with
 | .i k m, .i k' n => match op with
  | .shl => grd (okB (0 <= n)) (K (.i k (k.wrap (m * 2 ^ (min n.toNat k.bits)))))
  | .shr => grd (okB (0 <= n)) (K (.i k (m.fdiv (2 ^ (min n.toNat k.bits)))))
  | op => bif kindEq k k' then runInt op k m n K else none
 | .b p, .b q => match (Tys.c P tx).desc with
  | some .bool => match op with
   | .eql => K (.b (p == q))
   | .neq => K (.b (!(p == q)))
   | _ => none
  | _ => none
 | .s x, .s y => match op with
  | .eql => K (.b (x.toList == y.toList))
  | .neq => K (.b (!(x.toList == y.toList)))
  | _ => none
 | _, _ => none
theorem runCmp_ok {s : ESt} {o : BinOp} {tx tY : TypeId} {x y : Operand} {k : IntKind} {m n : Int} {K : EV -> Option ρ} {res : ρ} (hx : (toSt s).eval x = .t (.int k m)) (hy : (toSt s).eval y = .t (.int k n)) (h : runCmp o m n K = some res) : ∃ u, (∀ d ty, QV P ⟨d, .binOp o tx x y tY, ty, none⟩ (toV s.heap.len u) (toSt s)) /\ K u = some res := by
 cases o <;> first
  | (cases h; done)
  | exact ⟨_, fun d ty => (by simp only [toV]; exact O.eql hx hy), h⟩
  | exact ⟨_, fun d ty => (by simp only [toV]; exact O.neq hx hy), h⟩
  | exact ⟨_, fun d ty => (by simp only [toV]; exact O.lss hx hy), h⟩
  | exact ⟨_, fun d ty => (by simp only [toV]; exact O.leq hx hy), h⟩
  | exact ⟨_, fun d ty => (by simp only [toV]; exact O.gtr hx hy), h⟩
  | exact ⟨_, fun d ty => (by simp only [toV]; exact O.geq hx hy), h⟩
theorem not_dec {p : Prop} [Decidable p] (h : (!decide p) = true) : ¬ p := by simpa using h
theorem runInt_ok {s : ESt} {o : BinOp} {tx tY : TypeId} {x y : Operand} {k : IntKind} {m n : Int} {K : EV -> Option ρ} {res : ρ} (hx : (toSt s).eval x = .t (.int k m)) (hy : (toSt s).eval y = .t (.int k n)) (h : runInt o k m n K = some res) : ∃ u, (∀ d ty, QV P ⟨d, .binOp o tx x y tY, ty, none⟩ (toV s.heap.len u) (toSt s)) /\ K u = some res := by
 cases o <;> first
  | exact runCmp_ok hx hy h
  | (have h' := wrO_out (show wrO k (m + n) (fun z => K (.i k z)) = some res from h); exact ⟨_, fun d ty => (by simp only [toV]; exact O.add hx hy rfl), h'⟩)
  | (have h' := wrO_out (show wrO k (m - n) (fun z => K (.i k z)) = some res from h); exact ⟨_, fun d ty => (by simp only [toV]; exact O.sub hx hy rfl), h'⟩)
  | (have h' := wrO_out (show wrO k (m * n) (fun z => K (.i k z)) = some res from h); exact ⟨_, fun d ty => (by simp only [toV]; exact O.mul hx hy rfl), h'⟩)
  | (have h' := grd_out (show grd (!decide (n = 0)) (wrO k (m.tdiv n) (fun z => K (.i k z))) = some res from h); have h2 := wrO_out h'.2; exact ⟨_, fun d ty => (by simp only [toV]; exact O.quo hx hy (not_dec h'.1) rfl), h2⟩)
  | (have h' := grd_out (show grd (!decide (n = 0)) (K (.i k (m.tmod n))) = some res from h); exact ⟨_, fun d ty => (by simp only [toV]; exact O.rem hx hy (not_dec h'.1)), h'.2⟩)
  | exact ⟨_, fun d ty => (by simp only [toV]; exact O.bits hx hy rfl), h⟩
theorem runBin_ok [T : Tys P] {s : ESt} {o : BinOp} {tx tY : TypeId} {x y : Operand} {K : EV -> Option ρ} {res : ρ} (h : runBin (P := P) o tx (s.eval x) (s.eval y) K = some res) : ∃ u, (∀ d ty, QV P ⟨d, .binOp o tx x y tY, ty, none⟩ (toV s.heap.len u) (toSt s)) /\ K u = some res := by
 unfold runBin at h
 split at h
 ·rename_i k m k' n hx hy
  have hx := eval_eq hx rfl
  have hy := eval_eq hy rfl
  simp only [toV] at hx hy
  split at h
  ·obtain ⟨h1, h⟩ := grd_out h
   exact ⟨_, fun d ty => (by simp only [toV]; exact O.shl hx hy (okB_out h1)), h⟩
  ·obtain ⟨h1, h⟩ := grd_out h
   exact ⟨_, fun d ty => (by simp only [toV]; exact O.shr hx hy (okB_out h1)), h⟩
  ·obtain ⟨h1, g⟩ := bif_none h
   clear h
   have := kindEq_eq h1
   subst this
   exact runInt_ok hx hy g
 ·rename_i p q hx hy
  have hx := eval_eq hx rfl
  have hy := eval_eq hy rfl
  simp only [toV] at hx hy
  split at h
  ·rename_i hd
   have := (T.ok tx).desc _ hd
   split at h
   ·exact ⟨_, fun d ty => (by simp only [toV]; exact O.eqlB' hx hy), h⟩
   ·exact ⟨_, fun d ty => (by simp only [toV]; exact O.neqB' hx hy), h⟩
   ·cases h
  ·cases h
 ·rename_i hx hy
  have hx := eval_eq hx rfl
  have hy := eval_eq hy rfl
  simp only [toV] at hx hy
  split at h
  ·exact ⟨_, fun d ty => (by simp only [toV]; exact O.eqlStr' hx hy), h⟩
  ·exact ⟨_, fun d ty => (by simp only [toV]; exact O.neqStr' hx hy), h⟩
  ·cases h
 ·cases h
def runBuiltin [Tys P] (ev : Operand -> EV) (H : EHeap) (b : Builtin) (args : List Operand) (ts : List TypeId) (K : EV -> Option ρ) : Option ρ := match b with
 | .len => match args, ts with
  | [x], [t] => runLen (P := P) H t (ev x) K
  | _, _ => none
 | .min => match args with
  | [x, y] => match ev x, ev y with
   | .i k m, .i k' n => bif kindEq k k' then K (.i k (if n < m then n else m)) else none
   | _, _ => none
  | _ => none
 | .max => match args with
  | [x, y] => match ev x, ev y with
   | .i k m, .i k' n => bif kindEq k k' then K (.i k (if n > m then n else m)) else none
   | _, _ => none
  | _ => none
 | _ => none
def runO (P : Program) [Tys P] (ev : Operand -> EV) (H : EHeap) (op : Op) (K : EV -> Option ρ) : Option ρ := match op with
 | .move x => fE (ev x) K
 | .assign x => fE (ev x) K
 | .pick c a b => match ev c with
  | .b v => cond v (fE (ev a) K) (fE (ev b) K)
  | _ => none
 | .load t a => runLoad (P := P) H t (ev a) K
 | .fieldAddr t x f => runField (P := P) H t f (ev x) K
 | .indexAddr t x y => runIndex (P := P) H t (ev x) (ev y) K
 | .binOp o tx x y _ => runBin (P := P) o tx (ev x) (ev y) K
 | .unOp o _ x => match o, ev x with
  | .not, .b b => K (.b (!b))
  | .neg, .i k n => wrO k (0 - n) fun z => K (.i k z)
  | .xor, .i k n => K (.i k (bitOp .xor k (if k.signed then -1 else k.max) n))
  | _, _ => none
 | .convert src dst x => match (Tys.c P src).desc, (Tys.c P dst).desc, ev x with
  | some _, some (.int k'), .i _ n => K (.i k' (k'.wrap n))
  | _, _, _ => none
 | .extract x i => match x with
  | .tmp _ => match ev x with
   | .tup l => bif Nat.blt i l.length then fE (nthE l i) K else none
   | _ => none
  | _ => none
 | .nilCheck x => match ev x with
  | .fp τ y c => K (.fp τ y c)
  | .ptr id p r c => H.isK id p (K (.ptr id p r c))
  | _ => none
 | .field t x f => match nth (Tys.c P t).fields f, x, ev x with
  | some (off, false, _), .tmp _, .agg l => bif Nat.blt off l.length then fE (nthE l off) K else none
  | some (off, false, _), _, .st i y => bif Codes.fro i then (bif Nat.blt off (SU.sz i) then fE (cellE 0 [] (.st i) y 0 off) K else none) else none
  | _, _, _ => none
 | .index t x y => match (Tys.c P t).desc, ev x, ev y with
  | some .string, .s x, .i _ m => ixO m x.size fun i => K (.i .u8 (strAt x i))
  | _, _, _ => none
 | .call c => match c.callee with
  | .builtin b => runBuiltin (P := P) ev H b c.args.toList c.argTypes.toList K
  | _ => none
 | _ => none
theorem runBuiltin_ok [T : Tys P] {s : ESt} {b : Builtin} {args : Array Operand} {ats : Array TypeId} {K : EV -> Option ρ} {res : ρ} (h : runBuiltin (P := P) s.eval s.heap b args.toList ats.toList K = some res) :
  ∃ u, (∀ d ty, QV P ⟨d, .call { callee := .builtin b, args := args, argTypes := ats }, ty, none⟩ (toV s.heap.len u) (toSt s)) /\ K u = some res := by
 unfold runBuiltin at h
 split at h
 ·split at h
  ·rename_i h1 h2
   rw [toList_eq h1, toList_eq h2]
   exact runLen_ok h
  ·cases h
 ·split at h
  ·rename_i h1
   rw [toList_eq h1]
   split at h
   ·rename_i hx hy
    have hx := eval_eq hx rfl
    have hy := eval_eq hy rfl
    simp only [toV] at hx hy
    obtain ⟨h2, g⟩ := bif_none h
    clear h
    have h := g
    clear g
    have := kindEq_eq h2
    subst this
    exact ⟨_, fun d ty => (by simp only [toV]; exact O.min' hx hy), h⟩
   ·cases h
  ·cases h
 ·split at h
  ·rename_i h1
   rw [toList_eq h1]
   split at h
   ·rename_i hx hy
    have hx := eval_eq hx rfl
    have hy := eval_eq hy rfl
    simp only [toV] at hx hy
    obtain ⟨h2, g⟩ := bif_none h
    clear h
    have h := g
    clear g
    have := kindEq_eq h2
    subst this
    exact ⟨_, fun d ty => (by simp only [toV]; exact O.max' hx hy), h⟩
   ·cases h
  ·cases h
 ·cases h
theorem runO_ok [T : Tys P] {s : ESt} {op : Op} {K : EV -> Option ρ} {res : ρ} (h : runO P s.eval s.heap op K = some res) : ∃ u, (∀ d ty, QV P ⟨d, op, ty, none⟩ (toV s.heap.len u) (toSt s)) /\ K u = some res := by
 unfold runO at h
 split at h
 ·rw [fE_eq] at h; exact ⟨_, fun d ty => O.move.wk (s.eval_wk _), h⟩
 ·rw [fE_eq] at h; exact ⟨_, fun d ty => O.assign.wk (s.eval_wk _), h⟩
 ·split at h
  ·rename_i v hc
   have hc := eval_eq hc rfl
   simp only [toV] at hc
   cases v with
   | true => simp only [cond_true] at h; rw [fE_eq] at h; exact ⟨_, fun d ty => (O.pick_true hc).wk (s.eval_wk _), h⟩
   | false => simp only [cond_false] at h; rw [fE_eq] at h; exact ⟨_, fun d ty => (O.pick_false hc).wk (s.eval_wk _), h⟩
  ·cases h
 ·exact runLoad_ok h
 ·exact runField_ok h
 ·exact runIndex_ok h
 ·exact runBin_ok h
 ·split at h
  ·rename_i hx
   have hx := eval_eq hx rfl
   simp only [toV] at hx
   exact ⟨_, fun d ty => (by simp only [toV]; exact O.not hx), h⟩
  ·rename_i hx
   have hx := eval_eq hx rfl
   simp only [toV] at hx
   exact ⟨_, fun d ty => (by simp only [toV]; exact O.neg hx rfl), wrO_out h⟩
  ·rename_i hx
   have hx := eval_eq hx rfl
   simp only [toV] at hx
   exact ⟨_, fun d ty => (by simp only [toV]; exact O.compl hx), h⟩
  ·cases h
 ·split at h
  ·rename_i hs hd hx
   have := (T.ok _).desc _ hs
   have := (T.ok _).desc _ hd
   have hx := eval_eq hx rfl
   simp only [toV] at hx
   exact ⟨_, fun d ty => (by simp only [toV]; exact O.convInt hx rfl), h⟩
  ·cases h
 ·split at h
  ·split at h
   ·rename_i l hx
    have hx := eval_eq hx rfl
    simp only [toV] at hx
    obtain ⟨h1, h⟩ := bif_none h
    rw [fE_eq] at h
    exact ⟨_, fun d ty => (O.extract hx h1).wk (by rw [nthE_eq]; exact Wk.refl _), h⟩
   ·cases h
  ·cases h
 ·split at h
  ·rename_i hx
   have hx := eval_eq hx rfl
   simp only [toV] at hx
   exact ⟨_, fun d ty => (by simp only [toV]; exact O.nilCheckF hx), h⟩
  ·rename_i id p r c hx
   have hx := eval_eq hx rfl
   simp only [toV] at hx
   obtain ⟨h1, g⟩ := EHeap.isK_out h
   clear h
   have h := g
   obtain ⟨o, ho, hv⟩ := EHeap.is_out h1
   exact ⟨_, fun d ty => (by simp only [toV]; exact O.nilCheckP hx ho hv.symm), h⟩
  ·cases h
 ·split at h
  ·rename_i off sz t l hf hx
   have := (T.ok _).fld _ _ _ _ hf
   have hx : (toSt s).eval (.tmp t) = toV s.heap.len (.agg l) := by rw [<- hx]; rfl
   simp only [toV] at hx
   obtain ⟨h1, h⟩ := bif_none h
   rw [fE_eq] at h
   exact ⟨_, fun d ty => (O.field1 hx h1).wk (by rw [nthE_eq]; exact Wk.refl _), h⟩
  ·rename_i off sz i y hf hx
   have := (T.ok _).fld _ _ _ _ hf
   have hx := eval_eq hx rfl
   simp only [toV] at hx
   obtain ⟨h1, h⟩ := bif_none h
   obtain ⟨h2, h⟩ := bif_none h
   rw [fE_eq] at h
   exact ⟨_, fun d ty => (O.field1 hx h2).wk (by rw [cellE_F (τ := .st i) h1 (Nat.le_of_ble_eq_true h2)]; exact Wk.refl _), h⟩
  ·cases h
 ·split at h
  ·rename_i hd hx hy
   have := (T.ok _).desc _ hd
   have hx := eval_eq hx rfl
   have hy := eval_eq hy rfl
   simp only [toV] at hx hy
   obtain ⟨⟨p1, p2⟩, k⟩ := ixO_out h
   have hlt := (Int.toNat_lt p1).2 p2
   exact ⟨_, fun d ty => (by simp only [toV]; exact strAt_eq hlt ▸ O.indexStr hx hy p1 hlt), k⟩
  ·cases h
 ·rename_i c
  obtain ⟨callee, args, ats⟩ := c
  split at h
  ·rename_i hc
   simp only at hc
   subst hc
   exact runBuiltin_ok h
  ·cases h
 ·cases h
end
end
end Go.Abs
