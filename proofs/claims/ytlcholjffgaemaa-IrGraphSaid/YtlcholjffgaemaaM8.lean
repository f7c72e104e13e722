/-
Texts of the proof, part 8: Te Tx V1 Zm Zn Zo Zp Zq V2 V3 V4 V5.
No statement of the program is proved here.
-/
import Derived.Test.YtlcholjffgaemaaM7
set_option linter.unusedVariables false
namespace Go.Abs
open Go Go.Proofs
def ZeroOk (t : TypeId) (τ : Ty) : Prop := froT τ = true /\ ∀ z, (Tys.c Try.prog t).zero = some z -> τ.sz = z.cells.size /\ ∀ j, j < τ.sz -> ∃ u, cellC τ τ.z j = .ev u /\ ∀ len, Wk (V.cell (z.cells.getD j undef)) (toV len u)
theorem tyz2 : ZeroOk 2 (.int .i64) := ⟨rfl, fun z h => by
 injection h with h; subst h
 refine ⟨rfl, fun j hj => ?_⟩
 match j, hj with
 | 0, _ => exact ⟨_, rfl, fun len => by first | exact Wk.refl _ | exact Wk.nils _ _⟩
 | n + 1, h => exact absurd h (by show ¬ n + 1 < 1; omega)⟩
theorem tyz3 : ZeroOk 3 (.int .i64) := ⟨rfl, fun z h => by
 injection h with h; subst h
 refine ⟨rfl, fun j hj => ?_⟩
 match j, hj with
 | 0, _ => exact ⟨_, rfl, fun len => by first | exact Wk.refl _ | exact Wk.nils _ _⟩
 | n + 1, h => exact absurd h (by show ¬ n + 1 < 1; omega)⟩
theorem tyz4 : ZeroOk 4 .bool := ⟨rfl, fun z h => by
 injection h with h; subst h
 refine ⟨rfl, fun j hj => ?_⟩
 match j, hj with
 | 0, _ => exact ⟨_, rfl, fun len => by first | exact Wk.refl _ | exact Wk.nils _ _⟩
 | n + 1, h => exact absurd h (by show ¬ n + 1 < 1; omega)⟩
theorem tyz5 : ZeroOk 5 (.int .u8) := ⟨rfl, fun z h => by
 injection h with h; subst h
 refine ⟨rfl, fun j hj => ?_⟩
 match j, hj with
 | 0, _ => exact ⟨_, rfl, fun len => by first | exact Wk.refl _ | exact Wk.nils _ _⟩
 | n + 1, h => exact absurd h (by show ¬ n + 1 < 1; omega)⟩
theorem tyz6 : ZeroOk 6 (.int .u8) := ⟨rfl, fun z h => by
 injection h with h; subst h
 refine ⟨rfl, fun j hj => ?_⟩
 match j, hj with
 | 0, _ => exact ⟨_, rfl, fun len => by first | exact Wk.refl _ | exact Wk.nils _ _⟩
 | n + 1, h => exact absurd h (by show ¬ n + 1 < 1; omega)⟩
theorem tyz9 : ZeroOk 9 .str := ⟨rfl, fun z h => by
 injection h with h; subst h
 refine ⟨rfl, fun j hj => ?_⟩
 match j, hj with
 | 0, _ => exact ⟨_, rfl, fun len => by first | exact Wk.refl _ | exact Wk.nils _ _⟩
 | n + 1, h => exact absurd h (by show ¬ n + 1 < 1; omega)⟩
theorem tyz10 : ZeroOk 10 .str := ⟨rfl, fun z h => by
 injection h with h; subst h
 refine ⟨rfl, fun j hj => ?_⟩
 match j, hj with
 | 0, _ => exact ⟨_, rfl, fun len => by first | exact Wk.refl _ | exact Wk.nils _ _⟩
 | n + 1, h => exact absurd h (by show ¬ n + 1 < 1; omega)⟩
theorem tyz11 : ZeroOk 11 .str := ⟨rfl, fun z h => by
 injection h with h; subst h
 refine ⟨rfl, fun j hj => ?_⟩
 match j, hj with
 | 0, _ => exact ⟨_, rfl, fun len => by first | exact Wk.refl _ | exact Wk.nils _ _⟩
 | n + 1, h => exact absurd h (by show ¬ n + 1 < 1; omega)⟩
theorem tyz12 : ZeroOk 12 (.int .u64) := ⟨rfl, fun z h => by
 injection h with h; subst h
 refine ⟨rfl, fun j hj => ?_⟩
 match j, hj with
 | 0, _ => exact ⟨_, rfl, fun len => by first | exact Wk.refl _ | exact Wk.nils _ _⟩
 | n + 1, h => exact absurd h (by show ¬ n + 1 < 1; omega)⟩
theorem tyz21 : ZeroOk 21 (.int .i32) := ⟨rfl, fun z h => by
 injection h with h; subst h
 refine ⟨rfl, fun j hj => ?_⟩
 match j, hj with
 | 0, _ => exact ⟨_, rfl, fun len => by first | exact Wk.refl _ | exact Wk.nils _ _⟩
 | n + 1, h => exact absurd h (by show ¬ n + 1 < 1; omega)⟩
theorem tyz25 : ZeroOk 25 (.sl (.int .i64)) := ⟨rfl, fun z h => by
 injection h with h; subst h
 refine ⟨rfl, fun j hj => ?_⟩
 match j, hj with
 | 0, _ => exact ⟨_, rfl, fun len => by first | exact Wk.refl _ | exact Wk.nils _ _⟩
 | n + 1, h => exact absurd h (by show ¬ n + 1 < 1; omega)⟩
theorem tyz26 : ZeroOk 26 (.sl (.st 4)) := ⟨rfl, fun z h => by
 injection h with h; subst h
 refine ⟨rfl, fun j hj => ?_⟩
 match j, hj with
 | 0, _ => exact ⟨_, rfl, fun len => by first | exact Wk.refl _ | exact Wk.nils _ _⟩
 | n + 1, h => exact absurd h (by show ¬ n + 1 < 1; omega)⟩
theorem tyz27 : ZeroOk 27 (.sl (.st 5)) := ⟨rfl, fun z h => by
 injection h with h; subst h
 refine ⟨rfl, fun j hj => ?_⟩
 match j, hj with
 | 0, _ => exact ⟨_, rfl, fun len => by first | exact Wk.refl _ | exact Wk.nils _ _⟩
 | n + 1, h => exact absurd h (by show ¬ n + 1 < 1; omega)⟩
theorem tyz28 : ZeroOk 28 (.sl (.st 3)) := ⟨rfl, fun z h => by
 injection h with h; subst h
 refine ⟨rfl, fun j hj => ?_⟩
 match j, hj with
 | 0, _ => exact ⟨_, rfl, fun len => by first | exact Wk.refl _ | exact Wk.nils _ _⟩
 | n + 1, h => exact absurd h (by show ¬ n + 1 < 1; omega)⟩
theorem tyz30 : ZeroOk 30 (.st 6) := ⟨rfl, fun z h => by
 injection h with h; subst h
 refine ⟨rfl, fun j hj => ?_⟩
 match j, hj with
 | 0, _ => exact ⟨_, rfl, fun len => by first | exact Wk.refl _ | exact Wk.nils _ _⟩
 | 1, _ => exact ⟨_, rfl, fun len => by first | exact Wk.refl _ | exact Wk.nils _ _⟩
 | 2, _ => exact ⟨_, rfl, fun len => by first | exact Wk.refl _ | exact Wk.nils _ _⟩
 | 3, _ => exact ⟨_, rfl, fun len => by first | exact Wk.refl _ | exact Wk.nils _ _⟩
 | 4, _ => exact ⟨_, rfl, fun len => by first | exact Wk.refl _ | exact Wk.nils _ _⟩
 | 5, _ => exact ⟨_, rfl, fun len => by first | exact Wk.refl _ | exact Wk.nils _ _⟩
 | n + 6, h => exact absurd h (by show ¬ n + 6 < 6; omega)⟩
theorem tyz36 : ZeroOk 36 (.sl (.st 0)) := ⟨rfl, fun z h => by
 injection h with h; subst h
 refine ⟨rfl, fun j hj => ?_⟩
 match j, hj with
 | 0, _ => exact ⟨_, rfl, fun len => by first | exact Wk.refl _ | exact Wk.nils _ _⟩
 | n + 1, h => exact absurd h (by show ¬ n + 1 < 1; omega)⟩
theorem tyz37 : ZeroOk 37 (.sl (.st 1)) := ⟨rfl, fun z h => by
 injection h with h; subst h
 refine ⟨rfl, fun j hj => ?_⟩
 match j, hj with
 | 0, _ => exact ⟨_, rfl, fun len => by first | exact Wk.refl _ | exact Wk.nils _ _⟩
 | n + 1, h => exact absurd h (by show ¬ n + 1 < 1; omega)⟩
theorem tyz39 : ZeroOk 39 (.st 2) := ⟨rfl, fun z h => by
 injection h with h; subst h
 refine ⟨rfl, fun j hj => ?_⟩
 match j, hj with
 | 0, _ => exact ⟨_, rfl, fun len => by first | exact Wk.refl _ | exact Wk.nils _ _⟩
 | 1, _ => exact ⟨_, rfl, fun len => by first | exact Wk.refl _ | exact Wk.nils _ _⟩
 | 2, _ => exact ⟨_, rfl, fun len => by first | exact Wk.refl _ | exact Wk.nils _ _⟩
 | 3, _ => exact ⟨_, rfl, fun len => by first | exact Wk.refl _ | exact Wk.nils _ _⟩
 | n + 4, h => exact absurd h (by show ¬ n + 4 < 4; omega)⟩
theorem tyz41 : ZeroOk 41 (.st 3) := ⟨rfl, fun z h => by
 injection h with h; subst h
 refine ⟨rfl, fun j hj => ?_⟩
 match j, hj with
 | 0, _ => exact ⟨_, rfl, fun len => by first | exact Wk.refl _ | exact Wk.nils _ _⟩
 | 1, _ => exact ⟨_, rfl, fun len => by first | exact Wk.refl _ | exact Wk.nils _ _⟩
 | 2, _ => exact ⟨_, rfl, fun len => by first | exact Wk.refl _ | exact Wk.nils _ _⟩
 | 3, _ => exact ⟨_, rfl, fun len => by first | exact Wk.refl _ | exact Wk.nils _ _⟩
 | 4, _ => exact ⟨_, rfl, fun len => by first | exact Wk.refl _ | exact Wk.nils _ _⟩
 | 5, _ => exact ⟨_, rfl, fun len => by first | exact Wk.refl _ | exact Wk.nils _ _⟩
 | 6, _ => exact ⟨_, rfl, fun len => by first | exact Wk.refl _ | exact Wk.nils _ _⟩
 | 7, _ => exact ⟨_, rfl, fun len => by first | exact Wk.refl _ | exact Wk.nils _ _⟩
 | 8, _ => exact ⟨_, rfl, fun len => by first | exact Wk.refl _ | exact Wk.nils _ _⟩
 | n + 9, h => exact absurd h (by show ¬ n + 9 < 9; omega)⟩
theorem tyz44 : ZeroOk 44 (.int .u64) := ⟨rfl, fun z h => by
 injection h with h; subst h
 refine ⟨rfl, fun j hj => ?_⟩
 match j, hj with
 | 0, _ => exact ⟨_, rfl, fun len => by first | exact Wk.refl _ | exact Wk.nils _ _⟩
 | n + 1, h => exact absurd h (by show ¬ n + 1 < 1; omega)⟩
theorem tyz46 : ZeroOk 46 (.st 0) := ⟨rfl, fun z h => by
 injection h with h; subst h
 refine ⟨rfl, fun j hj => ?_⟩
 match j, hj with
 | 0, _ => exact ⟨_, rfl, fun len => by first | exact Wk.refl _ | exact Wk.nils _ _⟩
 | 1, _ => exact ⟨_, rfl, fun len => by first | exact Wk.refl _ | exact Wk.nils _ _⟩
 | 2, _ => exact ⟨_, rfl, fun len => by first | exact Wk.refl _ | exact Wk.nils _ _⟩
 | 3, _ => exact ⟨_, rfl, fun len => by first | exact Wk.refl _ | exact Wk.nils _ _⟩
 | 4, _ => exact ⟨_, rfl, fun len => by first | exact Wk.refl _ | exact Wk.nils _ _⟩
 | n + 5, h => exact absurd h (by show ¬ n + 5 < 5; omega)⟩
theorem tyz51 : ZeroOk 51 (.st 1) := ⟨rfl, fun z h => by
 injection h with h; subst h
 refine ⟨rfl, fun j hj => ?_⟩
 match j, hj with
 | 0, _ => exact ⟨_, rfl, fun len => by first | exact Wk.refl _ | exact Wk.nils _ _⟩
 | 1, _ => exact ⟨_, rfl, fun len => by first | exact Wk.refl _ | exact Wk.nils _ _⟩
 | n + 2, h => exact absurd h (by show ¬ n + 2 < 2; omega)⟩
theorem tyz53 : ZeroOk 53 (.st 4) := ⟨rfl, fun z h => by
 injection h with h; subst h
 refine ⟨rfl, fun j hj => ?_⟩
 match j, hj with
 | 0, _ => exact ⟨_, rfl, fun len => by first | exact Wk.refl _ | exact Wk.nils _ _⟩
 | 1, _ => exact ⟨_, rfl, fun len => by first | exact Wk.refl _ | exact Wk.nils _ _⟩
 | 2, _ => exact ⟨_, rfl, fun len => by first | exact Wk.refl _ | exact Wk.nils _ _⟩
 | 3, _ => exact ⟨_, rfl, fun len => by first | exact Wk.refl _ | exact Wk.nils _ _⟩
 | 4, _ => exact ⟨_, rfl, fun len => by first | exact Wk.refl _ | exact Wk.nils _ _⟩
 | n + 5, h => exact absurd h (by show ¬ n + 5 < 5; omega)⟩
theorem tyz55 : ZeroOk 55 (.st 5) := ⟨rfl, fun z h => by
 injection h with h; subst h
 refine ⟨rfl, fun j hj => ?_⟩
 match j, hj with
 | 0, _ => exact ⟨_, rfl, fun len => by first | exact Wk.refl _ | exact Wk.nils _ _⟩
 | 1, _ => exact ⟨_, rfl, fun len => by first | exact Wk.refl _ | exact Wk.nils _ _⟩
 | 2, _ => exact ⟨_, rfl, fun len => by first | exact Wk.refl _ | exact Wk.nils _ _⟩
 | n + 3, h => exact absurd h (by show ¬ n + 3 < 3; omega)⟩
theorem tyz57 : ZeroOk 57 (.st 7) := ⟨rfl, fun z h => by
 injection h with h; subst h
 refine ⟨rfl, fun j hj => ?_⟩
 match j, hj with
 | 0, _ => exact ⟨_, rfl, fun len => by first | exact Wk.refl _ | exact Wk.nils _ _⟩
 | 1, _ => exact ⟨_, rfl, fun len => by first | exact Wk.refl _ | exact Wk.nils _ _⟩
 | n + 2, h => exact absurd h (by show ¬ n + 2 < 2; omega)⟩
theorem tyz67 : ZeroOk 67 (.sl (.sl (.int .i64))) := ⟨rfl, fun z h => by
 injection h with h; subst h
 refine ⟨rfl, fun j hj => ?_⟩
 match j, hj with
 | 0, _ => exact ⟨_, rfl, fun len => by first | exact Wk.refl _ | exact Wk.nils _ _⟩
 | n + 1, h => exact absurd h (by show ¬ n + 1 < 1; omega)⟩
theorem tyz69 : ZeroOk 69 (.sl .bool) := ⟨rfl, fun z h => by
 injection h with h; subst h
 refine ⟨rfl, fun j hj => ?_⟩
 match j, hj with
 | 0, _ => exact ⟨_, rfl, fun len => by first | exact Wk.refl _ | exact Wk.nils _ _⟩
 | n + 1, h => exact absurd h (by show ¬ n + 1 < 1; omega)⟩
theorem tyz96 : ZeroOk 96 (.int .i64) := ⟨rfl, fun z h => by
 injection h with h; subst h
 refine ⟨rfl, fun j hj => ?_⟩
 match j, hj with
 | 0, _ => exact ⟨_, rfl, fun len => by first | exact Wk.refl _ | exact Wk.nils _ _⟩
 | n + 1, h => exact absurd h (by show ¬ n + 1 < 1; omega)⟩
theorem tyz113 : ZeroOk 113 (.sl .str) := ⟨rfl, fun z h => by
 injection h with h; subst h
 refine ⟨rfl, fun j hj => ?_⟩
 match j, hj with
 | 0, _ => exact ⟨_, rfl, fun len => by first | exact Wk.refl _ | exact Wk.nils _ _⟩
 | n + 1, h => exact absurd h (by show ¬ n + 1 < 1; omega)⟩
theorem tyz133 : ZeroOk 133 (.sl (.int .u8)) := ⟨rfl, fun z h => by
 injection h with h; subst h
 refine ⟨rfl, fun j hj => ?_⟩
 match j, hj with
 | 0, _ => exact ⟨_, rfl, fun len => by first | exact Wk.refl _ | exact Wk.nils _ _⟩
 | n + 1, h => exact absurd h (by show ¬ n + 1 < 1; omega)⟩
theorem tyz142 : ZeroOk 142 (.int .u64) := ⟨rfl, fun z h => by
 injection h with h; subst h
 refine ⟨rfl, fun j hj => ?_⟩
 match j, hj with
 | 0, _ => exact ⟨_, rfl, fun len => by first | exact Wk.refl _ | exact Wk.nils _ _⟩
 | n + 1, h => exact absurd h (by show ¬ n + 1 < 1; omega)⟩
theorem tyz148 : ZeroOk 148 (.int .i64) := ⟨rfl, fun z h => by
 injection h with h; subst h
 refine ⟨rfl, fun j hj => ?_⟩
 match j, hj with
 | 0, _ => exact ⟨_, rfl, fun len => by first | exact Wk.refl _ | exact Wk.nils _ _⟩
 | n + 1, h => exact absurd h (by show ¬ n + 1 < 1; omega)⟩
theorem tyz155 : ZeroOk 155 (.int .u32) := ⟨rfl, fun z h => by
 injection h with h; subst h
 refine ⟨rfl, fun j hj => ?_⟩
 match j, hj with
 | 0, _ => exact ⟨_, rfl, fun len => by first | exact Wk.refl _ | exact Wk.nils _ _⟩
 | n + 1, h => exact absurd h (by show ¬ n + 1 < 1; omega)⟩
theorem tyz157 : ZeroOk 157 (.int .u64) := ⟨rfl, fun z h => by
 injection h with h; subst h
 refine ⟨rfl, fun j hj => ?_⟩
 match j, hj with
 | 0, _ => exact ⟨_, rfl, fun len => by first | exact Wk.refl _ | exact Wk.nils _ _⟩
 | n + 1, h => exact absurd h (by show ¬ n + 1 < 1; omega)⟩
theorem tyz173 : ZeroOk 173 (.int .u8) := ⟨rfl, fun z h => by
 injection h with h; subst h
 refine ⟨rfl, fun j hj => ?_⟩
 match j, hj with
 | 0, _ => exact ⟨_, rfl, fun len => by first | exact Wk.refl _ | exact Wk.nils _ _⟩
 | n + 1, h => exact absurd h (by show ¬ n + 1 < 1; omega)⟩
theorem tyz174 : ZeroOk 174 (.int .u8) := ⟨rfl, fun z h => by
 injection h with h; subst h
 refine ⟨rfl, fun j hj => ?_⟩
 match j, hj with
 | 0, _ => exact ⟨_, rfl, fun len => by first | exact Wk.refl _ | exact Wk.nils _ _⟩
 | n + 1, h => exact absurd h (by show ¬ n + 1 < 1; omega)⟩
theorem tyz177 : ZeroOk 177 (.int .i32) := ⟨rfl, fun z h => by
 injection h with h; subst h
 refine ⟨rfl, fun j hj => ?_⟩
 match j, hj with
 | 0, _ => exact ⟨_, rfl, fun len => by first | exact Wk.refl _ | exact Wk.nils _ _⟩
 | n + 1, h => exact absurd h (by show ¬ n + 1 < 1; omega)⟩
theorem tyz178 : ZeroOk 178 (.int .i32) := ⟨rfl, fun z h => by
 injection h with h; subst h
 refine ⟨rfl, fun j hj => ?_⟩
 match j, hj with
 | 0, _ => exact ⟨_, rfl, fun len => by first | exact Wk.refl _ | exact Wk.nils _ _⟩
 | n + 1, h => exact absurd h (by show ¬ n + 1 < 1; omega)⟩
def ZOk (t : TypeId) (o : Option Ty) : Prop := ∀ τ, o = some τ -> ZeroOk t τ
theorem zNode {t : TypeId} {b : Bool} {x y : Option Ty} (h1 : ZOk t x) (h2 : ZOk t y) : ZOk t (bif b then x else y) := by cases b <;> assumption
theorem zLeaf {t n : TypeId} {x : Ty} (h : ZeroOk n x) : ZOk t (bif Nat.beq t n then some x else none) := fun τ e => by
 cases hb : Nat.beq t n with
 | true => rw [hb] at e; obtain rfl := Nat.eq_of_beq_eq_true hb; cases e; exact h
 | false => rw [hb] at e; cases e
def tyes (t : TypeId) : Option Ty := (bif Nat.blt t 44 then (bif Nat.blt t 21 then (bif Nat.blt t 6 then (bif Nat.blt t 4 then (bif Nat.blt t 3 then (bif Nat.beq t 2 then some (.int .i64) else none) else (bif Nat.beq t 3 then some (.int .i64) else none)) else (bif Nat.blt t 5 then (bif Nat.beq t 4 then some .bool else none) else (bif Nat.beq t 5 then some (.int .u8) else none))) else (bif Nat.blt t 10 then (bif Nat.blt t 9 then (bif Nat.beq t 6 then some (.int .u8) else none) else (bif Nat.beq t 9 then some .str else none)) else (bif Nat.blt t 11 then (bif Nat.beq t 10 then some .str else none) else (bif Nat.blt t 12 then (bif Nat.beq t 11 then some .str else none) else (bif Nat.beq t 12 then some (.int .u64) else none))))) else (bif Nat.blt t 30 then (bif Nat.blt t 26 then (bif Nat.blt t 25 then (bif Nat.beq t 21 then some (.int .i32) else none) else (bif Nat.beq t 25 then some (.sl (.int .i64)) else none)) else (bif Nat.blt t 27 then (bif Nat.beq t 26 then some (.sl (.st 4)) else none) else (bif Nat.blt t 28 then (bif Nat.beq t 27 then some (.sl (.st 5)) else none) else (bif Nat.beq t 28 then some (.sl (.st 3)) else none)))) else (bif Nat.blt t 37 then (bif Nat.blt t 36 then (bif Nat.beq t 30 then some (.st 6) else none) else (bif Nat.beq t 36 then some (.sl (.st 0)) else none)) else (bif Nat.blt t 39 then (bif Nat.beq t 37 then some (.sl (.st 1)) else none) else (bif Nat.blt t 41 then (bif Nat.beq t 39 then some (.st 2) else none) else (bif Nat.beq t 41 then some (.st 3) else none)))))) else (bif Nat.blt t 113 then (bif Nat.blt t 55 then (bif Nat.blt t 51 then (bif Nat.blt t 46 then (bif Nat.beq t 44 then some (.int .u64) else none) else (bif Nat.beq t 46 then some (.st 0) else none)) else (bif Nat.blt t 53 then (bif Nat.beq t 51 then some (.st 1) else none) else (bif Nat.beq t 53 then some (.st 4) else none))) else (bif Nat.blt t 67 then (bif Nat.blt t 57 then (bif Nat.beq t 55 then some (.st 5) else none) else (bif Nat.beq t 57 then some (.st 7) else none)) else (bif Nat.blt t 69 then (bif Nat.beq t 67 then some (.sl (.sl (.int .i64))) else none) else (bif Nat.blt t 96 then (bif Nat.beq t 69 then some (.sl .bool) else none) else (bif Nat.beq t 96 then some (.int .i64) else none))))) else (bif Nat.blt t 157 then (bif Nat.blt t 142 then (bif Nat.blt t 133 then (bif Nat.beq t 113 then some (.sl .str) else none) else (bif Nat.beq t 133 then some (.sl (.int .u8)) else none)) else (bif Nat.blt t 148 then (bif Nat.beq t 142 then some (.int .u64) else none) else (bif Nat.blt t 155 then (bif Nat.beq t 148 then some (.int .i64) else none) else (bif Nat.beq t 155 then some (.int .u32) else none)))) else (bif Nat.blt t 174 then (bif Nat.blt t 173 then (bif Nat.beq t 157 then some (.int .u64) else none) else (bif Nat.beq t 173 then some (.int .u8) else none)) else (bif Nat.blt t 177 then (bif Nat.beq t 174 then some (.int .u8) else none) else (bif Nat.blt t 178 then (bif Nat.beq t 177 then some (.int .i32) else none) else (bif Nat.beq t 178 then some (.int .i32) else none)))))))
theorem tyes_ok (t : TypeId) : ZOk t (tyes t) := (zNode (zNode (zNode (zNode (zNode (zLeaf tyz2) (zLeaf tyz3)) (zNode (zLeaf tyz4) (zLeaf tyz5))) (zNode (zNode (zLeaf tyz6) (zLeaf tyz9)) (zNode (zLeaf tyz10) (zNode (zLeaf tyz11) (zLeaf tyz12))))) (zNode (zNode (zNode (zLeaf tyz21) (zLeaf tyz25)) (zNode (zLeaf tyz26) (zNode (zLeaf tyz27) (zLeaf tyz28)))) (zNode (zNode (zLeaf tyz30) (zLeaf tyz36)) (zNode (zLeaf tyz37) (zNode (zLeaf tyz39) (zLeaf tyz41)))))) (zNode (zNode (zNode (zNode (zLeaf tyz44) (zLeaf tyz46)) (zNode (zLeaf tyz51) (zLeaf tyz53))) (zNode (zNode (zLeaf tyz55) (zLeaf tyz57)) (zNode (zLeaf tyz67) (zNode (zLeaf tyz69) (zLeaf tyz96))))) (zNode (zNode (zNode (zLeaf tyz113) (zLeaf tyz133)) (zNode (zLeaf tyz142) (zNode (zLeaf tyz148) (zLeaf tyz155)))) (zNode (zNode (zLeaf tyz157) (zLeaf tyz173)) (zNode (zLeaf tyz174) (zNode (zLeaf tyz177) (zLeaf tyz178)))))))
def tyos (t : TypeId) : Option Ty := bif Nat.beq t 25 then some (.st 12) else none
theorem tyos_ok (t : TypeId) (τ : Ty) (z : Value) (h : tyos t = some τ) (hz : (Tys.c Try.prog t).zero = some z) : τ.sz = z.cells.size /\ ∀ j, j < τ.sz -> (∃ u, cellC τ τ.z j = .ev u /\ ∀ len, Wk (V.cell (z.cells.getD j undef)) (toV len u)) \/ ∃ t' e', cellC τ τ.z j = .own t' e' [] /\ V.cell (z.cells.getD j undef) = .nils := by
 unfold tyos at h
 cases hb : Nat.beq t 25 with
 | true =>
  rw [hb] at h
  obtain rfl := Nat.eq_of_beq_eq_true hb
  injection h with h; subst h
  injection hz with hz; subst hz
  refine ⟨rfl, fun j hj => ?_⟩
  match j, hj with
  | 0, _ => exact .inr ⟨3, .int .i64, rfl, rfl⟩
  | n + 1, h => exact absurd h (by show ¬ n + 1 < 1; omega)
 | false =>
 rw [hb] at h
 cases h
instance : TyE Try.prog := ⟨tyes, fun t τ h => (tyes_ok t τ h).1, fun t τ z h hz => (tyes_ok t τ h).2 z hz, tyos, fun t τ z h hz => tyos_ok t τ z h hz⟩
end Go.Abs
namespace Go.Abs
open Go Go.Proofs
def tyx7 : TyXE := { nf := some 4 }
theorem tyx7_ok : TyXE.Ok Try.prog 7 tyx7 := ⟨(fun m h => by cases h; exact ⟨_, Try.underlying7, rfl, by kernel_rfl⟩), (fun l h => by cases h), (fun s e τ h => by cases h), (fun m s h => by cases h)⟩
def tyx8 : TyXE := { nf := some 4 }
theorem tyx8_ok : TyXE.Ok Try.prog 8 tyx8 := ⟨(fun m h => by cases h; exact ⟨_, Try.underlying8, rfl, by kernel_rfl⟩), (fun l h => by cases h), (fun s e τ h => by cases h), (fun m s h => by cases h)⟩
def tyx13 : TyXE := { nf := some 2 }
theorem tyx13_ok : TyXE.Ok Try.prog 13 tyx13 := ⟨(fun m h => by cases h; exact ⟨_, Try.underlying13, rfl, by kernel_rfl⟩), (fun l h => by cases h), (fun s e τ h => by cases h), (fun m s h => by cases h)⟩
def tyx14 : TyXE := { nf := some 2 }
theorem tyx14_ok : TyXE.Ok Try.prog 14 tyx14 := ⟨(fun m h => by cases h; exact ⟨_, Try.underlying14, rfl, by kernel_rfl⟩), (fun l h => by cases h), (fun s e τ h => by cases h), (fun m s h => by cases h)⟩
def tyx18 : TyXE := { nf := some 1 }
theorem tyx18_ok : TyXE.Ok Try.prog 18 tyx18 := ⟨(fun m h => by cases h; exact ⟨_, Try.underlying18, rfl, by kernel_rfl⟩), (fun l h => by cases h), (fun s e τ h => by cases h), (fun m s h => by cases h)⟩
def tyx19 : TyXE := { nf := some 1 }
theorem tyx19_ok : TyXE.Ok Try.prog 19 tyx19 := ⟨(fun m h => by cases h; exact ⟨_, Try.underlying19, rfl, by kernel_rfl⟩), (fun l h => by cases h), (fun s e τ h => by cases h), (fun m s h => by cases h)⟩
def tyx29 : TyXE := { nf := some 6 }
theorem tyx29_ok : TyXE.Ok Try.prog 29 tyx29 := ⟨(fun m h => by cases h; exact ⟨_, Try.underlying29, rfl, by kernel_rfl⟩), (fun l h => by cases h), (fun s e τ h => by cases h), (fun m s h => by cases h)⟩
def tyx30 : TyXE := { nf := some 6 }
theorem tyx30_ok : TyXE.Ok Try.prog 30 tyx30 := ⟨(fun m h => by cases h; exact ⟨_, Try.underlying30, rfl, by kernel_rfl⟩), (fun l h => by cases h), (fun s e τ h => by cases h), (fun m s h => by cases h)⟩
def tyx38 : TyXE := { nf := some 4 }
theorem tyx38_ok : TyXE.Ok Try.prog 38 tyx38 := ⟨(fun m h => by cases h; exact ⟨_, Try.underlying38, rfl, by kernel_rfl⟩), (fun l h => by cases h), (fun s e τ h => by cases h), (fun m s h => by cases h)⟩
def tyx39 : TyXE := { nf := some 4 }
theorem tyx39_ok : TyXE.Ok Try.prog 39 tyx39 := ⟨(fun m h => by cases h; exact ⟨_, Try.underlying39, rfl, by kernel_rfl⟩), (fun l h => by cases h), (fun s e τ h => by cases h), (fun m s h => by cases h)⟩
def tyx40 : TyXE := { nf := some 6 }
theorem tyx40_ok : TyXE.Ok Try.prog 40 tyx40 := ⟨(fun m h => by cases h; exact ⟨_, Try.underlying40, rfl, by kernel_rfl⟩), (fun l h => by cases h), (fun s e τ h => by cases h), (fun m s h => by cases h)⟩
def tyx41 : TyXE := { nf := some 6 }
theorem tyx41_ok : TyXE.Ok Try.prog 41 tyx41 := ⟨(fun m h => by cases h; exact ⟨_, Try.underlying41, rfl, by kernel_rfl⟩), (fun l h => by cases h), (fun s e τ h => by cases h), (fun m s h => by cases h)⟩
def tyx45 : TyXE := { nf := some 5 }
theorem tyx45_ok : TyXE.Ok Try.prog 45 tyx45 := ⟨(fun m h => by cases h; exact ⟨_, Try.underlying45, rfl, by kernel_rfl⟩), (fun l h => by cases h), (fun s e τ h => by cases h), (fun m s h => by cases h)⟩
def tyx46 : TyXE := { nf := some 5 }
theorem tyx46_ok : TyXE.Ok Try.prog 46 tyx46 := ⟨(fun m h => by cases h; exact ⟨_, Try.underlying46, rfl, by kernel_rfl⟩), (fun l h => by cases h), (fun s e τ h => by cases h), (fun m s h => by cases h)⟩
def tyx50 : TyXE := { nf := some 2 }
theorem tyx50_ok : TyXE.Ok Try.prog 50 tyx50 := ⟨(fun m h => by cases h; exact ⟨_, Try.underlying50, rfl, by kernel_rfl⟩), (fun l h => by cases h), (fun s e τ h => by cases h), (fun m s h => by cases h)⟩
def tyx51 : TyXE := { nf := some 2 }
theorem tyx51_ok : TyXE.Ok Try.prog 51 tyx51 := ⟨(fun m h => by cases h; exact ⟨_, Try.underlying51, rfl, by kernel_rfl⟩), (fun l h => by cases h), (fun s e τ h => by cases h), (fun m s h => by cases h)⟩
def tyx52 : TyXE := { nf := some 5 }
theorem tyx52_ok : TyXE.Ok Try.prog 52 tyx52 := ⟨(fun m h => by cases h; exact ⟨_, Try.underlying52, rfl, by kernel_rfl⟩), (fun l h => by cases h), (fun s e τ h => by cases h), (fun m s h => by cases h)⟩
def tyx53 : TyXE := { nf := some 5, eq := some [.string, (.int .i64), (.int .i64), (.int .i64), (.int .i64)] }
theorem tyx53_ok : TyXE.Ok Try.prog 53 tyx53 := ⟨(fun m h => by cases h; exact ⟨_, Try.underlying53, rfl, by kernel_rfl⟩), (fun l h => by cases h; kernel_rfl), (fun s e τ h => by cases h), (fun m s h => by cases h)⟩
def tyx54 : TyXE := { nf := some 3 }
theorem tyx54_ok : TyXE.Ok Try.prog 54 tyx54 := ⟨(fun m h => by cases h; exact ⟨_, Try.underlying54, rfl, by kernel_rfl⟩), (fun l h => by cases h), (fun s e τ h => by cases h), (fun m s h => by cases h)⟩
def tyx55 : TyXE := { nf := some 3, eq := some [.string, (.int .i64), .bool] }
theorem tyx55_ok : TyXE.Ok Try.prog 55 tyx55 := ⟨(fun m h => by cases h; exact ⟨_, Try.underlying55, rfl, by kernel_rfl⟩), (fun l h => by cases h; kernel_rfl), (fun s e τ h => by cases h), (fun m s h => by cases h)⟩
def tyx56 : TyXE := { nf := some 2 }
theorem tyx56_ok : TyXE.Ok Try.prog 56 tyx56 := ⟨(fun m h => by cases h; exact ⟨_, Try.underlying56, rfl, by kernel_rfl⟩), (fun l h => by cases h), (fun s e τ h => by cases h), (fun m s h => by cases h)⟩
def tyx57 : TyXE := { nf := some 2, eq := some [(.int .i64), .bool] }
theorem tyx57_ok : TyXE.Ok Try.prog 57 tyx57 := ⟨(fun m h => by cases h; exact ⟨_, Try.underlying57, rfl, by kernel_rfl⟩), (fun l h => by cases h; kernel_rfl), (fun s e τ h => by cases h), (fun m s h => by cases h)⟩
def tyx58 : TyXE := { ar := some (2, 2) }
theorem tyx58_ok : TyXE.Ok Try.prog 58 tyx58 := ⟨(fun m h => by cases h), (fun l h => by cases h), (fun s e τ h => by cases h), (fun m s h => by cases h; exact ⟨_, inferInstance⟩)⟩
def tyx59 : TyXE := { ar := some (2, 1) }
theorem tyx59_ok : TyXE.Ok Try.prog 59 tyx59 := ⟨(fun m h => by cases h), (fun l h => by cases h), (fun s e τ h => by cases h), (fun m s h => by cases h; exact ⟨_, inferInstance⟩)⟩
def tyx64 : TyXE := { ar := some (2, 1) }
theorem tyx64_ok : TyXE.Ok Try.prog 64 tyx64 := ⟨(fun m h => by cases h), (fun l h => by cases h), (fun s e τ h => by cases h), (fun m s h => by cases h; exact ⟨_, inferInstance⟩)⟩
def tyx91 : TyXE := { mp := some (false, 3, (.int .i64)) }
theorem tyx91_ok : TyXE.Ok Try.prog 91 tyx91 := ⟨(fun m h => by cases h), (fun l h => by cases h), (fun s e τ h => by cases h; exact ⟨⟨_, Try.underlying91, Try.underlying3⟩⟩), (fun m s h => by cases h)⟩
def tyx106 : TyXE := { nf := some 3 }
theorem tyx106_ok : TyXE.Ok Try.prog 106 tyx106 := ⟨(fun m h => by cases h; exact ⟨_, Try.underlying106, rfl, by kernel_rfl⟩), (fun l h => by cases h), (fun s e τ h => by cases h), (fun m s h => by cases h)⟩
def tyx107 : TyXE := { nf := some 3 }
theorem tyx107_ok : TyXE.Ok Try.prog 107 tyx107 := ⟨(fun m h => by cases h; exact ⟨_, Try.underlying107, rfl, by kernel_rfl⟩), (fun l h => by cases h), (fun s e τ h => by cases h), (fun m s h => by cases h)⟩
def tyx134 : TyXE := { mp := some (true, 4, .bool) }
theorem tyx134_ok : TyXE.Ok Try.prog 134 tyx134 := ⟨(fun m h => by cases h), (fun l h => by cases h), (fun s e τ h => by cases h; exact ⟨⟨_, Try.underlying134, Try.underlying9⟩⟩), (fun m s h => by cases h)⟩
def tyx144 : TyXE := { ar := some (3, 1) }
theorem tyx144_ok : TyXE.Ok Try.prog 144 tyx144 := ⟨(fun m h => by cases h), (fun l h => by cases h), (fun s e τ h => by cases h), (fun m s h => by cases h; exact ⟨_, inferInstance⟩)⟩
def tyx167 : TyXE := { nf := some 4 }
theorem tyx167_ok : TyXE.Ok Try.prog 167 tyx167 := ⟨(fun m h => by cases h; exact ⟨_, Try.underlying167, rfl, by kernel_rfl⟩), (fun l h => by cases h), (fun s e τ h => by cases h), (fun m s h => by cases h)⟩
def tyx168 : TyXE := { nf := some 4 }
theorem tyx168_ok : TyXE.Ok Try.prog 168 tyx168 := ⟨(fun m h => by cases h; exact ⟨_, Try.underlying168, rfl, by kernel_rfl⟩), (fun l h => by cases h), (fun s e τ h => by cases h), (fun m s h => by cases h)⟩
def tyx169 : TyXE := { ar := some (0, 1) }
theorem tyx169_ok : TyXE.Ok Try.prog 169 tyx169 := ⟨(fun m h => by cases h), (fun l h => by cases h), (fun s e τ h => by cases h), (fun m s h => by cases h; exact ⟨_, inferInstance⟩)⟩
def tyx179 : TyXE := { nf := some 11 }
theorem tyx179_ok : TyXE.Ok Try.prog 179 tyx179 := ⟨(fun m h => by cases h; exact ⟨_, Try.underlying179, rfl, by kernel_rfl⟩), (fun l h => by cases h), (fun s e τ h => by cases h), (fun m s h => by cases h)⟩
def tyx180 : TyXE := { nf := some 11 }
theorem tyx180_ok : TyXE.Ok Try.prog 180 tyx180 := ⟨(fun m h => by cases h; exact ⟨_, Try.underlying180, rfl, by kernel_rfl⟩), (fun l h => by cases h), (fun s e τ h => by cases h), (fun m s h => by cases h)⟩
theorem xNode {t : TypeId} {b : Bool} {x y : TyXE} (h1 : TyXE.Ok Try.prog t x) (h2 : TyXE.Ok Try.prog t y) : TyXE.Ok Try.prog t (bif b then x else y) := by cases b <;> assumption
theorem xLeaf {t n : TypeId} {x : TyXE} (h : TyXE.Ok Try.prog n x) : TyXE.Ok Try.prog t (bif Nat.beq t n then x else {}) := by
 cases hb : Nat.beq t n with
 | true => obtain rfl := Nat.eq_of_beq_eq_true hb; exact h
 | false => exact ⟨fun m h => (by cases h), fun l h => (by cases h), fun s e τ h => (by cases h), fun m s h => (by cases h)⟩
def tyxs (t : TypeId) : TyXE := (bif Nat.blt t 53 then (bif Nat.blt t 38 then (bif Nat.blt t 18 then (bif Nat.blt t 13 then (bif Nat.blt t 8 then (bif Nat.beq t 7 then tyx7 else {}) else (bif Nat.beq t 8 then tyx8 else {})) else (bif Nat.blt t 14 then (bif Nat.beq t 13 then tyx13 else {}) else (bif Nat.beq t 14 then tyx14 else {}))) else (bif Nat.blt t 29 then (bif Nat.blt t 19 then (bif Nat.beq t 18 then tyx18 else {}) else (bif Nat.beq t 19 then tyx19 else {})) else (bif Nat.blt t 30 then (bif Nat.beq t 29 then tyx29 else {}) else (bif Nat.beq t 30 then tyx30 else {})))) else (bif Nat.blt t 45 then (bif Nat.blt t 40 then (bif Nat.blt t 39 then (bif Nat.beq t 38 then tyx38 else {}) else (bif Nat.beq t 39 then tyx39 else {})) else (bif Nat.blt t 41 then (bif Nat.beq t 40 then tyx40 else {}) else (bif Nat.beq t 41 then tyx41 else {}))) else (bif Nat.blt t 50 then (bif Nat.blt t 46 then (bif Nat.beq t 45 then tyx45 else {}) else (bif Nat.beq t 46 then tyx46 else {})) else (bif Nat.blt t 51 then (bif Nat.beq t 50 then tyx50 else {}) else (bif Nat.blt t 52 then (bif Nat.beq t 51 then tyx51 else {}) else (bif Nat.beq t 52 then tyx52 else {})))))) else (bif Nat.blt t 106 then (bif Nat.blt t 57 then (bif Nat.blt t 55 then (bif Nat.blt t 54 then (bif Nat.beq t 53 then tyx53 else {}) else (bif Nat.beq t 54 then tyx54 else {})) else (bif Nat.blt t 56 then (bif Nat.beq t 55 then tyx55 else {}) else (bif Nat.beq t 56 then tyx56 else {}))) else (bif Nat.blt t 59 then (bif Nat.blt t 58 then (bif Nat.beq t 57 then tyx57 else {}) else (bif Nat.beq t 58 then tyx58 else {})) else (bif Nat.blt t 64 then (bif Nat.beq t 59 then tyx59 else {}) else (bif Nat.blt t 91 then (bif Nat.beq t 64 then tyx64 else {}) else (bif Nat.beq t 91 then tyx91 else {}))))) else (bif Nat.blt t 167 then (bif Nat.blt t 134 then (bif Nat.blt t 107 then (bif Nat.beq t 106 then tyx106 else {}) else (bif Nat.beq t 107 then tyx107 else {})) else (bif Nat.blt t 144 then (bif Nat.beq t 134 then tyx134 else {}) else (bif Nat.beq t 144 then tyx144 else {}))) else (bif Nat.blt t 169 then (bif Nat.blt t 168 then (bif Nat.beq t 167 then tyx167 else {}) else (bif Nat.beq t 168 then tyx168 else {})) else (bif Nat.blt t 179 then (bif Nat.beq t 169 then tyx169 else {}) else (bif Nat.blt t 180 then (bif Nat.beq t 179 then tyx179 else {}) else (bif Nat.beq t 180 then tyx180 else {})))))))
theorem tyxs_ok (t : TypeId) : TyXE.Ok Try.prog t (tyxs t) := (xNode (xNode (xNode (xNode (xNode (xLeaf tyx7_ok) (xLeaf tyx8_ok)) (xNode (xLeaf tyx13_ok) (xLeaf tyx14_ok))) (xNode (xNode (xLeaf tyx18_ok) (xLeaf tyx19_ok)) (xNode (xLeaf tyx29_ok) (xLeaf tyx30_ok)))) (xNode (xNode (xNode (xLeaf tyx38_ok) (xLeaf tyx39_ok)) (xNode (xLeaf tyx40_ok) (xLeaf tyx41_ok))) (xNode (xNode (xLeaf tyx45_ok) (xLeaf tyx46_ok)) (xNode (xLeaf tyx50_ok) (xNode (xLeaf tyx51_ok) (xLeaf tyx52_ok)))))) (xNode (xNode (xNode (xNode (xLeaf tyx53_ok) (xLeaf tyx54_ok)) (xNode (xLeaf tyx55_ok) (xLeaf tyx56_ok))) (xNode (xNode (xLeaf tyx57_ok) (xLeaf tyx58_ok)) (xNode (xLeaf tyx59_ok) (xNode (xLeaf tyx64_ok) (xLeaf tyx91_ok))))) (xNode (xNode (xNode (xLeaf tyx106_ok) (xLeaf tyx107_ok)) (xNode (xLeaf tyx134_ok) (xLeaf tyx144_ok))) (xNode (xNode (xLeaf tyx167_ok) (xLeaf tyx168_ok)) (xNode (xLeaf tyx169_ok) (xNode (xLeaf tyx179_ok) (xLeaf tyx180_ok)))))))
instance : TyX Try.prog := ⟨tyxs, tyxs_ok⟩
end Go.Abs
set_option linter.unusedSectionVars false
set_option linter.unusedSimpArgs false
set_option maxHeartbeats 1000000
namespace Go.Abs
open Go Go.Proofs
noncomputable section
def ann42 : Ann := (.seq .o (.seq .o .o))
def go42 (x0 : Int) : (Option (Bool × Unit)) :=
 (bif (decide ((2 : Int) <= x0)) then
  (some ((decide (x0 <= (20 : Int))), ()))
  else
  (some (false, ())))
theorem run42 (x0 : Int) : runF (P := Try.prog) [] Try.f42 ann42 [(0, (.i .i64))] [] .b [] (x0, ()) () = go42 x0 := by kernel_rfl
def ann43 : Ann := (.seq .o (.seq .o .o))
def go43 (x0 : Int) : (Option (Bool × Unit)) :=
 (bif (decide ((2 : Int) <= x0)) then
  (some ((decide (x0 <= (20 : Int))), ()))
  else
  (some (false, ())))
theorem run43 (x0 : Int) : runF (P := Try.prog) [] Try.f43 ann43 [(0, (.i .i64))] [] .b [] (x0, ()) () = go43 x0 := by kernel_rfl
def ann15 : Ann := (.seq .o (.seq .o .o))
def go15 (x0 : Int) : (Option (Bool × Unit)) :=
 (bif (decide ((1 : Int) <= x0)) then
  (some ((decide (x0 <= (24 : Int))), ()))
  else
  (some (false, ())))
theorem run15 (x0 : Int) : runF (P := Try.prog) [] Try.f15 ann15 [(0, (.i .i64))] [] .b [] (x0, ()) () = go15 x0 := by kernel_rfl
def ann92 : Ann := (.seq .o (.seq .o .o))
def go92 (x0 : Int) : (Option (Bool × Unit)) :=
 (bif (decide ((1 : Int) <= x0)) then
  (some ((decide (x0 <= (64 : Int))), ()))
  else
  (some (false, ())))
theorem run92 (x0 : Int) : runF (P := Try.prog) [] Try.f92 ann92 [(0, (.i .i64))] [] .b [] (x0, ()) () = go92 x0 := by kernel_rfl
def ann94 : Ann := (.seq .o (.seq .o .o))
def go94 (x0 : Int) : (Option (Bool × Unit)) :=
 (bif (decide ((15 : Int) <= x0)) then
  (some ((decide (x0 <= (20 : Int))), ()))
  else
  (some (false, ())))
theorem run94 (x0 : Int) : runF (P := Try.prog) [] Try.f94 ann94 [(0, (.i .i64))] [] .b [] (x0, ()) () = go94 x0 := by kernel_rfl
def ann90 : Ann := (.seq .o (.seq .o .o))
def go90 (x0 : Int) : (Option (Bool × Unit)) :=
 (bif (decide ((97 : Int) <= x0)) then
  (bif (decide (x0 <= (122 : Int))) then
   (some (true, ()))
   else
   (bif (decide ((65 : Int) <= x0)) then
    (bif (decide (x0 <= (90 : Int))) then
     (some (true, ()))
     else
     (some ((decide (x0 = (95 : Int))), ())))
    else
    (some ((decide (x0 = (95 : Int))), ()))))
  else
  (bif (decide ((65 : Int) <= x0)) then
   (bif (decide (x0 <= (90 : Int))) then
    (some (true, ()))
    else
    (some ((decide (x0 = (95 : Int))), ())))
   else
   (some ((decide (x0 = (95 : Int))), ()))))
theorem run90 (x0 : Int) : runF (P := Try.prog) [] Try.f90 ann90 [(0, (.i .u8))] [] .b [] (x0, ()) () = go90 x0 := by kernel_rfl
def ann47 : Ann := (.seq .o (.seq .o .o))
def go47 (x0 : Fn) (x1 : Int) : (Option (Bool × Unit)) :=
 (bif (decide ((0 : Int) <= x1)) then
  (some ((decide (x1 < ((x0.widths.length : Nat) : Int))), ()))
  else
  (some (false, ())))
theorem run47 (x0 : Fn) (x1 : Int) : runF (P := Try.prog) [] Try.f47 ann47 [(0, (.st 6)), (1, (.i .i64))] [] .b [] (x0, (x1, ())) () = go47 x0 x1 := by kernel_rfl
def ann78 : Ann := (.seq .o (.seq .o .o))
def go78 (x0 : Int) : (Option (Int × Unit)) :=
 (some ((if ((64 : Int) < (if ((0 : Int) > x0) then (0 : Int) else x0)) then (64 : Int) else (if ((0 : Int) > x0) then (0 : Int) else x0)), ()))
theorem run78 (x0 : Int) : runF (P := Try.prog) [] Try.f78 ann78 [(0, (.i .i64))] [] (.i .i64) [] (x0, ()) () = go78 x0 := by kernel_rfl
def ann17 : Ann := (.seq .o (.seq .o (.join ⟨[(1, (.ptr 0 0)), (3, (.i .i64))], [(.box 30 (.st 6))]⟩ (.seq .o (.block (.loop ⟨[(1, (.ptr 0 0)), (3, (.i .i64)), (4, (.i .i64))], [(.box 30 (.st 6))]⟩ [((.exit 0), ⟨[(1, (.ptr 0 0)), (3, (.i .i64))], [(.box 30 (.st 6))]⟩), (.ret, ⟨[(2, .b)], []⟩)] (.join ⟨[(1, (.ptr 0 0)), (3, (.i .i64)), (4, (.i .i64))], [(.box 30 (.st 6))]⟩ (.seq .o (.cond .o .o)) (.join ⟨[(1, (.ptr 0 0)), (3, (.i .i64)), (4, (.i .i64))], [(.box 30 (.st 6))]⟩ (.block (.seq .w (.seq .o (.cond (.seq .o .o) .o)))) .o))))) (.seq .o .o))))
def go17_l1 : ((Unit × (Int × (Int × Unit))) × (Fn × Unit)) -> Option (((Unit × (Int × (Int × Unit))) × (Fn × Unit)) ⊕ (((Unit × (Int × Unit)) × (Fn × Unit)) ⊕ ((Bool × Unit) × Unit))) := (fun (r0 : ((Unit × (Int × (Int × Unit))) × (Fn × Unit))) => (bif (decide (r0.1.2.2.1 < ((r0.2.1.blocks.length : Nat) : Int))) then
   (grd (okB (((0 : Int) <= r0.1.2.2.1) /\ (r0.1.2.2.1 < ((r0.2.1.blocks.length : Nat) : Int))))
    (grd (okB (((0 : Int) <= r0.1.2.2.1) /\ (r0.1.2.2.1 < ((r0.2.1.blocks.length : Nat) : Int))))
     (bif (decide ((100 : Int) < (((r0.2.1.blocks.getD r0.1.2.2.1.toNat Block.z).params.length : Nat) : Int))) then
      (some (Sum.inr (Sum.inr ((false, ()), ()))))
      else
      (grd (okB (((-(9223372036854775808 : Int)) <= (r0.1.2.2.1 + (1 : Int))) /\ ((r0.1.2.2.1 + (1 : Int)) <= (9223372036854775807 : Int))))
       (some (Sum.inl (((), ((Go.IntKind.wrap Go.IntKind.i64 (r0.1.2.1 + (((r0.2.1.blocks.getD r0.1.2.2.1.toNat Block.z).insts.length : Nat) : Int))), ((r0.1.2.2.1 + (1 : Int)), ()))), (r0.2.1, ()))))))))
   else
   (some (Sum.inr (Sum.inl (((), (r0.1.2.1, ())), (r0.2.1, ())))))))
def go17 (x0 : Fn) : (Option (Bool × Unit)) :=
 (callB (whileO (go17_l1) (((), ((0 : Int), ((0 : Int), ()))), (x0, ())))
  (fun (z0 : (((Unit × (Int × Unit)) × (Fn × Unit)) ⊕ ((Bool × Unit) × Unit))) => (sumO (fun (z1 : ((Unit × (Int × Unit)) × (Fn × Unit))) => (bif (decide (((z1.2.1.blocks.length : Nat) : Int) <= (30 : Int))) then
      (bif (decide (z1.1.2.1 <= (300 : Int))) then
       (some ((decide (((z1.2.1.widths.length : Nat) : Int) <= (600 : Int))), ()))
       else
       (some (false, ())))
      else
      (some (false, ()))))
    (fun (z1 : ((Bool × Unit) × Unit)) => (some (z1.1.1, ()))) z0)))
theorem run17 (x0 : Fn) : runF (P := Try.prog) [] Try.f17 ann17 [(0, (.st 6))] [] .b [] (x0, ()) () = go17 x0 := by kernel_rfl
def ann91 : Ann := (.seq .o (.seq .o (.join ⟨[(0, (.i .u8)), (1, (.i .i64)), (5, (.i .i64))], []⟩ (.seq .o (.cond .o .o)) (.join ⟨[(0, (.i .u8)), (1, (.i .i64)), (5, (.i .i64))], []⟩ (.seq .o (.cond .o .o)) (.join ⟨[(1, (.i .i64)), (5, (.i .i64))], []⟩ (.seq .o (.cond .o .o)) (.join ⟨[(5, (.i .i64))], []⟩ (.seq .o (.cond (.seq .o .o) .o)) (.seq .o .o)))))))
def go91_j3 : ((Int × (Int × Unit)) × Unit) -> Option (Int × Unit) := (fun (z2 : ((Int × (Int × Unit)) × Unit)) => (bif (decide (z2.1.1 <= z2.1.2.1)) then
   (some ((-(1 : Int)), ()))
   else
   (some (z2.1.2.1, ()))))
def go91_j2 : ((Int × (Int × (Int × Unit))) × Unit) -> Option (Int × Unit) := (fun (z1 : ((Int × (Int × (Int × Unit))) × Unit)) => (jpO (go91_j3)
   (fun (j0 : (((Int × (Int × Unit)) × Unit) -> (Option (Int × Unit)))) => (bif (decide ((65 : Int) <= z1.1.1)) then
     (bif (decide (z1.1.1 <= (70 : Int))) then
      (grd (okB (((-(9223372036854775808 : Int)) <= ((Go.IntKind.wrap Go.IntKind.i64 (Go.IntKind.wrap Go.IntKind.u8 (z1.1.1 - (65 : Int)))) + (10 : Int))) /\ (((Go.IntKind.wrap Go.IntKind.i64 (Go.IntKind.wrap Go.IntKind.u8 (z1.1.1 - (65 : Int)))) + (10 : Int)) <= (9223372036854775807 : Int))))
       (j0 ((z1.1.2.1, (((Go.IntKind.wrap Go.IntKind.i64 (Go.IntKind.wrap Go.IntKind.u8 (z1.1.1 - (65 : Int)))) + (10 : Int)), ())), ())))
      else
      (j0 ((z1.1.2.1, (z1.1.2.2.1, ())), ())))
     else
     (j0 ((z1.1.2.1, (z1.1.2.2.1, ())), ()))))))
def go91_j1 : ((Int × (Int × (Int × Unit))) × Unit) -> Option (Int × Unit) := (fun (z0 : ((Int × (Int × (Int × Unit))) × Unit)) => (jpO (go91_j2)
   (fun (j0 : (((Int × (Int × (Int × Unit))) × Unit) -> (Option (Int × Unit)))) => (bif (decide ((97 : Int) <= z0.1.1)) then
     (bif (decide (z0.1.1 <= (102 : Int))) then
      (grd (okB (((-(9223372036854775808 : Int)) <= ((Go.IntKind.wrap Go.IntKind.i64 (Go.IntKind.wrap Go.IntKind.u8 (z0.1.1 - (97 : Int)))) + (10 : Int))) /\ (((Go.IntKind.wrap Go.IntKind.i64 (Go.IntKind.wrap Go.IntKind.u8 (z0.1.1 - (97 : Int)))) + (10 : Int)) <= (9223372036854775807 : Int))))
       (j0 ((z0.1.1, (z0.1.2.1, (((Go.IntKind.wrap Go.IntKind.i64 (Go.IntKind.wrap Go.IntKind.u8 (z0.1.1 - (97 : Int)))) + (10 : Int)), ()))), ())))
      else
      (j0 ((z0.1.1, (z0.1.2.1, (z0.1.2.2.1, ()))), ())))
     else
     (j0 ((z0.1.1, (z0.1.2.1, (z0.1.2.2.1, ()))), ()))))))
def go91 (x0 : Int) (x1 : Int) : (Option (Int × Unit)) :=
 (jpO (go91_j1)
  (fun (j0 : (((Int × (Int × (Int × Unit))) × Unit) -> (Option (Int × Unit)))) => (bif (decide ((48 : Int) <= x0)) then
    (bif (decide (x0 <= (57 : Int))) then
     (j0 ((x0, (x1, ((Go.IntKind.wrap Go.IntKind.i64 (Go.IntKind.wrap Go.IntKind.u8 (x0 - (48 : Int)))), ()))), ()))
     else
     (j0 ((x0, (x1, ((-(1 : Int)), ()))), ())))
    else
    (j0 ((x0, (x1, ((-(1 : Int)), ()))), ())))))
theorem run91 (x0 : Int) (x1 : Int) : runF (P := Try.prog) [] Try.f91 ann91 [(0, (.i .u8)), (1, (.i .i64))] [] (.i .i64) [] (x0, (x1, ())) () = go91 x0 x1 := by kernel_rfl
def ann79 : Ann := (.seq .o (.seq .o (.join ⟨[(3, (.i .u64))], []⟩ (.seq .o (.block (.loop ⟨[(0, (.fz (.int .i64))), (3, (.i .u64)), (4, (.i .i64))], []⟩ [((.exit 0), ⟨[(3, (.i .u64))], []⟩)] (.join ⟨[(0, (.fz (.int .i64))), (3, (.i .u64)), (4, (.i .i64))], []⟩ (.seq .o (.cond .o .o)) (.join ⟨[(0, (.fz (.int .i64))), (3, (.i .u64)), (4, (.i .i64))], []⟩ (.block .o) .o))))) (.seq .o .o))))
def go79_l1 : (((List Int) × (Int × (Int × Unit))) × Unit) -> Option ((((List Int) × (Int × (Int × Unit))) × Unit) ⊕ ((Int × Unit) × Unit)) := (fun (r0 : (((List Int) × (Int × (Int × Unit))) × Unit)) => (bif (decide ((0 : Int) <= r0.1.2.2.1)) then
   (grd (okB (((0 : Int) <= r0.1.2.2.1) /\ (r0.1.2.2.1 < ((r0.1.1.length : Nat) : Int))))
    (grd (okB (((-(9223372036854775808 : Int)) <= (r0.1.2.2.1 - (1 : Int))) /\ ((r0.1.2.2.1 - (1 : Int)) <= (9223372036854775807 : Int))))
     (some (Sum.inl ((r0.1.1, ((Go.IntKind.wrap Go.IntKind.u64 ((Go.IntKind.wrap Go.IntKind.u64 ((2 : Int) * r0.1.2.1)) + (Go.IntKind.wrap Go.IntKind.u64 (r0.1.1.getD r0.1.2.2.1.toNat (0 : Int))))), ((r0.1.2.2.1 - (1 : Int)), ()))), ())))))
   else
   (some (Sum.inr ((r0.1.2.1, ()), ())))))
def go79 (x0 : (List Int)) : (Option (Int × Unit)) :=
 (grd (okB (((-(9223372036854775808 : Int)) <= (((x0.length : Nat) : Int) - (1 : Int))) /\ ((((x0.length : Nat) : Int) - (1 : Int)) <= (9223372036854775807 : Int))))
  (callB (whileO (go79_l1) ((x0, ((0 : Int), ((((x0.length : Nat) : Int) - (1 : Int)), ()))), ()))
   (fun (z0 : ((Int × Unit) × Unit)) => (some (z0.1.1, ())))))
theorem run79 (x0 : (List Int)) : runF (P := Try.prog) [] Try.f79 ann79 [(0, (.fz (.int .i64)))] [] (.i .u64) [] (x0, ()) () = go79 x0 := by kernel_rfl
def Sp.isBinary (op : Int) : Bool := decide (2 <= op) && decide (op <= 20)
theorem ok42 (op : Int) : go42 op = some (Sp.isBinary op, ()) := by
 unfold go42 Sp.isBinary
 by_cases h : 2 <= op <;> simp [h]
def c42 : Ctr Try.prog := mkCtr 42 Try.f42 Try.func42 [] ann42 [(0, (.i .i64))] [] .b [] (fun x _ => some (Sp.isBinary x.1, ())) (fun x _ r h => FE (run42 x.1) (ok42 x.1) h)
theorem ok43 (op : Int) : go43 op = some (Sp.isBinary op, ()) := by
 unfold go43 Sp.isBinary
 by_cases h : 2 <= op <;> simp [h]
def c43 : Ctr Try.prog := mkCtr 43 Try.f43 Try.func43 [] ann43 [(0, (.i .i64))] [] .b [] (fun x _ => some (Sp.isBinary x.1, ())) (fun x _ r h => FE (run43 x.1) (ok43 x.1) h)
def Sp.pureOp (op : Int) : Bool := decide (1 <= op) && decide (op <= 24)
theorem ok15 (op : Int) : go15 op = some (Sp.pureOp op, ()) := by
 unfold go15 Sp.pureOp
 by_cases h : 1 <= op <;> simp [h]
def c15 : Ctr Try.prog := mkCtr 15 Try.f15 Try.func15 [] ann15 [(0, (.i .i64))] [] .b [] (fun x _ => some (Sp.pureOp x.1, ())) (fun x _ r h => FE (run15 x.1) (ok15 x.1) h)
def Sp.right (w : Int) : Bool := decide (1 <= w) && decide (w <= 64)
theorem ok92 (op : Int) : go92 op = some (Sp.right op, ()) := by
 unfold go92 Sp.right
 by_cases h : 1 <= op <;> simp [h]
def c92 : Ctr Try.prog := mkCtr 92 Try.f92 Try.func92 [] ann92 [(0, (.i .i64))] [] .b [] (fun x _ => some (Sp.right x.1, ())) (fun x _ r h => FE (run92 x.1) (ok92 x.1) h)
def Sp.isCompare (op : Int) : Bool := decide (15 <= op) && decide (op <= 20)
theorem ok94 (op : Int) : go94 op = some (Sp.isCompare op, ()) := by
 unfold go94 Sp.isCompare
 by_cases h : 15 <= op <;> simp [h]
def c94 : Ctr Try.prog := mkCtr 94 Try.f94 Try.func94 [] ann94 [(0, (.i .i64))] [] .b [] (fun x _ => some (Sp.isCompare x.1, ())) (fun x _ r h => FE (run94 x.1) (ok94 x.1) h)
def Sp.letter (c : Int) : Bool := (decide (97 <= c) && decide (c <= 122)) || (decide (65 <= c) && decide (c <= 90)) || decide (c = 95)
theorem ok90 (c : Int) : go90 c = some (Sp.letter c, ()) := by
 unfold go90 Sp.letter
 by_cases h1 : 97 <= c <;> by_cases h2 : c <= 122 <;> by_cases h3 : 65 <= c <;> by_cases h4 : c <= 90 <;> simp [h1, h2, h3, h4]
def c90 : Ctr Try.prog := mkCtr 90 Try.f90 Try.func90 [] ann90 [(0, (.i .u8))] [] .b [] (fun x _ => some (Sp.letter x.1, ())) (fun x _ r h => FE (run90 x.1) (ok90 x.1) h)
def Sp.within (f : Fn) (v : Int) : Bool := decide (0 <= v) && decide (v < f.widths.length)
theorem ok47 (f : Fn) (v : Int) : go47 f v = some (Sp.within f v, ()) := by
 unfold go47 Sp.within
 by_cases h : 0 <= v <;> simp [h]
def c47 : Ctr Try.prog := mkCtr 47 Try.f47 Try.func47 [] ann47 [(0, (.st 6)), (1, (.i .i64))] [] .b [] (fun x _ => some (Sp.within x.1 x.2.1, ())) (fun x _ r h => FE (run47 x.1 x.2.1) (ok47 x.1 x.2.1) h)
abbrev Fn.blk (f : Fn) (i : Nat) : Block := f.blocks.getD i Block.z
theorem Fn.ok_blocks {f : Fn} (h : f.ok) : f.blocks.length <= LEN := h.2.2.2.2.2.len
theorem Fn.ok_blk {f : Fn} (h : f.ok) {i : Nat} (hi : i < f.blocks.length) : (f.blk i).ok := getD_ok h.2.2.2.2.2 _ hi
def Sp.instSum (l : List Block) : Nat -> Int
 | 0 => 0
 | i + 1 => IntKind.i64.wrap (Sp.instSum l i + ((l.getD i Block.z).insts.length : Int))
def Sp.few (f : Fn) : Bool := f.blocks.all (fun b => !decide (100 < (b.params.length : Int))) && decide ((f.blocks.length : Int) <= 30) && decide (Sp.instSum f.blocks f.blocks.length <= 300) && decide ((f.widths.length : Int) <= 600)
theorem ok17 (f : Fn) (hf : f.ok) : go17 f = some (Sp.few f, ()) := by
 have hb := Fn.ok_blocks hf
 rw [lenVal] at hb
 unfold go17 go17_l1
 refine callB_of (whileO_all (l := f.blocks) (st := fun i => (((), Sp.instSum f.blocks i, (i : Int), ()), f, ())) rfl Block.z (fun b => !decide (100 < (b.params.length : Int)))
  (A := .inl (((), Sp.instSum f.blocks f.blocks.length, ()), f, ())) (B := .inr ((false, ()), ())) (fun i hi hp => ?_) (fun i hi hp => ?_) (fun _ => ?_)) ?_
 ·have hp : ¬ 100 < (((f.blocks.getD i Block.z).params.length : Nat) : Int) := by simpa using hp
  simp (maxSteps := 1000000) (disch := ((try dsimp only); omega)) only [↓gsA, gsB]
  rfl
 ·have hp : 100 < (((f.blocks.getD i Block.z).params.length : Nat) : Int) := by simpa using hp
  simp (maxSteps := 1000000) (disch := ((try dsimp only); omega)) only [↓gsA, gsB]
 ·simp (maxSteps := 1000000) (disch := ((try dsimp only); omega)) only [↓gsA, gsB]
 ·unfold Sp.few
  by_cases h : (f.blocks.all fun b => !decide (100 < (b.params.length : Int))) = true
  ·rw [if_pos h, h]
   by_cases h1 : (f.blocks.length : Int) <= 30 <;> by_cases h2 : Sp.instSum f.blocks f.blocks.length <= 300 <;> simp [h1, h2]
  ·rw [if_neg h, eq_false_of_ne_true h]; simp
def c17 : Ctr Try.prog := mkCtr 17 Try.f17 Try.func17 [] ann17 [(0, (.st 6))] [] .b [] (fun x _ => grd (okB x.1.ok) (some (Sp.few x.1, ()))) (fun x _ r h => FO (run17 x.1) (ok17 x.1) h)
def Fn.two (f : Fn) : Prop := ∀ i, i < f.blocks.length -> (f.blk i).term.kind = 2 -> (f.blk i).term.to.length = 2
def Sp.width (w : Int) : Int := if 64 < (if w < 0 then 0 else w) then 64 else (if w < 0 then 0 else w)
theorem width_le (w : Int) : 0 <= Sp.width w /\ Sp.width w <= 64 := by unfold Sp.width; split <;> split <;> omega
theorem ok78 (w : Int) : go78 w = some (Sp.width w, ()) := by unfold go78 Sp.width; rfl
def c78 : Ctr Try.prog := mkCtr 78 Try.f78 Try.func78 [] ann78 [(0, (.i .i64))] [] (.i .i64) [] (fun x _ => some (Sp.width x.1, ())) (fun x _ r h => FE (run78 x.1) (ok78 x.1) h)
def Sp.digit0 (c : Int) : Int := if 48 <= c /\ c <= 57 then c - 48 else -1
def Sp.digit1 (c : Int) : Int := if 97 <= c /\ c <= 102 then c - 97 + 10 else Sp.digit0 c
def Sp.digit2 (c : Int) : Int := if 65 <= c /\ c <= 70 then c - 65 + 10 else Sp.digit1 c
def Sp.digit (c base : Int) : Int := if base <= Sp.digit2 c then -1 else Sp.digit2 c
theorem ok91 (c base : Int) : go91 c base = some (Sp.digit c base, ()) := by
 have u : ∀ z : Int, 0 <= z -> z <= 255 -> IntKind.i64.wrap (IntKind.u8.wrap z) = z := fun z h1 h2 => by
  rw [IntWalk.u8_in _ (by omega), wrap_in (by omega) (by omega)]
 unfold go91 go91_j1 go91_j2 go91_j3 Sp.digit Sp.digit2 Sp.digit1 Sp.digit0
 by_cases a1 : 48 <= c <;> by_cases a2 : c <= 57 <;> by_cases a3 : 97 <= c <;> by_cases a4 : c <= 102 <;> by_cases a5 : 65 <= c <;> by_cases a6 : c <= 70 <;> first
  | omega
  | (simp (disch := omega) only [a1, a2, a3, a4, a5, a6, u, jpO_eq, bif_decide, if_true, if_false, and_self, and_true, true_and, and_false, false_and, grd_dec]
     first | rfl | (split <;> rfl))
def c91 : Ctr Try.prog := mkCtr 91 Try.f91 Try.func91 [] ann91 [(0, (.i .u8)), (1, (.i .i64))] [] (.i .i64) [] (fun x _ => some (Sp.digit x.1 x.2.1, ())) (fun x _ r h => FE (run91 x.1 x.2.1) (ok91 x.1 x.2.1) h)
def Sp.wd (l : List Int) : Nat -> Int
 | 0 => 0
 | k + 1 => IntKind.u64.wrap (IntKind.u64.wrap (2 * Sp.wd l k) + IntKind.u64.wrap (l.getD (l.length - 1 - k) 0))
theorem ok79 (l : List Int) (hl : l.length <= LEN) : go79 l = some (Sp.wd l l.length, ()) := by
 rw [lenVal] at hl
 unfold go79 go79_l1
 simp (maxSteps := 1000000) (disch := ((try dsimp only); omega)) only [↓gsA, gsB]
 refine callB_of (whileO_to (st := fun k => ((l, Sp.wd l k, (l.length : Int) - 1 - k, ()), ())) (by simp [Sp.wd]) l.length (X0 := ((Sp.wd l l.length, ()), ())) (fun k hk => ?_) ?_) ?_
 ·have e : l.length - 1 - k = ((l.length : Int) - 1 - k).toNat := by omega
  have e2 : (l.length : Int) - 1 - ((k + 1 : Nat) : Int) = (l.length : Int) - 1 - k - 1 := by omega
  simp (maxSteps := 1000000) (disch := ((try dsimp only); omega)) only [↓gsA, gsB]
  simp only [Sp.wd, e]
  rw [<- e2]
  rfl
 ·simp (maxSteps := 1000000) (disch := ((try dsimp only); omega)) only [↓gsA, gsB]
 ·rfl
def c79 : Ctr Try.prog := mkCtr 79 Try.f79 Try.func79 [] ann79 [(0, (.fz (.int .i64)))] [] (.i .u64) [] (fun x _ => grd (okB (x.1.length <= LEN)) (some (Sp.wd x.1 x.1.length, ()))) (fun x _ r h => FO (run79 x.1) (ok79 x.1) h)
end
end Go.Abs
namespace Go.Abs
open Go Go.Proofs
noncomputable section
def ann156 : Ann := (.seq .o (.seq .o .o))
def go156 (x0 : Int) : (Option (Bool × Unit)) :=
 (some ((!(decide (x0 = x0))), ()))
theorem run156 (x0 : Int) : runF (P := Try.prog) [] Try.f156 ann156 [(0, (.i .i64))] [] .b [] (x0, ()) () = go156 x0 := by kernel_rfl
theorem ok156 (x : Int) : go156 x = some (false, ()) := by unfold go156; simp
def c156 : Ctr Try.prog := mkCtr 156 Try.f156 Try.func156 [] ann156 [(0, (.i .i64))] [] .b [] (fun x _ => some (false, ())) (fun x _ r h => FE (run156 x.1) (ok156 x.1) h)
def ann148 : Ann := (.seq .o (.join ⟨[(0, (.i .u64)), (2, (.i .i64))], []⟩ (.seq .o (.cond (.seq .o .o) .o)) (.join ⟨[(0, (.i .u64)), (2, (.i .i64))], []⟩ (.seq .o (.cond (.seq .o .o) .o)) (.join ⟨[(0, (.i .u64)), (2, (.i .i64))], []⟩ (.seq .o (.cond (.seq .o .o) .o)) (.seq .o .o)))))
def go148_s3 : ByteArray := ByteArray.mk (@List.toArray UInt8 (@List.append UInt8 (@List.append UInt8 ((0 : UInt8) :: ((1 : UInt8) :: ((2 : UInt8) :: ((2 : UInt8) :: ((3 : UInt8) :: ((3 : UInt8) :: ((3 : UInt8) :: ((3 : UInt8) :: ((4 : UInt8) :: ((4 : UInt8) :: ((4 : UInt8) :: ((4 : UInt8) :: ((4 : UInt8) :: ((4 : UInt8) :: ((4 : UInt8) :: ((4 : UInt8) :: ((5 : UInt8) :: ((5 : UInt8) :: ((5 : UInt8) :: ((5 : UInt8) :: ((5 : UInt8) :: ((5 : UInt8) :: ((5 : UInt8) :: ((5 : UInt8) :: ((5 : UInt8) :: ((5 : UInt8) :: ((5 : UInt8) :: ((5 : UInt8) :: ((5 : UInt8) :: ((5 : UInt8) :: ((5 : UInt8) :: ((5 : UInt8) :: ((6 : UInt8) :: ((6 : UInt8) :: ((6 : UInt8) :: ((6 : UInt8) :: ((6 : UInt8) :: ((6 : UInt8) :: ((6 : UInt8) :: ((6 : UInt8) :: ((6 : UInt8) :: ((6 : UInt8) :: ((6 : UInt8) :: ((6 : UInt8) :: ((6 : UInt8) :: ((6 : UInt8) :: ((6 : UInt8) :: ((6 : UInt8) :: ((6 : UInt8) :: ((6 : UInt8) :: ((6 : UInt8) :: ((6 : UInt8) :: ((6 : UInt8) :: ((6 : UInt8) :: ((6 : UInt8) :: ((6 : UInt8) :: ((6 : UInt8) :: ((6 : UInt8) :: ((6 : UInt8) :: ((6 : UInt8) :: ((6 : UInt8) :: ((6 : UInt8) :: ((6 : UInt8) :: ((6 : UInt8) :: ([] : List UInt8))))))))))))))))))))))))))))))))))))))))))))))))))))))))))))))))) ((7 : UInt8) :: ((7 : UInt8) :: ((7 : UInt8) :: ((7 : UInt8) :: ((7 : UInt8) :: ((7 : UInt8) :: ((7 : UInt8) :: ((7 : UInt8) :: ((7 : UInt8) :: ((7 : UInt8) :: ((7 : UInt8) :: ((7 : UInt8) :: ((7 : UInt8) :: ((7 : UInt8) :: ((7 : UInt8) :: ((7 : UInt8) :: ((7 : UInt8) :: ((7 : UInt8) :: ((7 : UInt8) :: ((7 : UInt8) :: ((7 : UInt8) :: ((7 : UInt8) :: ((7 : UInt8) :: ((7 : UInt8) :: ((7 : UInt8) :: ((7 : UInt8) :: ((7 : UInt8) :: ((7 : UInt8) :: ((7 : UInt8) :: ((7 : UInt8) :: ((7 : UInt8) :: ((7 : UInt8) :: ((7 : UInt8) :: ((7 : UInt8) :: ((7 : UInt8) :: ((7 : UInt8) :: ((7 : UInt8) :: ((7 : UInt8) :: ((7 : UInt8) :: ((7 : UInt8) :: ((7 : UInt8) :: ((7 : UInt8) :: ((7 : UInt8) :: ((7 : UInt8) :: ((7 : UInt8) :: ((7 : UInt8) :: ((7 : UInt8) :: ((7 : UInt8) :: ((7 : UInt8) :: ((7 : UInt8) :: ((7 : UInt8) :: ((7 : UInt8) :: ((7 : UInt8) :: ((7 : UInt8) :: ((7 : UInt8) :: ((7 : UInt8) :: ((7 : UInt8) :: ((7 : UInt8) :: ((7 : UInt8) :: ((7 : UInt8) :: ((7 : UInt8) :: ((7 : UInt8) :: ((7 : UInt8) :: ((7 : UInt8) :: ([] : List UInt8)))))))))))))))))))))))))))))))))))))))))))))))))))))))))))))))))) (@List.append UInt8 ((8 : UInt8) :: ((8 : UInt8) :: ((8 : UInt8) :: ((8 : UInt8) :: ((8 : UInt8) :: ((8 : UInt8) :: ((8 : UInt8) :: ((8 : UInt8) :: ((8 : UInt8) :: ((8 : UInt8) :: ((8 : UInt8) :: ((8 : UInt8) :: ((8 : UInt8) :: ((8 : UInt8) :: ((8 : UInt8) :: ((8 : UInt8) :: ((8 : UInt8) :: ((8 : UInt8) :: ((8 : UInt8) :: ((8 : UInt8) :: ((8 : UInt8) :: ((8 : UInt8) :: ((8 : UInt8) :: ((8 : UInt8) :: ((8 : UInt8) :: ((8 : UInt8) :: ((8 : UInt8) :: ((8 : UInt8) :: ((8 : UInt8) :: ((8 : UInt8) :: ((8 : UInt8) :: ((8 : UInt8) :: ((8 : UInt8) :: ((8 : UInt8) :: ((8 : UInt8) :: ((8 : UInt8) :: ((8 : UInt8) :: ((8 : UInt8) :: ((8 : UInt8) :: ((8 : UInt8) :: ((8 : UInt8) :: ((8 : UInt8) :: ((8 : UInt8) :: ((8 : UInt8) :: ((8 : UInt8) :: ((8 : UInt8) :: ((8 : UInt8) :: ((8 : UInt8) :: ((8 : UInt8) :: ((8 : UInt8) :: ((8 : UInt8) :: ((8 : UInt8) :: ((8 : UInt8) :: ((8 : UInt8) :: ((8 : UInt8) :: ((8 : UInt8) :: ((8 : UInt8) :: ((8 : UInt8) :: ((8 : UInt8) :: ((8 : UInt8) :: ((8 : UInt8) :: ((8 : UInt8) :: ((8 : UInt8) :: ((8 : UInt8) :: ([] : List UInt8))))))))))))))))))))))))))))))))))))))))))))))))))))))))))))))))) ((8 : UInt8) :: ((8 : UInt8) :: ((8 : UInt8) :: ((8 : UInt8) :: ((8 : UInt8) :: ((8 : UInt8) :: ((8 : UInt8) :: ((8 : UInt8) :: ((8 : UInt8) :: ((8 : UInt8) :: ((8 : UInt8) :: ((8 : UInt8) :: ((8 : UInt8) :: ((8 : UInt8) :: ((8 : UInt8) :: ((8 : UInt8) :: ((8 : UInt8) :: ((8 : UInt8) :: ((8 : UInt8) :: ((8 : UInt8) :: ((8 : UInt8) :: ((8 : UInt8) :: ((8 : UInt8) :: ((8 : UInt8) :: ((8 : UInt8) :: ((8 : UInt8) :: ((8 : UInt8) :: ((8 : UInt8) :: ((8 : UInt8) :: ((8 : UInt8) :: ((8 : UInt8) :: ((8 : UInt8) :: ((8 : UInt8) :: ((8 : UInt8) :: ((8 : UInt8) :: ((8 : UInt8) :: ((8 : UInt8) :: ((8 : UInt8) :: ((8 : UInt8) :: ((8 : UInt8) :: ((8 : UInt8) :: ((8 : UInt8) :: ((8 : UInt8) :: ((8 : UInt8) :: ((8 : UInt8) :: ((8 : UInt8) :: ((8 : UInt8) :: ((8 : UInt8) :: ((8 : UInt8) :: ((8 : UInt8) :: ((8 : UInt8) :: ((8 : UInt8) :: ((8 : UInt8) :: ((8 : UInt8) :: ((8 : UInt8) :: ((8 : UInt8) :: ((8 : UInt8) :: ((8 : UInt8) :: ((8 : UInt8) :: ((8 : UInt8) :: ((8 : UInt8) :: ((8 : UInt8) :: ((8 : UInt8) :: ((8 : UInt8) :: ([] : List UInt8))))))))))))))))))))))))))))))))))))))))))))))))))))))))))))))))))))
def go148_j3 : ((Int × (Int × Unit)) × Unit) -> Option (Int × Unit) := (fun (z2 : ((Int × (Int × Unit)) × Unit)) => (grd (okB (((0 : Int) <= (Go.IntKind.wrap Go.IntKind.u8 z2.1.1)) /\ ((Go.IntKind.wrap Go.IntKind.u8 z2.1.1) < (((ByteArray.size go148_s3) : Nat) : Int))))
   (grd (okB (((-(9223372036854775808 : Int)) <= (z2.1.2.1 + (Go.IntKind.wrap Go.IntKind.i64 (strAt go148_s3 (Go.IntKind.wrap Go.IntKind.u8 z2.1.1).toNat)))) /\ ((z2.1.2.1 + (Go.IntKind.wrap Go.IntKind.i64 (strAt go148_s3 (Go.IntKind.wrap Go.IntKind.u8 z2.1.1).toNat))) <= (9223372036854775807 : Int))))
    (some ((z2.1.2.1 + (Go.IntKind.wrap Go.IntKind.i64 (strAt go148_s3 (Go.IntKind.wrap Go.IntKind.u8 z2.1.1).toNat))), ())))))
def go148_j2 : ((Int × (Int × Unit)) × Unit) -> Option (Int × Unit) := (fun (z1 : ((Int × (Int × Unit)) × Unit)) => (jpO (go148_j3)
   (fun (j0 : (((Int × (Int × Unit)) × Unit) -> (Option (Int × Unit)))) => (bif (decide ((256 : Int) <= z1.1.1)) then
     (grd (okB ((0 : Int) <= (8 : Int)))
      (grd (okB (((-(9223372036854775808 : Int)) <= (z1.1.2.1 + (8 : Int))) /\ ((z1.1.2.1 + (8 : Int)) <= (9223372036854775807 : Int))))
       (j0 (((Int.fdiv z1.1.1 (@HPow.hPow Int Nat Int _ (2 : Int) (@Min.min Nat _ (8 : Int).toNat (Go.IntKind.bits Go.IntKind.u64)))), ((z1.1.2.1 + (8 : Int)), ())), ()))))
     else
     (j0 ((z1.1.1, (z1.1.2.1, ())), ()))))))
def go148_j1 : ((Int × (Int × Unit)) × Unit) -> Option (Int × Unit) := (fun (z0 : ((Int × (Int × Unit)) × Unit)) => (jpO (go148_j2)
   (fun (j0 : (((Int × (Int × Unit)) × Unit) -> (Option (Int × Unit)))) => (bif (decide ((65536 : Int) <= z0.1.1)) then
     (grd (okB ((0 : Int) <= (16 : Int)))
      (grd (okB (((-(9223372036854775808 : Int)) <= (z0.1.2.1 + (16 : Int))) /\ ((z0.1.2.1 + (16 : Int)) <= (9223372036854775807 : Int))))
       (j0 (((Int.fdiv z0.1.1 (@HPow.hPow Int Nat Int _ (2 : Int) (@Min.min Nat _ (16 : Int).toNat (Go.IntKind.bits Go.IntKind.u64)))), ((z0.1.2.1 + (16 : Int)), ())), ()))))
     else
     (j0 ((z0.1.1, (z0.1.2.1, ())), ()))))))
def go148 (x0 : Int) : (Option (Int × Unit)) :=
 (jpO (go148_j1)
  (fun (j0 : (((Int × (Int × Unit)) × Unit) -> (Option (Int × Unit)))) => (bif (decide ((4294967296 : Int) <= x0)) then
    (grd (okB ((0 : Int) <= (32 : Int)))
     (j0 (((Int.fdiv x0 (@HPow.hPow Int Nat Int _ (2 : Int) (@Min.min Nat _ (32 : Int).toNat (Go.IntKind.bits Go.IntKind.u64)))), ((32 : Int), ())), ())))
    else
    (j0 ((x0, ((0 : Int), ())), ())))))
theorem run148 (x0 : Int) : runF (P := Try.prog) [] Try.f148 ann148 [(0, (.i .u64))] [] (.i .i64) [] (x0, ()) () = go148 x0 := by kernel_rfl
set_option maxRecDepth 8000 in
theorem len8_0 : strAt go148_s3 0 = 0 := by rfl
set_option maxRecDepth 8000 in
theorem len8_1 : strAt go148_s3 1 = 1 := by rfl
set_option maxRecDepth 8000 in
theorem len8_2 : strAt go148_s3 2 = 2 := by rfl
set_option maxRecDepth 8000 in
theorem len8_sz : go148_s3.size = 256 := by rfl
theorem ok148 (x : Int) (h : 0 <= x /\ x <= 2) : go148 x = some (x, ()) := by
 have : x = 0 \/ x = 1 \/ x = 2 := by omega
 have e0 : (IntKind.u8.wrap 0 : Int) = 0 := by decide
 have e1 : (IntKind.u8.wrap 1 : Int) = 1 := by decide
 have e2 : (IntKind.u8.wrap 2 : Int) = 2 := by decide
 have w0 : (IntKind.i64.wrap 0 : Int) = 0 := by decide
 have w1 : (IntKind.i64.wrap 1 : Int) = 1 := by decide
 have w2 : (IntKind.i64.wrap 2 : Int) = 2 := by decide
 rcases this with rfl | rfl | rfl <;> unfold go148 go148_j1 go148_j2 go148_j3 <;> simp (maxSteps := 1000000) (disch := ((try dsimp only); omega)) only [↓gsA, gsB] <;> rw [len8_sz] <;> simp only [e0, e1, e2]
 ·rw [show (0 : Int).toNat = 0 from rfl, len8_0, w0]
  rw [grd_of (okB_of (by decide)), grd_of (okB_of (by decide))]; rfl
 ·rw [show (1 : Int).toNat = 1 from rfl, len8_1, w1]
  rw [grd_of (okB_of (by decide)), grd_of (okB_of (by decide))]; rfl
 ·rw [show (2 : Int).toNat = 2 from rfl, len8_2, w2]
  rw [grd_of (okB_of (by decide)), grd_of (okB_of (by decide))]; rfl
def c148 : Ctr Try.prog := mkCtr 148 Try.f148 Try.func148 [] ann148 [(0, (.i .u64))] [] (.i .i64) [] (fun x _ => grd (okB (0 <= x.1 /\ x.1 <= 2)) (some (x.1, ()))) (fun x _ r h => FO (run148 x.1) (ok148 x.1) h)
end
end Go.Abs
namespace Go.Abs
open Go Go.Proofs
noncomputable section
def ann144 : Ann := (.seq .o (.seq .o .o))
def go144 (x0 : Int) (x1 : Int) : (Option (Bool × Unit)) :=
 (some ((decide (x0 < x1)), ()))
theorem run144 (x0 : Int) (x1 : Int) : runF (P := Try.prog) [c156] Try.f144 ann144 [(0, (.i .i64)), (1, (.i .i64))] [] .b [] (x0, (x1, ())) () = go144 x0 x1 := by kernel_rfl
theorem ok144 (x y : Int) : go144 x y = some (decide (x < y), ()) := by unfold go144; simp (maxSteps := 1000000) (disch := ((try dsimp only); omega)) only [↓gsA, gsB]
def c144 : Ctr Try.prog := mkCtr 144 Try.f144 Try.func144 [c156] ann144 [(0, (.i .i64)), (1, (.i .i64))] [] .b [] (fun x _ => some (decide (x.1 < x.2.1), ())) (fun x _ r h => FE (run144 x.1 x.2.1) (ok144 x.1 x.2.1) h)
def ann126 : Ann := (.seq .o (.join ⟨[(0, (.i .u64))], []⟩ (.cond .o .o) (.seq .o .o)))
def go126 (x0 : Int) : (Option (Int × Unit)) :=
 (callB (grd (okB (((0 : Int) <= x0) /\ (x0 <= (2 : Int))))
   (some (x0, ())))
  (fun (r0 : (Int × Unit)) => (some (r0.1, ()))))
theorem run126 (x0 : Int) : runF (P := Try.prog) [c148] Try.f126 ann126 [(0, (.i .u64))] [] (.i .i64) [] (x0, ()) () = go126 x0 := by kernel_rfl
theorem ok126 (x : Int) (h : 0 <= x /\ x <= 2) : go126 x = some (x, ()) := by
 unfold go126
 rw [grd_ok h]
 rfl
def c126 : Ctr Try.prog := mkCtr 126 Try.f126 Try.func126 [c148] ann126 [(0, (.i .u64))] [] (.i .i64) [] (fun x _ => grd (okB (0 <= x.1 /\ x.1 <= 2)) (some (x.1, ()))) (fun x _ r h => FO (run126 x.1) (ok126 x.1) h)
end
end Go.Abs
namespace Go.Abs
open Go Go.Proofs
noncomputable section
def ann138 : Ann := (.seq .o (.block (.loop ⟨[(0, (.full 0)), (1, (.i .i64)), (2, (.i .i64)), (6, (.i .i64))], [(.lst 3 (.int .i64))]⟩ [((.exit 0), ⟨[], [(.lst 3 (.int .i64))]⟩)] (.join ⟨[(0, (.full 0)), (1, (.i .i64)), (2, (.i .i64)), (6, (.i .i64))], [(.lst 3 (.int .i64))]⟩ (.seq .o (.cond .o .o)) (.join ⟨[(0, (.full 0)), (1, (.i .i64)), (2, (.i .i64)), (6, (.i .i64))], [(.lst 3 (.int .i64))]⟩ (.block (.seq .o (.block (.loop ⟨[(0, (.full 0)), (1, (.i .i64)), (2, (.i .i64)), (6, (.i .i64)), (7, (.i .i64))], [(.lst 3 (.int .i64))]⟩ [((.exit 2), ⟨[(0, (.full 0)), (1, (.i .i64)), (2, (.i .i64)), (6, (.i .i64))], [(.lst 3 (.int .i64))]⟩)] (.join ⟨[(0, (.full 0)), (1, (.i .i64)), (2, (.i .i64)), (6, (.i .i64)), (7, (.i .i64))], [(.lst 3 (.int .i64))]⟩ (.seq .o (.cond .o .o)) (.join ⟨[(0, (.full 0)), (1, (.i .i64)), (2, (.i .i64)), (6, (.i .i64)), (7, (.i .i64))], [(.lst 3 (.int .i64))]⟩ (.block (.x ⟨false, false, false, false, [], [], [0, 0, 0, 0, 8, 0, 0, 64, 224, 480, 0, 0, 3072, 7168, 16355, 32739, 65535, 131071], (.fl 0 (.fl 1 (.fl 2 (.fl 3 (.fl 4 (.qu [5, 6, 7, 8, 9, 10, 11, 12, 13, 14] (.on 15 (.qu [16] (.on 17 .nil)))))))))⟩)) .o)))))) .o)))))
def go138_l2 : ((Unit × (Int × (Int × (Int × (Int × Unit))))) × ((List Int) × Unit)) -> Option (((Unit × (Int × (Int × (Int × (Int × Unit))))) × ((List Int) × Unit)) ⊕ ((Unit × (Int × (Int × (Int × Unit)))) × ((List Int) × Unit))) := (fun (r1 : ((Unit × (Int × (Int × (Int × (Int × Unit))))) × ((List Int) × Unit))) => (bif (decide (r1.1.2.1 < r1.1.2.2.2.2.1)) then
   (grd (okB (((0 : Int) <= r1.1.2.2.2.2.1) /\ (r1.1.2.2.2.2.1 < ((r1.2.1.length : Nat) : Int))))
    (grd (Nat.blt r1.1.2.2.2.2.1.toNat r1.2.1.length)
     (grd (okB (((-(9223372036854775808 : Int)) <= (r1.1.2.2.2.2.1 - (1 : Int))) /\ ((r1.1.2.2.2.2.1 - (1 : Int)) <= (9223372036854775807 : Int))))
      (grd (okB (((0 : Int) <= (r1.1.2.2.2.2.1 - (1 : Int))) /\ ((r1.1.2.2.2.2.1 - (1 : Int)) < ((r1.2.1.length : Nat) : Int))))
       (grd (Nat.blt (r1.1.2.2.2.2.1 - (1 : Int)).toNat r1.2.1.length)
        (bif (decide ((r1.2.1.getD r1.1.2.2.2.2.1.toNat (0 : Int)) < (r1.2.1.getD (r1.1.2.2.2.2.1 - (1 : Int)).toNat (0 : Int)))) then
         (grd (okB (((-(9223372036854775808 : Int)) <= (r1.1.2.2.2.2.1 - (1 : Int))) /\ ((r1.1.2.2.2.2.1 - (1 : Int)) <= (9223372036854775807 : Int))))
          (grd (okB (((-(9223372036854775808 : Int)) <= (r1.1.2.2.2.2.1 - (1 : Int))) /\ ((r1.1.2.2.2.2.1 - (1 : Int)) <= (9223372036854775807 : Int))))
           (grd (okB (((0 : Int) <= (r1.1.2.2.2.2.1 - (1 : Int))) /\ ((r1.1.2.2.2.2.1 - (1 : Int)) < ((r1.2.1.length : Nat) : Int))))
            (grd (Nat.blt (r1.1.2.2.2.2.1 - (1 : Int)).toNat r1.2.1.length)
             (grd (okB (((0 : Int) <= r1.1.2.2.2.2.1) /\ (r1.1.2.2.2.2.1 < ((r1.2.1.length : Nat) : Int))))
              (grd (Nat.blt r1.1.2.2.2.2.1.toNat r1.2.1.length)
               (grd (okB (((0 : Int) <= r1.1.2.2.2.2.1) /\ (r1.1.2.2.2.2.1 < ((r1.2.1.length : Nat) : Int))))
                (grd (Nat.blt r1.1.2.2.2.2.1.toNat r1.2.1.length)
                 (grd (okB (((0 : Int) <= (r1.1.2.2.2.2.1 - (1 : Int))) /\ ((r1.1.2.2.2.2.1 - (1 : Int)) < (((r1.2.1.set r1.1.2.2.2.2.1.toNat (r1.2.1.getD (r1.1.2.2.2.2.1 - (1 : Int)).toNat (0 : Int))).length : Nat) : Int))))
                  (grd (Nat.blt (r1.1.2.2.2.2.1 - (1 : Int)).toNat (r1.2.1.set r1.1.2.2.2.2.1.toNat (r1.2.1.getD (r1.1.2.2.2.2.1 - (1 : Int)).toNat (0 : Int))).length)
                   (grd (okB (((-(9223372036854775808 : Int)) <= (r1.1.2.2.2.2.1 - (1 : Int))) /\ ((r1.1.2.2.2.2.1 - (1 : Int)) <= (9223372036854775807 : Int))))
                    (some (Sum.inl (((), (r1.1.2.1, (r1.1.2.2.1, (r1.1.2.2.2.1, ((r1.1.2.2.2.2.1 - (1 : Int)), ()))))), (((r1.2.1.set r1.1.2.2.2.2.1.toNat (r1.2.1.getD (r1.1.2.2.2.2.1 - (1 : Int)).toNat (0 : Int))).set (r1.1.2.2.2.2.1 - (1 : Int)).toNat (r1.2.1.getD r1.1.2.2.2.2.1.toNat (0 : Int))), ())))))))))))))))
         else
         (some (Sum.inr (((), (r1.1.2.1, (r1.1.2.2.1, (r1.1.2.2.2.1, ())))), (r1.2.1, ()))))))))))
   else
   (some (Sum.inr (((), (r1.1.2.1, (r1.1.2.2.1, (r1.1.2.2.2.1, ())))), (r1.2.1, ()))))))
def go138_l1 : ((Unit × (Int × (Int × (Int × Unit)))) × ((List Int) × Unit)) -> Option (((Unit × (Int × (Int × (Int × Unit)))) × ((List Int) × Unit)) ⊕ (Unit × ((List Int) × Unit))) := (fun (r0 : ((Unit × (Int × (Int × (Int × Unit)))) × ((List Int) × Unit))) => (bif (decide (r0.1.2.2.2.1 < r0.1.2.2.1)) then
   (callB (whileO (go138_l2) (((), (r0.1.2.1, (r0.1.2.2.1, (r0.1.2.2.2.1, (r0.1.2.2.2.1, ()))))), (r0.2.1, ())))
    (fun (z0 : ((Unit × (Int × (Int × (Int × Unit)))) × ((List Int) × Unit))) => (grd (okB (((-(9223372036854775808 : Int)) <= (z0.1.2.2.2.1 + (1 : Int))) /\ ((z0.1.2.2.2.1 + (1 : Int)) <= (9223372036854775807 : Int))))
      (some (Sum.inl (((), (z0.1.2.1, (z0.1.2.2.1, ((z0.1.2.2.2.1 + (1 : Int)), ())))), (z0.2.1, ())))))))
   else
   (some (Sum.inr ((), (r0.2.1, ()))))))
def go138 (x1 : Int) (x2 : Int) (y0 : (List Int)) : (Option (Unit × ((List Int) × Unit))) :=
 (grd (okB (((-(9223372036854775808 : Int)) <= (x1 + (1 : Int))) /\ ((x1 + (1 : Int)) <= (9223372036854775807 : Int))))
  (callB (whileO (go138_l1) (((), (x1, (x2, ((x1 + (1 : Int)), ())))), (y0, ())))
   (fun (z0 : (Unit × ((List Int) × Unit))) => (some ((), (z0.2.1, ()))))))
theorem run138 (x1 : Int) (x2 : Int) (y0 : (List Int)) : runF (P := Try.prog) [c144] Try.f138 ann138 [(0, (.full 0)), (1, (.i .i64)), (2, (.i .i64))] [(.lst 3 (.int .i64))] (.tup []) [(.lst 3 (.int .i64))] ((), (x1, (x2, ()))) (y0, ()) = go138 x1 x2 y0 := by kernel_rfl
def Sp.sink : List Int -> Nat -> List Int
 | l, 0 => l
 | l, j + 1 => if l.getD (j + 1) 0 < l.getD j 0 then Sp.sink ((l.set (j + 1) (l.getD j 0)).set j (l.getD (j + 1) 0)) j else l
def Sp.srtTo (l : List Int) : Nat -> List Int
 | 0 => l
 | i + 1 => Sp.sink (Sp.srtTo l i) (i + 1)
def Sp.srt (l : List Int) : List Int := Sp.srtTo l (l.length - 1)
theorem sink_len : ∀ (j : Nat) (l : List Int), (Sp.sink l j).length = l.length
 | 0, l => rfl
 | j + 1, l => by
  unfold Sp.sink
  split
  ·rw [sink_len j]; simp
  ·rfl
theorem srtTo_len (l : List Int) : ∀ i, (Sp.srtTo l i).length = l.length
 | 0 => rfl
 | i + 1 => by rw [Sp.srtTo, sink_len, srtTo_len l i]
theorem blt_t {a b : Nat} (h : a < b) : Nat.blt a b = true := Nat.ble_eq_true_of_le h
theorem loop1382 (b i : Int) : ∀ (j : Nat) (l : List Int), j < l.length \/ j = 0 -> l.length <= LEN ->
  whileO go138_l2 (((), ((0 : Int), (b, (i, (((j : Nat) : Int), ()))))), (l, ())) = some (((), ((0 : Int), (b, (i, ())))), (Sp.sink l j, ()))
 | 0, l, hj, hl => by
  rw [whileO_eq]
  unfold go138_l2
  simp only
  rw [decide_eq_false (by omega), cond_false]
  rfl
 | j + 1, l, hj, hl => by
  rw [lenVal] at hl
  have hj : j + 1 < l.length := by omega
  rw [whileO_eq]
  unfold go138_l2
  simp only
  have e1 : (((j + 1 : Nat) : Int)).toNat = j + 1 := Int.toNat_natCast _
  have e2 : (((j + 1 : Nat) : Int) - 1) = ((j : Nat) : Int) := by omega
  have e3 : ((j : Nat) : Int).toNat = j := Int.toNat_natCast _
  rw [e2]
  simp only [e1, e3]
  rw [decide_eq_true (by omega), cond_true, grd_ok (by omega), grd_of (blt_t hj), grd_ok (by omega), grd_ok (by omega), grd_of (blt_t (by omega))]
  unfold Sp.sink
  by_cases h : l.getD (j + 1) 0 < l.getD j 0
  ·rw [decide_eq_true h, cond_true, if_pos h]
   rw [grd_ok (by omega), grd_ok (by omega), grd_ok (by omega), grd_of (blt_t (by omega)), grd_ok (by omega), grd_of (blt_t hj), grd_ok (by omega), grd_of (blt_t hj), grd_ok (by simp only [List.length_set]; omega), grd_of (blt_t (by simp only [List.length_set]; omega)), grd_ok (by omega)]
   exact loop1382 b i j _ (by simp only [List.length_set]; omega) (by simp only [List.length_set, lenVal]; omega)
  ·rw [decide_eq_false h, cond_false, if_neg h]
theorem ok138 (l : List Int) (hl : l.length <= LEN) : go138 0 ((l.length : Nat) : Int) l = some ((), (Sp.srt l, ())) := by
 have hl' := hl
 rw [lenVal] at hl'
 unfold go138
 rw [grd_ok (by omega)]
 refine callB_of (y := ((), (Sp.srt l, ()))) ?_ rfl
 refine whileO_to (st := fun k => (((), ((0 : Int), (((l.length : Nat) : Int), ((((k + 1 : Nat) : Int)), ())))), (Sp.srtTo l k, ()))) rfl (l.length - 1) (fun k hk => ?_) ?_
 ·unfold go138_l1
  simp only
  rw [decide_eq_true (by omega), cond_true]
  refine callB_of (loop1382 _ _ (k + 1) (Sp.srtTo l k) (.inl (by rw [srtTo_len]; omega)) (by rw [srtTo_len]; exact hl)) ?_
  rw [grd_ok (by simp only; omega)]
  rfl
 ·unfold go138_l1
  simp only
  rw [decide_eq_false (by omega), cond_false]
  rfl
def c138 : Ctr Try.prog := mkCtr 138 Try.f138 Try.func138 [c144] ann138 [(0, (.full 0)), (1, (.i .i64)), (2, (.i .i64))] [(.lst 3 (.int .i64))] (.tup []) [(.lst 3 (.int .i64))] (fun x y => grd (okB (x.2.1 = 0 /\ x.2.2.1 = ((y.1.length : Nat) : Int) /\ y.1.length <= LEN)) (some ((), (Sp.srt y.1, ())))) (fun x y r h => FO (run138 x.2.1 x.2.2.1 y.1) (fun k => by rw [k.1, k.2.1]; exact ok138 _ k.2.2) h)
end
end Go.Abs
namespace Go.Abs
open Go Go.Proofs
noncomputable section
def ann125 : Ann := (.seq .o (.seq .o (.block (.loop ⟨[(0, (.full 0)), (1, (.i .i64)), (2, (.i .i64)), (3, (.i .i64)), (8, .b), (9, .b)], [(.lst 3 (.int .i64))]⟩ [(.ret, ⟨[], [(.lst 3 (.int .i64))]⟩)] (.block (.seq .o (.join ⟨[(0, (.full 0)), (1, (.i .i64)), (2, (.i .i64)), (3, (.i .i64)), (8, .b), (9, .b), (10, (.i .i64))], [(.lst 3 (.int .i64))]⟩ (.seq .o (.cond (.seq .o .o) .o)) (.join ⟨[(0, (.full 0)), (1, (.i .i64)), (2, (.i .i64)), (3, (.i .i64)), (8, .b), (9, .b), (10, (.i .i64))], [(.lst 3 (.int .i64))]⟩ (.seq .o (.cond (.seq .o .o) .o)) (.join ⟨[(0, (.full 0)), (1, (.i .i64)), (2, (.i .i64)), (3, (.i .i64)), (8, .b), (9, .b), (10, (.i .i64))], [(.lst 3 (.int .i64))]⟩ (.seq .o (.cond (.seq .o .o) .o)) (.seq .o .o))))))))))
def go125_l1 : ((Unit × (Int × (Int × (Int × (Bool × (Bool × Unit)))))) × ((List Int) × Unit)) -> Option (((Unit × (Int × (Int × (Int × (Bool × (Bool × Unit)))))) × ((List Int) × Unit)) ⊕ (Unit × ((List Int) × Unit))) := (fun (r0 : ((Unit × (Int × (Int × (Int × (Bool × (Bool × Unit)))))) × ((List Int) × Unit))) => (grd (okB (((-(9223372036854775808 : Int)) <= (r0.1.2.2.1 - r0.1.2.1)) /\ ((r0.1.2.2.1 - r0.1.2.1) <= (9223372036854775807 : Int))))
   (bif (decide ((r0.1.2.2.1 - r0.1.2.1) <= (12 : Int))) then
    (callB (grd (okB ((r0.1.2.1 = (0 : Int)) /\ ((r0.1.2.2.1 = ((r0.2.1.length : Nat) : Int)) /\ (r0.2.1.length <= LEN))))
      (some ((), ((Sp.srt r0.2.1), ()))))
     (fun (r1 : (Unit × ((List Int) × Unit))) => (grd ((decide (r1.2.1.length = r0.2.1.length)) && true)
       (some (Sum.inr ((), (r1.2.1, ())))))))
    else
    (bif (decide (r0.1.2.2.2.1 = (0 : Int))) then
     none
     else
     (bif (!r0.1.2.2.2.2.1) then
      none
      else
      none)))))
def go125 (x1 : Int) (x2 : Int) (x3 : Int) (y0 : (List Int)) : (Option (Unit × ((List Int) × Unit))) :=
 (callB (whileO (go125_l1) (((), (x1, (x2, (x3, (true, (true, ())))))), (y0, ())))
  (fun (z0 : (Unit × ((List Int) × Unit))) => (some ((), (z0.2.1, ())))))
theorem run125 (x1 : Int) (x2 : Int) (x3 : Int) (y0 : (List Int)) : runF (P := Try.prog) [c138] Try.f125 ann125 [(0, (.full 0)), (1, (.i .i64)), (2, (.i .i64)), (3, (.i .i64))] [(.lst 3 (.int .i64))] (.tup []) [(.lst 3 (.int .i64))] ((), (x1, (x2, (x3, ())))) (y0, ()) = go125 x1 x2 x3 y0 := by kernel_rfl
theorem srt_len (l : List Int) : (Sp.srt l).length = l.length := srtTo_len l _
theorem ok125 (l : List Int) (x : Int) (hl : l.length <= 12) : go125 0 ((l.length : Nat) : Int) x l = some ((), (Sp.srt l, ())) := by
 unfold go125
 refine callB_of (y := ((), (Sp.srt l, ()))) ?_ rfl
 rw [whileO_eq]
 unfold go125_l1
 simp only
 rw [grd_ok (by omega), decide_eq_true (by omega), cond_true, grd_ok ⟨trivial, trivial, by rw [lenVal]; omega⟩]
 simp only [callB_some, srt_len, decide_true, Bool.true_and]
 rfl
def c125 : Ctr Try.prog := mkCtr 125 Try.f125 Try.func125 [c138] ann125 [(0, (.full 0)), (1, (.i .i64)), (2, (.i .i64)), (3, (.i .i64))] [(.lst 3 (.int .i64))] (.tup []) [(.lst 3 (.int .i64))] (fun x y => grd (okB (x.2.1 = 0 /\ x.2.2.1 = ((y.1.length : Nat) : Int) /\ y.1.length <= 12)) (some ((), (Sp.srt y.1, ())))) (fun x y r h => FO (run125 x.2.1 x.2.2.1 x.2.2.2.1 y.1) (fun k => by rw [k.1, k.2.1]; exact ok125 _ _ k.2.2) h)
end
end Go.Abs
namespace Go.Abs
open Go Go.Proofs
noncomputable section
def ann88 : Ann := (.seq .o .o)
def go88 (y0 : (List Int)) : (Option (Unit × ((List Int) × Unit))) :=
 (callB (grd (okB (((0 : Int) <= (Go.IntKind.wrap Go.IntKind.u64 ((y0.length : Nat) : Int))) /\ ((Go.IntKind.wrap Go.IntKind.u64 ((y0.length : Nat) : Int)) <= (2 : Int))))
   (some ((Go.IntKind.wrap Go.IntKind.u64 ((y0.length : Nat) : Int)), ())))
  (fun (r0 : (Int × Unit)) => (callB (grd (okB (((0 : Int) = (0 : Int)) /\ ((((y0.length : Nat) : Int) = ((y0.length : Nat) : Int)) /\ (y0.length <= (12 : Nat)))))
     (some ((), ((Sp.srt y0), ()))))
    (fun (r1 : (Unit × ((List Int) × Unit))) => (grd ((decide (r1.2.1.length = y0.length)) && true)
      (some ((), (r1.2.1, ()))))))))
theorem run88 (y0 : (List Int)) : runF (P := Try.prog) [c125, c126] Try.f88 ann88 [(0, (.full 0))] [(.lst 3 (.int .i64))] (.tup []) [(.lst 3 (.int .i64))] ((), ()) (y0, ()) = go88 y0 := by kernel_rfl
theorem ok88 (l : List Int) (hl : l.length <= 2) : go88 l = some ((), (Sp.srt l, ())) := by
 have hw : (IntKind.u64.wrap ((l.length : Nat) : Int)) = ((l.length : Nat) : Int) := by
  have : l.length = 0 \/ l.length = 1 \/ l.length = 2 := by omega
  rcases this with h | h | h <;> rw [h] <;> decide
 unfold go88
 rw [hw, grd_ok (by omega)]
 simp only [callB_some]
 rw [grd_ok ⟨trivial, trivial, by omega⟩]
 simp only [callB_some, srt_len, decide_true, Bool.true_and]
 rfl
def c88 : Ctr Try.prog := mkCtr 88 Try.f88 Try.func88 [c125, c126] ann88 [(0, (.full 0))] [(.lst 3 (.int .i64))] (.tup []) [(.lst 3 (.int .i64))] (fun _ y => grd (okB (y.1.length <= 2)) (some ((), (Sp.srt y.1, ())))) (fun x y r h => FO (run88 y.1) (fun k => ok88 _ k) h)
def ann89 : Ann := (.seq .o (.join ⟨[(0, (.full 0))], [(.lst 3 (.int .i64))]⟩ (.seq .o (.cond (.seq .o .o) .o)) (.join ⟨[(0, (.full 0))], [(.lst 3 (.int .i64))]⟩ (.seq .o (.block (.loop ⟨[(0, (.full 0)), (3, (.i .i64))], [(.lst 3 (.int .i64))]⟩ [((.exit 0), ⟨[(0, (.full 0))], [(.lst 3 (.int .i64))]⟩), (.ret, ⟨[(2, (.full 1))], [.dead, (.lst 3 (.int .i64))]⟩)] (.join ⟨[(0, (.full 0)), (3, (.i .i64))], [(.lst 3 (.int .i64))]⟩ (.seq .o (.cond .o .o)) (.join ⟨[(0, (.full 0)), (3, (.i .i64))], [(.lst 3 (.int .i64))]⟩ (.block (.seq .o (.cond (.seq .o (.join ⟨[(0, (.full 0)), (3, (.i .i64))], [(.lst 3 (.int .i64))]⟩ (.seq .o (.block (.loop ⟨[(0, (.full 0)), (3, (.i .i64)), (4, (.part 0)), (5, (.i .i64))], [(.lst 3 (.int .i64))]⟩ [((.exit 2), ⟨[(0, (.full 0)), (3, (.i .i64))], [(.lst 3 (.int .i64))]⟩)] (.join ⟨[(0, (.full 0)), (3, (.i .i64)), (4, (.part 0)), (5, (.i .i64))], [(.lst 3 (.int .i64))]⟩ (.seq .o (.cond .o .o)) (.join ⟨[(0, (.full 0)), (3, (.i .i64)), (4, (.part 0)), (5, (.i .i64))], [(.lst 3 (.int .i64))]⟩ (.block (.seq .o (.cond (.seq .o .o) .o))) .o))))) (.seq .o (.seq (.x ⟨false, true, false, false, [], [], [], .no⟩) .o)))) .o))) .o))))) (.seq .o .o))))
def go89_j1 : ((Unit × (Int × ((Nat × Nat) × (Int × Unit)))) × ((List Int) × Unit)) -> Option (((Unit × (Int × ((Nat × Nat) × (Int × Unit)))) × ((List Int) × Unit)) ⊕ ((Unit × (Int × Unit)) × ((List Int) × Unit))) := (fun (z0 : ((Unit × (Int × ((Nat × Nat) × (Int × Unit)))) × ((List Int) × Unit))) => (grd (okB (((-(9223372036854775808 : Int)) <= (z0.1.2.2.2.1 + (1 : Int))) /\ ((z0.1.2.2.2.1 + (1 : Int)) <= (9223372036854775807 : Int))))
   (some (Sum.inl (((), (z0.1.2.1, ((z0.1.2.2.1.1, z0.1.2.2.1.2), ((z0.1.2.2.2.1 + (1 : Int)), ())))), (z0.2.1, ()))))))
def go89_l2 : ((Unit × (Int × ((Nat × Nat) × (Int × Unit)))) × ((List Int) × Unit)) -> Option (((Unit × (Int × ((Nat × Nat) × (Int × Unit)))) × ((List Int) × Unit)) ⊕ ((Unit × (Int × Unit)) × ((List Int) × Unit))) := (fun (r1 : ((Unit × (Int × ((Nat × Nat) × (Int × Unit)))) × ((List Int) × Unit))) => (bif (decide (r1.1.2.2.2.1 < ((r1.1.2.2.1.2 : Nat) : Int))) then
   (jpO (go89_j1)
    (fun (j0 : (((Unit × (Int × ((Nat × Nat) × (Int × Unit)))) × ((List Int) × Unit)) -> (Option (((Unit × (Int × ((Nat × Nat) × (Int × Unit)))) × ((List Int) × Unit)) ⊕ ((Unit × (Int × Unit)) × ((List Int) × Unit)))))) => (grd (okB (((0 : Int) <= r1.1.2.2.2.1) /\ (r1.1.2.2.2.1 < ((r1.1.2.2.1.2 : Nat) : Int))))
      (grd (Nat.blt (r1.1.2.2.2.1.toNat + r1.1.2.2.1.1) r1.2.1.length)
       (grd (okB (((-(9223372036854775808 : Int)) <= (r1.1.2.2.2.1 - (1 : Int))) /\ ((r1.1.2.2.2.1 - (1 : Int)) <= (9223372036854775807 : Int))))
        (grd (okB (((0 : Int) <= (r1.1.2.2.2.1 - (1 : Int))) /\ ((r1.1.2.2.2.1 - (1 : Int)) < ((r1.1.2.2.1.2 : Nat) : Int))))
         (grd (Nat.blt ((r1.1.2.2.2.1 - (1 : Int)).toNat + r1.1.2.2.1.1) r1.2.1.length)
          (bif (!(decide ((r1.2.1.getD (r1.1.2.2.2.1.toNat + r1.1.2.2.1.1) (0 : Int)) = (r1.2.1.getD ((r1.1.2.2.2.1 - (1 : Int)).toNat + r1.1.2.2.1.1) (0 : Int))))) then
           (grd (okB (((0 : Int) <= r1.1.2.2.2.1) /\ (r1.1.2.2.2.1 < ((r1.1.2.2.1.2 : Nat) : Int))))
            (grd (Nat.blt (r1.1.2.2.2.1.toNat + r1.1.2.2.1.1) r1.2.1.length)
             (grd (okB (((0 : Int) <= r1.1.2.1) /\ (r1.1.2.1 < ((r1.2.1.length : Nat) : Int))))
              (grd (Nat.blt r1.1.2.1.toNat r1.2.1.length)
               (grd (okB (((-(9223372036854775808 : Int)) <= (r1.1.2.1 + (1 : Int))) /\ ((r1.1.2.1 + (1 : Int)) <= (9223372036854775807 : Int))))
                (j0 (((), ((r1.1.2.1 + (1 : Int)), ((r1.1.2.2.1.1, r1.1.2.2.1.2), (r1.1.2.2.2.1, ())))), ((r1.2.1.set r1.1.2.1.toNat (r1.2.1.getD (r1.1.2.2.2.1.toNat + r1.1.2.2.1.1) (0 : Int))), ()))))))))
           else
           (j0 (((), (r1.1.2.1, ((r1.1.2.2.1.1, r1.1.2.2.1.2), (r1.1.2.2.2.1, ())))), (r1.2.1, ())))))))))))
   else
   (some (Sum.inr (((), (r1.1.2.1, ())), (r1.2.1, ()))))))
def go89_l1 : ((Unit × (Int × Unit)) × ((List Int) × Unit)) -> Option (((Unit × (Int × Unit)) × ((List Int) × Unit)) ⊕ (((Unit × Unit) × ((List Int) × Unit)) ⊕ ((Unit × Unit) × (Unit × ((List Int) × Unit))))) := (fun (r0 : ((Unit × (Int × Unit)) × ((List Int) × Unit))) => (bif (decide (r0.1.2.1 < ((r0.2.1.length : Nat) : Int))) then
   (grd (okB (((0 : Int) <= r0.1.2.1) /\ (r0.1.2.1 < ((r0.2.1.length : Nat) : Int))))
    (grd (Nat.blt r0.1.2.1.toNat r0.2.1.length)
     (grd (okB (((-(9223372036854775808 : Int)) <= (r0.1.2.1 - (1 : Int))) /\ ((r0.1.2.1 - (1 : Int)) <= (9223372036854775807 : Int))))
      (grd (okB (((0 : Int) <= (r0.1.2.1 - (1 : Int))) /\ ((r0.1.2.1 - (1 : Int)) < ((r0.2.1.length : Nat) : Int))))
       (grd (Nat.blt (r0.1.2.1 - (1 : Int)).toNat r0.2.1.length)
        (bif (decide ((r0.2.1.getD r0.1.2.1.toNat (0 : Int)) = (r0.2.1.getD (r0.1.2.1 - (1 : Int)).toNat (0 : Int)))) then
         (grd (bndG r0.2.1.length (some (Go.IntKind.i64, r0.1.2.1)) none)
          (callB (whileO (go89_l2) (((), (r0.1.2.1, (((lowN (some (Go.IntKind.i64, r0.1.2.1))), ((highN r0.2.1.length none) - (lowN (some (Go.IntKind.i64, r0.1.2.1))))), ((1 : Int), ())))), (r0.2.1, ())))
           (fun (z0 : ((Unit × (Int × Unit)) × ((List Int) × Unit))) => (grd (bndG z0.2.1.length (some (Go.IntKind.i64, z0.1.2.1)) none)
             (grd (Nat.ble ((lowN (some (Go.IntKind.i64, z0.1.2.1))) + ((highN z0.2.1.length none) - (lowN (some (Go.IntKind.i64, z0.1.2.1))))) z0.2.1.length)
              (grd (okB (((0 : Int) <= z0.1.2.1) /\ (z0.1.2.1 <= (((@clrL Int z0.2.1 (lowN (some (Go.IntKind.i64, z0.1.2.1))) ((highN z0.2.1.length none) - (lowN (some (Go.IntKind.i64, z0.1.2.1)))) (0 : Int)).length : Nat) : Int))))
               (some (Sum.inr (Sum.inr (((), ()), ((), ((@List.take Int z0.1.2.1.toNat (@clrL Int z0.2.1 (lowN (some (Go.IntKind.i64, z0.1.2.1))) ((highN z0.2.1.length none) - (lowN (some (Go.IntKind.i64, z0.1.2.1)))) (0 : Int))), ()))))))))))))
         else
         (grd (okB (((-(9223372036854775808 : Int)) <= (r0.1.2.1 + (1 : Int))) /\ ((r0.1.2.1 + (1 : Int)) <= (9223372036854775807 : Int))))
          (some (Sum.inl (((), ((r0.1.2.1 + (1 : Int)), ())), (r0.2.1, ())))))))))))
   else
   (some (Sum.inr (Sum.inl (((), ()), (r0.2.1, ())))))))
def go89 (y0 : (List Int)) : (Option (Unit × (Unit × ((List Int) × Unit)))) :=
 (bif (decide (((y0.length : Nat) : Int) < (2 : Int))) then
  (some ((), ((), (y0, ()))))
  else
  (callB (whileO (go89_l1) (((), ((1 : Int), ())), (y0, ())))
   (fun (z0 : (((Unit × Unit) × ((List Int) × Unit)) ⊕ ((Unit × Unit) × (Unit × ((List Int) × Unit))))) => (sumO (fun (z1 : ((Unit × Unit) × ((List Int) × Unit))) => (some ((), ((), (z1.2.1, ())))))
     (fun (z1 : ((Unit × Unit) × (Unit × ((List Int) × Unit)))) => (some ((), ((), (z1.2.2.1, ()))))) z0))))
theorem run89 (y0 : (List Int)) : runF (P := Try.prog) [] Try.f89 ann89 [(0, (.full 0))] [(.lst 3 (.int .i64))] (.full 1) [.dead, (.lst 3 (.int .i64))] ((), ()) (y0, ()) = go89 y0 := by kernel_rfl
def Sp.uniq : List Int -> List Int
 | [x, y] => if y = x then [x] else [x, y]
 | l => l
theorem step892 (x y : Int) : go89_l1 (((), ((2 : Int), ())), ([x, y], ())) = some (.inr (.inl (((), ()), ([x, y], ())))) := by
 unfold go89_l1
 simp only [List.length_cons, List.length_nil]
 rw [decide_eq_false (by omega), cond_false]
theorem step891 (x y : Int) (h : ¬ y = x) : go89_l1 (((), ((1 : Int), ())), ([x, y], ())) = some (.inl (((), ((2 : Int), ())), ([x, y], ()))) := by
 unfold go89_l1
 simp only [List.length_cons, List.length_nil]
 rw [decide_eq_true (by omega), cond_true, grd_ok (by omega), grd_of (by decide), grd_ok (by omega), grd_ok (by omega), grd_of (by decide)]
 rw [show ([x, y].getD (1 : Int).toNat 0) = y from rfl, show ([x, y].getD ((1 : Int) - 1).toNat 0) = x from rfl, decide_eq_false h, cond_false, grd_ok (by omega)]
 rfl
theorem inner89 (x y : Int) : whileO go89_l2 (((), ((1 : Int), (((1 : Nat), (1 : Nat)), ((1 : Int), ())))), ([x, y], ())) = some (((), ((1 : Int), ())), ([x, y], ())) := by
 rw [whileO_eq]
 unfold go89_l2
 simp only
 rw [decide_eq_false (by omega), cond_false]
theorem step890 (x : Int) : go89_l1 (((), ((1 : Int), ())), ([x, x], ())) = some (.inr (.inr (((), ()), ((), ([x], ()))))) := by
 unfold go89_l1
 simp only [List.length_cons, List.length_nil]
 rw [decide_eq_true (by omega), cond_true, grd_ok (by omega), grd_of (by decide), grd_ok (by omega), grd_ok (by omega), grd_of (by decide)]
 rw [show ([x, x].getD (1 : Int).toNat 0) = x from rfl, show ([x, x].getD ((1 : Int) - 1).toNat 0) = x from rfl, decide_eq_true rfl, cond_true]
 rw [grd_of (show bndG 2 (some (IntKind.i64, (1 : Int))) none = true from okB_of (by simp))]
 refine callB_of (inner89 x x) ?_
 simp only [List.length_cons, List.length_nil]
 rw [grd_of (show bndG 2 (some (IntKind.i64, (1 : Int))) none = true from okB_of (by simp)), grd_of (by decide)]
 rw [show @clrL Int [x, x] (lowN (some (IntKind.i64, (1 : Int)))) (highN 2 none - lowN (some (IntKind.i64, (1 : Int)))) 0 = [x, 0] from rfl]
 rw [grd_ok (by simp)]
 rfl
theorem ok89 (l : List Int) (hl : l.length <= 2) : go89 l = some ((), ((), (Sp.uniq l, ()))) := by
 match l, hl with
 | [], _ => rfl
 | [x], _ => rfl
 | [x, y], _ =>
  unfold go89
  simp only [List.length_cons, List.length_nil]
  rw [decide_eq_false (by omega), cond_false]
  by_cases h : y = x
  ·subst h
   refine callB_of (y := .inr (((), ()), ((), ([y], ())))) (by rw [whileO_eq, step890]) ?_
   simp only [sumO_inr, Sp.uniq, if_true]
  ·refine callB_of (y := .inl (((), ()), ([x, y], ()))) (by rw [whileO_eq, step891 x y h]; simp only; rw [whileO_eq, step892]) ?_
   simp only [sumO_inl, Sp.uniq, if_neg h]
def c89 : Ctr Try.prog := mkCtr 89 Try.f89 Try.func89 [] ann89 [(0, (.full 0))] [(.lst 3 (.int .i64))] (.full 1) [.dead, (.lst 3 (.int .i64))] (fun _ y => grd (okB (y.1.length <= 2)) (some ((), ((), (Sp.uniq y.1, ()))))) (fun x y r h => FO (run89 y.1) (fun k => ok89 _ k) h)
end
end Go.Abs
namespace Go.Abs
open Go Go.Proofs
noncomputable section
def ann13 : Ann := (.seq .o (.join ⟨[], []⟩ (.block (.seq .o (.cond (.seq .o .o) (.join ⟨[(0, (.i .i64)), (6, .b)], []⟩ (.seq .o (.cond .o (.seq .o (.cond .o .o)))) (.cond (.seq .o .o) (.join ⟨[(0, (.i .i64)), (13, .b)], []⟩ (.seq .o (.cond .o .o)) (.cond (.seq .o .o) (.join ⟨[(18, .b)], []⟩ (.seq .o (.cond .o (.seq .o (.cond .o (.seq .o (.cond .o .o)))))) (.cond (.seq .o .o) .o))))))))) (.seq .o .o)))
def go13_j3 : ((Bool × Unit) × Unit) -> Option (Int × Unit) := (fun (z2 : ((Bool × Unit) × Unit)) => (bif z2.1.1 then
   (some ((1 : Int), ()))
   else
   (some ((-(1 : Int)), ()))))
def go13_j2 : ((Int × (Bool × Unit)) × Unit) -> Option (Int × Unit) := (fun (z1 : ((Int × (Bool × Unit)) × Unit)) => (bif z1.1.2.1 then
   (some ((3 : Int), ()))
   else
   (jpO (go13_j3)
    (fun (j0 : (((Bool × Unit) × Unit) -> (Option (Int × Unit)))) => (bif (decide (z1.1.1 = (22 : Int))) then
      (j0 ((true, ()), ()))
      else
      (bif (decide (z1.1.1 = (23 : Int))) then
       (j0 ((true, ()), ()))
       else
       (bif (decide (z1.1.1 = (24 : Int))) then
        (j0 ((true, ()), ()))
        else
        (j0 (((decide (z1.1.1 = (27 : Int))), ()), ())))))))))
def go13_j1 : ((Int × (Bool × Unit)) × Unit) -> Option (Int × Unit) := (fun (z0 : ((Int × (Bool × Unit)) × Unit)) => (bif z0.1.2.1 then
   (some ((2 : Int), ()))
   else
   (jpO (go13_j2)
    (fun (j0 : (((Int × (Bool × Unit)) × Unit) -> (Option (Int × Unit)))) => (bif (decide (z0.1.1 = (21 : Int))) then
      (j0 ((z0.1.1, (true, ())), ()))
      else
      (j0 ((z0.1.1, ((decide (z0.1.1 = (26 : Int))), ())), ())))))))
def go13 (x0 : Int) : (Option (Int × Unit)) :=
 (bif (decide (x0 = (1 : Int))) then
  (some ((0 : Int), ()))
  else
  (jpO (go13_j1)
   (fun (j0 : (((Int × (Bool × Unit)) × Unit) -> (Option (Int × Unit)))) => (bif (Sp.isBinary x0) then
     (j0 ((x0, (true, ())), ()))
     else
     (bif (decide (x0 = (25 : Int))) then
      (j0 ((x0, (true, ())), ()))
      else
      (j0 ((x0, ((decide (x0 = (28 : Int))), ())), ())))))))
theorem run13 (x0 : Int) : runF (P := Try.prog) [c42] Try.f13 ann13 [(0, (.i .i64))] [] (.i .i64) [] (x0, ()) () = go13 x0 := by kernel_rfl
def ann14 : Ann := (.seq .o (.join ⟨[], []⟩ (.block (.seq .o (.cond (.seq .o .o) (.join ⟨[(0, (.i .i64)), (6, .b)], []⟩ (.seq .o (.cond .o (.seq .o (.cond .o .o)))) (.cond (.seq .o .o) (.join ⟨[(0, (.i .i64)), (13, .b)], []⟩ (.seq .o (.cond .o .o)) (.cond (.seq .o .o) (.join ⟨[(18, .b)], []⟩ (.seq .o (.cond .o (.seq .o (.cond .o (.seq .o (.cond .o .o)))))) (.cond (.seq .o .o) .o))))))))) (.seq .o .o)))
def go14_j3 : ((Bool × Unit) × Unit) -> Option (Int × Unit) := (fun (z2 : ((Bool × Unit) × Unit)) => (bif z2.1.1 then
   (some ((1 : Int), ()))
   else
   (some ((-(1 : Int)), ()))))
def go14_j2 : ((Int × (Bool × Unit)) × Unit) -> Option (Int × Unit) := (fun (z1 : ((Int × (Bool × Unit)) × Unit)) => (bif z1.1.2.1 then
   (some ((3 : Int), ()))
   else
   (jpO (go14_j3)
    (fun (j0 : (((Bool × Unit) × Unit) -> (Option (Int × Unit)))) => (bif (decide (z1.1.1 = (22 : Int))) then
      (j0 ((true, ()), ()))
      else
      (bif (decide (z1.1.1 = (23 : Int))) then
       (j0 ((true, ()), ()))
       else
       (bif (decide (z1.1.1 = (24 : Int))) then
        (j0 ((true, ()), ()))
        else
        (j0 (((decide (z1.1.1 = (27 : Int))), ()), ())))))))))
def go14_j1 : ((Int × (Bool × Unit)) × Unit) -> Option (Int × Unit) := (fun (z0 : ((Int × (Bool × Unit)) × Unit)) => (bif z0.1.2.1 then
   (some ((2 : Int), ()))
   else
   (jpO (go14_j2)
    (fun (j0 : (((Int × (Bool × Unit)) × Unit) -> (Option (Int × Unit)))) => (bif (decide (z0.1.1 = (21 : Int))) then
      (j0 ((z0.1.1, (true, ())), ()))
      else
      (j0 ((z0.1.1, ((decide (z0.1.1 = (26 : Int))), ())), ())))))))
def go14 (x0 : Int) : (Option (Int × Unit)) :=
 (bif (decide (x0 = (1 : Int))) then
  (some ((0 : Int), ()))
  else
  (jpO (go14_j1)
   (fun (j0 : (((Int × (Bool × Unit)) × Unit) -> (Option (Int × Unit)))) => (bif (Sp.isBinary x0) then
     (j0 ((x0, (true, ())), ()))
     else
     (bif (decide (x0 = (25 : Int))) then
      (j0 ((x0, (true, ())), ()))
      else
      (j0 ((x0, ((decide (x0 = (28 : Int))), ())), ())))))))
theorem run14 (x0 : Int) : runF (P := Try.prog) [c43] Try.f14 ann14 [(0, (.i .i64))] [] (.i .i64) [] (x0, ()) () = go14 x0 := by kernel_rfl
def ann46 : Ann := (.seq .o (.join ⟨[(0, (.fz (.int .i64))), (1, (.i .i64))], []⟩ (.seq .o (.block (.loop ⟨[(0, (.fz (.int .i64))), (1, (.i .i64)), (5, (.i .i64))], []⟩ [((.exit 0), ⟨[(0, (.fz (.int .i64))), (1, (.i .i64))], []⟩), (.ret, ⟨[(4, .b)], []⟩)] (.join ⟨[(0, (.fz (.int .i64))), (1, (.i .i64)), (5, (.i .i64))], []⟩ (.seq .o (.cond .o .o)) (.join ⟨[(0, (.fz (.int .i64))), (1, (.i .i64)), (5, (.i .i64))], []⟩ (.block (.seq .o (.cond (.seq .o .o) .o))) .o))))) (.seq .o .o)))
def go46_l1 : (((List Int) × (Int × (Int × Unit))) × Unit) -> Option ((((List Int) × (Int × (Int × Unit))) × Unit) ⊕ ((((List Int) × (Int × Unit)) × Unit) ⊕ ((Bool × Unit) × Unit))) := (fun (r0 : (((List Int) × (Int × (Int × Unit))) × Unit)) => (bif (decide (r0.1.2.2.1 < ((r0.1.1.length : Nat) : Int))) then
   (grd (okB (((0 : Int) <= r0.1.2.2.1) /\ (r0.1.2.2.1 < ((r0.1.1.length : Nat) : Int))))
    (bif (!(Sp.right (r0.1.1.getD r0.1.2.2.1.toNat (0 : Int)))) then
     (some (Sum.inr (Sum.inr ((false, ()), ()))))
     else
     (grd (okB (((-(9223372036854775808 : Int)) <= (r0.1.2.2.1 + (1 : Int))) /\ ((r0.1.2.2.1 + (1 : Int)) <= (9223372036854775807 : Int))))
      (some (Sum.inl ((r0.1.1, (r0.1.2.1, ((r0.1.2.2.1 + (1 : Int)), ()))), ()))))))
   else
   (some (Sum.inr (Sum.inl ((r0.1.1, (r0.1.2.1, ())), ()))))))
def go46 (x0 : (List Int)) (x1 : Int) : (Option (Bool × Unit)) :=
 (callB (whileO (go46_l1) ((x0, (x1, ((0 : Int), ()))), ()))
  (fun (z0 : ((((List Int) × (Int × Unit)) × Unit) ⊕ ((Bool × Unit) × Unit))) => (sumO (fun (z1 : (((List Int) × (Int × Unit)) × Unit)) => (some ((decide (((z1.1.1.length : Nat) : Int) <= z1.1.2.1)), ())))
    (fun (z1 : ((Bool × Unit) × Unit)) => (some (z1.1.1, ()))) z0)))
theorem run46 (x0 : (List Int)) (x1 : Int) : runF (P := Try.prog) [c92] Try.f46 ann46 [(0, (.fz (.int .i64))), (1, (.i .i64))] [] .b [] (x0, (x1, ())) () = go46 x0 x1 := by kernel_rfl
def ann48 : Ann := (.seq .o (.join ⟨[], []⟩ (.seq .o (.block (.loop ⟨[(1, (.fz (.int .i64))), (2, (.fz .bool)), (3, (.ptr 0 0)), (7, (.i .i64))], [(.box 30 (.st 6))]⟩ [((.exit 0), ⟨[], []⟩), (.ret, ⟨[(6, .b)], []⟩)] (.join ⟨[(1, (.fz (.int .i64))), (2, (.fz .bool)), (3, (.ptr 0 0)), (7, (.i .i64))], [(.box 30 (.st 6))]⟩ (.seq .o (.cond .o .o)) (.join ⟨[(1, (.fz (.int .i64))), (2, (.fz .bool)), (3, (.ptr 0 0)), (7, (.i .i64))], [(.box 30 (.st 6))]⟩ (.block (.seq .o (.cond (.seq .o .o) .o))) .o))))) (.seq .o .o)))
def go48_l1 : (((List Int) × ((List Bool) × (Unit × (Int × Unit)))) × (Fn × Unit)) -> Option ((((List Int) × ((List Bool) × (Unit × (Int × Unit)))) × (Fn × Unit)) ⊕ ((Unit × Unit) ⊕ ((Bool × Unit) × Unit))) := (fun (r0 : (((List Int) × ((List Bool) × (Unit × (Int × Unit)))) × (Fn × Unit))) => (bif (decide (r0.1.2.2.2.1 < ((r0.1.1.length : Nat) : Int))) then
   (grd (okB (((0 : Int) <= r0.1.2.2.2.1) /\ (r0.1.2.2.2.1 < ((r0.1.1.length : Nat) : Int))))
    (bif (!(Sp.within r0.2.1 (r0.1.1.getD r0.1.2.2.2.1.toNat (0 : Int)))) then
     (some (Sum.inr (Sum.inr ((false, ()), ()))))
     else
     (grd (okB (((0 : Int) <= r0.1.2.2.2.1) /\ (r0.1.2.2.2.1 < ((r0.1.1.length : Nat) : Int))))
      (grd (okB (((0 : Int) <= (r0.1.1.getD r0.1.2.2.2.1.toNat (0 : Int))) /\ ((r0.1.1.getD r0.1.2.2.2.1.toNat (0 : Int)) < ((r0.1.2.1.length : Nat) : Int))))
       (bif (!(r0.1.2.1.getD (r0.1.1.getD r0.1.2.2.2.1.toNat (0 : Int)).toNat false)) then
        (some (Sum.inr (Sum.inr ((false, ()), ()))))
        else
        (grd (okB (((-(9223372036854775808 : Int)) <= (r0.1.2.2.2.1 + (1 : Int))) /\ ((r0.1.2.2.2.1 + (1 : Int)) <= (9223372036854775807 : Int))))
         (some (Sum.inl ((r0.1.1, (r0.1.2.1, ((), ((r0.1.2.2.2.1 + (1 : Int)), ())))), (r0.2.1, ()))))))))))
   else
   (some (Sum.inr (Sum.inl ((), ()))))))
def go48 (x0 : Fn) (x1 : (List Int)) (x2 : (List Bool)) : (Option (Bool × Unit)) :=
 (callB (whileO (go48_l1) ((x1, (x2, ((), ((0 : Int), ())))), (x0, ())))
  (fun (z0 : ((Unit × Unit) ⊕ ((Bool × Unit) × Unit))) => (sumO (fun (z1 : (Unit × Unit)) => (some (true, ())))
    (fun (z1 : ((Bool × Unit) × Unit)) => (some (z1.1.1, ()))) z0)))
theorem run48 (x0 : Fn) (x1 : (List Int)) (x2 : (List Bool)) : runF (P := Try.prog) [c47] Try.f48 ann48 [(0, (.st 6)), (1, (.fz (.int .i64))), (2, (.fz .bool))] [] .b [] (x0, (x1, (x2, ()))) () = go48 x0 x1 x2 := by kernel_rfl
def ann76 : Ann := (.seq .o (.seq .o (.join ⟨[(5, (.full 0))], [(.lst 3 (.int .i64))]⟩ (.seq .o (.block (.loop ⟨[(0, (.i .i64)), (1, (.i .u64)), (5, (.full 0)), (6, (.i .i64))], [(.lst 3 (.int .i64))]⟩ [((.exit 0), ⟨[(5, (.full 0))], [(.lst 3 (.int .i64))]⟩)] (.join ⟨[(0, (.i .i64)), (1, (.i .u64)), (5, (.full 0)), (6, (.i .i64))], [(.lst 3 (.int .i64))]⟩ (.seq .o (.cond .o .o)) (.join ⟨[(0, (.i .i64)), (1, (.i .u64)), (5, (.full 0)), (6, (.i .i64))], [(.lst 3 (.int .i64))]⟩ (.block (.seq .o .o)) .o))))) (.seq .o .o))))
def go76_l1 : ((Int × (Int × (Unit × (Int × Unit)))) × ((List Int) × Unit)) -> Option (((Int × (Int × (Unit × (Int × Unit)))) × ((List Int) × Unit)) ⊕ ((Unit × Unit) × ((List Int) × Unit))) := (fun (r0 : ((Int × (Int × (Unit × (Int × Unit)))) × ((List Int) × Unit))) => (bif (decide (r0.1.2.2.2.1 < (Sp.width r0.1.1))) then
   (grd (okB ((((r0.2.1.length + 1) * (8 : Nat)) <= (140737488355328 : Nat)) /\ ((r0.2.1.length + 1) <= (281474976710656 : Nat))))
    (grd (okB (((-(9223372036854775808 : Int)) <= (r0.1.2.2.2.1 + (1 : Int))) /\ ((r0.1.2.2.2.1 + (1 : Int)) <= (9223372036854775807 : Int))))
     (some (Sum.inl ((r0.1.1, ((Go.IntKind.wrap Go.IntKind.u64 (Int.tdiv r0.1.2.1 (2 : Int))), ((), ((r0.1.2.2.2.1 + (1 : Int)), ())))), ((r0.2.1 ++ ((Go.IntKind.wrap Go.IntKind.i64 (Int.tmod r0.1.2.1 (2 : Int))) :: ([] : List Int))), ()))))))
   else
   (some (Sum.inr (((), ()), (r0.2.1, ()))))))
def go76 (x0 : Int) (x1 : Int) : (Option ((List Int) × Unit)) :=
 (callB (whileO (go76_l1) ((x0, (x1, ((), ((0 : Int), ())))), (([] : List Int), ())))
  (fun (z0 : ((Unit × Unit) × ((List Int) × Unit))) => (some (z0.2.1, ()))))
theorem run76 (x0 : Int) (x1 : Int) : runF (P := Try.prog) [c78] Try.f76 ann76 [(0, (.i .i64)), (1, (.i .u64))] [] (.fz (.int .i64)) [] (x0, (x1, ())) () = go76 x0 x1 := by kernel_rfl
def ann44 : Ann := (.seq .o (.join ⟨[(0, .s)], []⟩ (.seq .o (.block (.loop ⟨[(0, .s), (3, (.i .i64))], []⟩ [((.exit 0), ⟨[(0, .s)], []⟩), (.ret, ⟨[(2, .b)], []⟩)] (.join ⟨[(0, .s), (3, (.i .i64))], []⟩ (.seq .o (.cond .o .o)) (.join ⟨[(0, .s), (3, (.i .i64))], []⟩ (.block (.seq .o (.cond (.seq .o .o) .o))) .o))))) (.seq .o .o)))
def go44_j1 : ((ByteArray × (Int × Unit)) × Unit) -> Option (((ByteArray × (Int × Unit)) × Unit) ⊕ (((ByteArray × Unit) × Unit) ⊕ ((Bool × Unit) × Unit))) := (fun (z0 : ((ByteArray × (Int × Unit)) × Unit)) => (grd (okB (((-(9223372036854775808 : Int)) <= (z0.1.2.1 + (1 : Int))) /\ ((z0.1.2.1 + (1 : Int)) <= (9223372036854775807 : Int))))
   (some (Sum.inl ((z0.1.1, ((z0.1.2.1 + (1 : Int)), ())), ())))))
def go44_l1 : ((ByteArray × (Int × Unit)) × Unit) -> Option (((ByteArray × (Int × Unit)) × Unit) ⊕ (((ByteArray × Unit) × Unit) ⊕ ((Bool × Unit) × Unit))) := (fun (r0 : ((ByteArray × (Int × Unit)) × Unit)) => (bif (decide (r0.1.2.1 < (((ByteArray.size r0.1.1) : Nat) : Int))) then
   (jpO (go44_j1)
    (fun (j0 : (((ByteArray × (Int × Unit)) × Unit) -> (Option (((ByteArray × (Int × Unit)) × Unit) ⊕ (((ByteArray × Unit) × Unit) ⊕ ((Bool × Unit) × Unit)))))) => (grd (okB (((0 : Int) <= r0.1.2.1) /\ (r0.1.2.1 < (((ByteArray.size r0.1.1) : Nat) : Int))))
      (bif (!(Sp.letter (strAt r0.1.1 r0.1.2.1.toNat))) then
       (bif (decide (r0.1.2.1 = (0 : Int))) then
        (some (Sum.inr (Sum.inr ((false, ()), ()))))
        else
        (grd (okB (((0 : Int) <= r0.1.2.1) /\ (r0.1.2.1 < (((ByteArray.size r0.1.1) : Nat) : Int))))
         (bif (decide ((Sp.digit (strAt r0.1.1 r0.1.2.1.toNat) (10 : Int)) < (0 : Int))) then
          (some (Sum.inr (Sum.inr ((false, ()), ()))))
          else
          (j0 ((r0.1.1, (r0.1.2.1, ())), ())))))
       else
       (j0 ((r0.1.1, (r0.1.2.1, ())), ()))))))
   else
   (some (Sum.inr (Sum.inl ((r0.1.1, ()), ()))))))
def go44 (x0 : ByteArray) : (Option (Bool × Unit)) :=
 (callB (whileO (go44_l1) ((x0, ((0 : Int), ())), ()))
  (fun (z0 : (((ByteArray × Unit) × Unit) ⊕ ((Bool × Unit) × Unit))) => (sumO (fun (z1 : ((ByteArray × Unit) × Unit)) => (bif (decide ((1 : Int) <= (((ByteArray.size z1.1.1) : Nat) : Int))) then
      (some ((decide ((((ByteArray.size z1.1.1) : Nat) : Int) <= (64 : Int))), ()))
      else
      (some (false, ()))))
    (fun (z1 : ((Bool × Unit) × Unit)) => (some (z1.1.1, ()))) z0)))
theorem run44 (x0 : ByteArray) : runF (P := Try.prog) [c90, c91] Try.f44 ann44 [(0, .s)] [] .b [] (x0, ()) () = go44 x0 := by kernel_rfl
def Sp.arity (op : Int) : Int :=
 if op = 1 then 0 else if Sp.isBinary op || decide (op = 25) || decide (op = 28) then 2 else if op = 21 \/ op = 26 then 3 else if op = 22 \/ op = 23 \/ op = 24 \/ op = 27 then 1 else -1
theorem ok13 (op : Int) : go13 op = some (Sp.arity op, ()) := by
 unfold go13 go13_j1 go13_j2 go13_j3 Sp.arity
 simp only [jpO_eq, bif_decide]
 cases Sp.isBinary op <;> simp only [cond_true, cond_false] <;> repeat' split
 all_goals simp_all
theorem ok14 (op : Int) : go14 op = some (Sp.arity op, ()) := ok13 op
def c13 : Ctr Try.prog := mkCtr 13 Try.f13 Try.func13 [c42] ann13 [(0, (.i .i64))] [] (.i .i64) [] (fun x _ => some (Sp.arity x.1, ())) (fun x _ r h => FE (run13 x.1) (ok13 x.1) h)
def c14 : Ctr Try.prog := mkCtr 14 Try.f14 Try.func14 [c43] ann14 [(0, (.i .i64))] [] (.i .i64) [] (fun x _ => some (Sp.arity x.1, ())) (fun x _ r h => FE (run14 x.1) (ok14 x.1) h)
def Sp.widths (l : List Int) (most : Int) : Bool := l.all Sp.right && decide ((l.length : Int) <= most)
theorem ok46 (l : List Int) (most : Int) (hl : l.length <= LEN) : go46 l most = some (Sp.widths l most, ()) := by
 rw [lenVal] at hl
 unfold go46 go46_l1
 refine callB_of (whileO_all (l := l) (st := fun i => ((l, most, (i : Int), ()), ())) rfl 0 Sp.right (A := .inl ((l, most, ()), ())) (B := .inr ((false, ()), ())) (fun i hi hp => ?_) (fun i hi hp => ?_) (fun _ => ?_)) ?_
 ·simp (maxSteps := 1000000) (disch := ((try dsimp only); omega)) only [↓gsA, gsB]
  rw [hp]; rfl
 ·simp (maxSteps := 1000000) (disch := ((try dsimp only); omega)) only [↓gsA, gsB]
  rw [hp]; rfl
 ·simp (maxSteps := 1000000) (disch := ((try dsimp only); omega)) only [↓gsA, gsB]
 ·unfold Sp.widths
  cases l.all Sp.right <;> simp
def c46 : Ctr Try.prog := mkCtr 46 Try.f46 Try.func46 [c92] ann46 [(0, (.fz (.int .i64))), (1, (.i .i64))] [] .b [] (fun x _ => grd (okB (x.1.length <= LEN)) (some (Sp.widths x.1 x.2.1, ()))) (fun x _ r h => FO (run46 x.1 x.2.1) (ok46 x.1 x.2.1) h)
theorem within_iff {f : Fn} {v : Int} : Sp.within f v = true ↔ 0 <= v /\ v < f.widths.length := by simp [Sp.within]
def Sp.used (f : Fn) (l : List Int) (known : List Bool) : Bool := l.all fun v => Sp.within f v && known.getD v.toNat false
theorem ok48 (f : Fn) (l : List Int) (known : List Bool) (h : l.length <= LEN /\ known.length = f.widths.length) : go48 f l known = some (Sp.used f l known, ()) := by
 obtain ⟨hl, hk⟩ := h
 rw [lenVal] at hl
 unfold go48 go48_l1
 refine callB_of (whileO_all (l := l) (st := fun i => ((l, known, (), (i : Int), ()), f, ())) rfl 0 (fun v => Sp.within f v && known.getD v.toNat false) (A := .inl ((), ())) (B := .inr ((false, ()), ())) (fun i hi hp => ?_) (fun i hi hp => ?_) (fun _ => ?_)) ?_
 ·simp only [Bool.and_eq_true] at hp
  obtain ⟨h1, h2⟩ := hp
  obtain ⟨h3, h4⟩ := within_iff.1 h1
  simp (maxSteps := 1000000) (disch := ((try dsimp only); omega)) only [↓gsA, gsB]
  rw [h1, h2]; rfl
 ·simp only [Bool.and_eq_false_iff] at hp
  simp (maxSteps := 1000000) (disch := ((try dsimp only); omega)) only [↓gsA, gsB]
  cases h1 : Sp.within f (l.getD i 0) with
  | false => rfl
  | true =>
   obtain ⟨h3, h4⟩ := within_iff.1 h1
   rw [h1] at hp
   simp (maxSteps := 1000000) (disch := ((try dsimp only); omega)) only [↓gsA, gsB]
   rcases hp with hp | hp
   ·cases hp
   ·rw [hp]; rfl
 ·simp (maxSteps := 1000000) (disch := ((try dsimp only); omega)) only [↓gsA, gsB]
 ·unfold Sp.used
  cases (l.all fun v => Sp.within f v && known.getD v.toNat false) <;> simp
def c48 : Ctr Try.prog := mkCtr 48 Try.f48 Try.func48 [c47] ann48 [(0, (.st 6)), (1, (.fz (.int .i64))), (2, (.fz .bool))] [] .b [] (fun x _ => grd (okB (x.2.1.length <= LEN /\ x.2.2.1.length = x.1.widths.length)) (some (Sp.used x.1 x.2.1 x.2.2.1, ()))) (fun x _ r h => FO (run48 x.1 x.2.1 x.2.2.1) (ok48 x.1 x.2.1 x.2.2.1) h)
def Sp.half (x : Int) : Nat -> Int
 | 0 => x
 | k + 1 => IntKind.u64.wrap ((Sp.half x k).tdiv 2)
def Sp.bitsL (x : Int) (n : Nat) : List Int := (List.range n).map fun k => (Sp.half x k).tmod 2
theorem bitsL_succ (x : Int) (n : Nat) : Sp.bitsL x (n + 1) = Sp.bitsL x n ++ [(Sp.half x n).tmod 2] := by simp [Sp.bitsL, List.range_succ]
theorem bitsL_len (x : Int) (n : Nat) : (Sp.bitsL x n).length = n := by simp [Sp.bitsL]
theorem tmod2 (a : Int) : -2 < a.tmod 2 /\ a.tmod 2 < 2 := ⟨Int.lt_tmod_of_pos a (by decide), Int.tmod_lt_of_pos a (by decide)⟩
theorem ok76 (w x : Int) : go76 w x = some (Sp.bitsL x (Sp.width w).toNat, ()) := by
 have hw := width_le w
 unfold go76 go76_l1
 refine callB_of (whileO_to (st := fun i => ((w, Sp.half x i, (), (i : Int), ()), Sp.bitsL x i, ())) rfl (Sp.width w).toNat (X0 := (((), ()), (Sp.bitsL x (Sp.width w).toNat, ()))) (fun i hi => ?_) ?_) ?_
 ·have hl := bitsL_len x i
  have h2 := tmod2 (Sp.half x i)
  simp (maxSteps := 1000000) (disch := ((try dsimp only); omega)) only [↓gsA, gsB]
  rw [wrap_in (by omega) (by omega), bitsL_succ]
  rfl
 ·simp (maxSteps := 1000000) (disch := ((try dsimp only); omega)) only [↓gsA, gsB]
 ·rfl
def c76 : Ctr Try.prog := mkCtr 76 Try.f76 Try.func76 [c78] ann76 [(0, (.i .i64)), (1, (.i .u64))] [] (.fz (.int .i64)) [] (fun x _ => some (Sp.bitsL x.2.1 (Sp.width x.1).toNat, ())) (fun x _ r h => FE (run76 x.1 x.2.1) (ok76 x.1 x.2.1) h)
def Sp.identAt (s : ByteArray) (i : Nat) : Bool := Sp.letter (strAt s i) || (!decide (i = 0) && !decide (Sp.digit (strAt s i) 10 < 0))
def Sp.ident (s : ByteArray) : Bool := (List.range s.size).all (Sp.identAt s) && (decide (1 <= (s.size : Int)) && decide ((s.size : Int) <= 64))
theorem ok44 (s : ByteArray) (hs : s.size <= 9223372036854775807) : go44 s = some (Sp.ident s, ()) := by
 unfold go44 go44_l1 go44_j1
 refine callB_of (whileO_all (l := List.range s.size) (st := fun i => ((s, (i : Int), ()), ())) rfl 0 (Sp.identAt s) (A := .inl ((s, ()), ())) (B := .inr ((false, ()), ())) (fun i hi hp => ?_) (fun i hi hp => ?_) (fun _ => ?_)) ?_
 ·rw [List.length_range] at hi
  have e : (List.range s.size).getD i 0 = i := by simp [List.getD_eq_getElem?_getD, hi]
  rw [e] at hp
  unfold Sp.identAt at hp
  simp (maxSteps := 1000000) (disch := ((try dsimp only); omega)) only [↓gsA, gsB]
  cases h1 : Sp.letter (strAt s i) with
  | true => rfl
  | false =>
   rw [h1] at hp
   simp only [Bool.false_or, Bool.and_eq_true, Bool.not_eq_true', decide_eq_false_iff_not] at hp
   simp (maxSteps := 1000000) (disch := ((try dsimp only); omega)) only [↓gsA, gsB]
 ·rw [List.length_range] at hi
  have e : (List.range s.size).getD i 0 = i := by simp [List.getD_eq_getElem?_getD, hi]
  rw [e] at hp
  unfold Sp.identAt at hp
  simp only [Bool.or_eq_false_iff] at hp
  simp (maxSteps := 1000000) (disch := ((try dsimp only); omega)) only [↓gsA, gsB]
  rw [hp.1]
  simp (maxSteps := 1000000) (disch := ((try dsimp only); omega)) only [↓gsA, gsB]
  by_cases h2 : i = 0
  ·subst h2; rfl
  ·have h3 : Sp.digit (strAt s i) 10 < 0 := by simpa [h2] using hp.2
   simp (maxSteps := 1000000) (disch := ((try dsimp only); omega)) only [↓gsA, gsB]
 ·rw [List.length_range]
  simp (maxSteps := 1000000) (disch := ((try dsimp only); omega)) only [↓gsA, gsB]
 ·unfold Sp.ident
  cases (List.range s.size).all (Sp.identAt s)
  ·simp
  ·simp (maxSteps := 1000000) (disch := ((try dsimp only); omega)) only [↓gsA, gsB]
   by_cases h : (1 : Int) <= s.size <;> simp [h]
def c44 : Ctr Try.prog := mkCtr 44 Try.f44 Try.func44 [c90, c91] ann44 [(0, .s)] [] .b [] (fun x _ => grd (okB (x.1.size <= 9223372036854775807)) (some (Sp.ident x.1, ()))) (fun x _ r h => FO (run44 x.1) (ok44 x.1) h)
end
end Go.Abs
namespace Go.Abs
open Go Go.Proofs
noncomputable section
def ann12 : Ann := (.seq .o (.seq .o .o))
def go12  : (Option (Bool × Unit)) :=
 (bif (decide ((Sp.arity (21 : Int)) = (3 : Int))) then
  (some ((Sp.pureOp (2 : Int)), ()))
  else
  (some (false, ())))
theorem run12  : runF (P := Try.prog) [c13, c15] Try.f12 ann12 [] [] .b [] () () = go12 := by kernel_rfl
def ann49 : Ann := (.seq .o (.seq .o .o))
def go49 (x0 : Int) : (Option (Bool × Unit)) :=
 (bif (decide ((0 : Int) <= (Sp.arity x0))) then
  (bif (!(decide (x0 = (26 : Int)))) then
   (some ((!(decide (x0 = (28 : Int)))), ()))
   else
   (some (false, ())))
  else
  (some (false, ())))
theorem run49 (x0 : Int) : runF (P := Try.prog) [c14] Try.f49 ann49 [(0, (.i .i64))] [] .b [] (x0, ()) () = go49 x0 := by kernel_rfl
def ann93 : Ann := (.seq .o (.seq .o .o))
def go93 (x0 : Int) (x1 : Int) : (Option (Int × Unit)) :=
 (callB (grd (okB ((Sp.bitsL x1 (Sp.width x0).toNat).length <= LEN))
   (some ((Sp.wd (Sp.bitsL x1 (Sp.width x0).toNat) (Sp.bitsL x1 (Sp.width x0).toNat).length), ())))
  (fun (r0 : (Int × Unit)) => (some (r0.1, ()))))
theorem run93 (x0 : Int) (x1 : Int) : runF (P := Try.prog) [c76, c79] Try.f93 ann93 [(0, (.i .i64)), (1, (.i .u64))] [] (.i .u64) [] (x0, (x1, ())) () = go93 x0 x1 := by kernel_rfl
def ann95 : Ann := (.seq .o (.join ⟨[(3, (.ptr 0 0)), (4, (.ptr 1 0))], [(.box 30 (.st 6)), (.box 51 (.st 1))]⟩ (.seq .o (.cond (.seq .o .o) .o)) (.seq .o (.join ⟨[(3, (.ptr 0 0)), (4, (.ptr 1 0)), (7, (.fz (.int .i64)))], [(.box 30 (.st 6)), (.box 51 (.st 1))]⟩ (.seq .o (.cond (.seq .o .o) .o)) (.join ⟨[], []⟩ (.seq .o (.block (.loop ⟨[(3, (.ptr 0 0)), (4, (.ptr 1 0)), (7, (.fz (.int .i64))), (8, (.i .i64))], [(.box 30 (.st 6)), (.box 51 (.st 1))]⟩ [((.exit 0), ⟨[], []⟩), (.ret, ⟨[(6, .b)], []⟩)] (.join ⟨[(3, (.ptr 0 0)), (4, (.ptr 1 0)), (7, (.fz (.int .i64))), (8, (.i .i64))], [(.box 30 (.st 6)), (.box 51 (.st 1))]⟩ (.seq .o (.cond .o .o)) (.join ⟨[(3, (.ptr 0 0)), (4, (.ptr 1 0)), (7, (.fz (.int .i64))), (8, (.i .i64))], [(.box 30 (.st 6)), (.box 51 (.st 1))]⟩ (.block (.seq .o (.cond (.seq .o .o) .o))) .o))))) (.seq .o .o))))))
def go95_l1 : ((Unit × (Unit × ((List Int) × (Int × Unit)))) × (Fn × (Edge × Unit))) -> Option (((Unit × (Unit × ((List Int) × (Int × Unit)))) × (Fn × (Edge × Unit))) ⊕ ((Unit × Unit) ⊕ ((Bool × Unit) × Unit))) := (fun (r1 : ((Unit × (Unit × ((List Int) × (Int × Unit)))) × (Fn × (Edge × Unit)))) => (bif (decide (r1.1.2.2.2.1 < ((r1.1.2.2.1.length : Nat) : Int))) then
   (grd (okB (((0 : Int) <= r1.1.2.2.2.1) /\ (r1.1.2.2.2.1 < ((r1.1.2.2.1.length : Nat) : Int))))
    (bif (!(Sp.within r1.2.1 (r1.1.2.2.1.getD r1.1.2.2.2.1.toNat (0 : Int)))) then
     (some (Sum.inr (Sum.inr ((false, ()), ()))))
     else
     (grd (okB (((0 : Int) <= r1.1.2.2.2.1) /\ (r1.1.2.2.2.1 < ((r1.1.2.2.1.length : Nat) : Int))))
      (grd (okB (((0 : Int) <= (r1.1.2.2.1.getD r1.1.2.2.2.1.toNat (0 : Int))) /\ ((r1.1.2.2.1.getD r1.1.2.2.2.1.toNat (0 : Int)) < ((r1.2.1.widths.length : Nat) : Int))))
       (grd (okB (((0 : Int) <= r1.1.2.2.2.1) /\ (r1.1.2.2.2.1 < ((r1.2.2.1.args.length : Nat) : Int))))
        (grd (okB (((0 : Int) <= (r1.2.2.1.args.getD r1.1.2.2.2.1.toNat (0 : Int))) /\ ((r1.2.2.1.args.getD r1.1.2.2.2.1.toNat (0 : Int)) < ((r1.2.1.widths.length : Nat) : Int))))
         (bif (!(decide ((r1.2.1.widths.getD (r1.1.2.2.1.getD r1.1.2.2.2.1.toNat (0 : Int)).toNat (0 : Int)) = (r1.2.1.widths.getD (r1.2.2.1.args.getD r1.1.2.2.2.1.toNat (0 : Int)).toNat (0 : Int))))) then
          (some (Sum.inr (Sum.inr ((false, ()), ()))))
          else
          (grd (okB (((-(9223372036854775808 : Int)) <= (r1.1.2.2.2.1 + (1 : Int))) /\ ((r1.1.2.2.2.1 + (1 : Int)) <= (9223372036854775807 : Int))))
           (some (Sum.inl (((), ((), (r1.1.2.2.1, ((r1.1.2.2.2.1 + (1 : Int)), ())))), (r1.2.1, (r1.2.2.1, ())))))))))))))
   else
   (some (Sum.inr (Sum.inl ((), ()))))))
def go95 (x0 : Fn) (x1 : Edge) (x2 : (List Bool)) : (Option (Bool × Unit)) :=
 (bif (decide (x1.block < (1 : Int))) then
  (some (false, ()))
  else
  (bif (decide (((x0.blocks.length : Nat) : Int) <= x1.block)) then
   (some (false, ()))
   else
   (callB (grd (okB ((x1.args.length <= LEN) /\ (x2.length = x0.widths.length)))
     (some ((Sp.used x0 x1.args x2), ())))
    (fun (r0 : (Bool × Unit)) => (bif (!r0.1) then
      (some (false, ()))
      else
      (grd (okB (((0 : Int) <= x1.block) /\ (x1.block < ((x0.blocks.length : Nat) : Int))))
       (bif (!(decide ((((x0.blocks.getD x1.block.toNat Block.z).params.length : Nat) : Int) = ((x1.args.length : Nat) : Int)))) then
        (some (false, ()))
        else
        (callB (whileO (go95_l1) (((), ((), ((x0.blocks.getD x1.block.toNat Block.z).params, ((0 : Int), ())))), (x0, (x1, ()))))
         (fun (z0 : ((Unit × Unit) ⊕ ((Bool × Unit) × Unit))) => (sumO (fun (z1 : (Unit × Unit)) => (some (true, ())))
           (fun (z1 : ((Bool × Unit) × Unit)) => (some (z1.1.1, ()))) z0))))))))))
theorem run95 (x0 : Fn) (x1 : Edge) (x2 : (List Bool)) : runF (P := Try.prog) [c47, c48] Try.f95 ann95 [(0, (.st 6)), (1, (.st 1)), (2, (.fz .bool))] [] .b [] (x0, (x1, (x2, ()))) () = go95 x0 x1 x2 := by kernel_rfl
theorem ok12 : go12 = some (true, ()) := by unfold go12; simp [Sp.arity, Sp.pureOp, Sp.isBinary]
def c12 : Ctr Try.prog := mkCtr 12 Try.f12 Try.func12 [c13, c15] ann12 [] [] .b [] (fun x _ => some (true, ())) (fun x _ r h => FE run12 ok12 h)
def Sp.result (op : Int) : Bool := decide (0 <= Sp.arity op) && !decide (op = 26) && !decide (op = 28)
theorem ok49 (op : Int) : go49 op = some (Sp.result op, ()) := by
 unfold go49 Sp.result
 by_cases h : 0 <= Sp.arity op <;> by_cases h2 : op = 26 <;> simp [h, h2]
def c49 : Ctr Try.prog := mkCtr 49 Try.f49 Try.func49 [c14] ann49 [(0, (.i .i64))] [] .b [] (fun x _ => some (Sp.result x.1, ())) (fun x _ r h => FE (run49 x.1) (ok49 x.1) h)
def Sp.fit (w x : Int) : Int := Sp.wd (Sp.bitsL x (Sp.width w).toNat) (Sp.bitsL x (Sp.width w).toNat).length
theorem ok93 (w x : Int) : go93 w x = some (Sp.fit w x, ()) := by
 have hw := width_le w
 have hlen : (Sp.bitsL x (Sp.width w).toNat).length <= LEN := by rw [bitsL_len]; simp only [LEN]; omega
 unfold go93
 rw [grd_ok hlen]; rfl
def c93 : Ctr Try.prog := mkCtr 93 Try.f93 Try.func93 [c76, c79] ann93 [(0, (.i .i64)), (1, (.i .u64))] [] (.i .u64) [] (fun x _ => some (Sp.fit x.1 x.2.1, ())) (fun x _ r h => FE (run93 x.1 x.2.1) (ok93 x.1 x.2.1) h)
def Sp.edgeP (f : Fn) (ps qs : List Int) (i : Nat) : Bool := Sp.within f (ps.getD i 0) && decide (f.widths.getD (ps.getD i 0).toNat 0 = f.widths.getD (qs.getD i 0).toNat 0)
def Sp.edgeOk (f : Fn) (e : Edge) (known : List Bool) : Bool :=
 (!decide (e.block < 1) && !decide ((f.blocks.length : Int) <= e.block) && Sp.used f e.args known) &&
 (decide (((f.blk e.block.toNat).params.length : Int) = e.args.length) && (List.range (f.blk e.block.toNat).params.length).all (Sp.edgeP f (f.blk e.block.toNat).params e.args))
theorem used_get {f : Fn} {l : List Int} {known : List Bool} (h : Sp.used f l known = true) {i : Nat} (hi : i < l.length) : 0 <= l.getD i 0 /\ l.getD i 0 < f.widths.length /\ known.getD (l.getD i 0).toNat false = true := by
 simp only [Sp.used, List.all_eq_true] at h
 have := h (l.getD i 0) (by simp [List.getD_eq_getElem?_getD, hi])
 simp only [Bool.and_eq_true] at this
 exact ⟨(within_iff.1 this.1).1, (within_iff.1 this.1).2, this.2⟩
theorem range_getD {n i : Nat} (h : i < n) : (List.range n).getD i 0 = i := by simp [List.getD_eq_getElem?_getD, h]
theorem ok95 (f : Fn) (e : Edge) (known : List Bool) (h : f.ok /\ e.ok /\ known.length = f.widths.length) : go95 f e known = some (Sp.edgeOk f e known, ()) := by
 obtain ⟨hf, he, hk⟩ := h
 have hea : e.args.length <= LEN := he.2.len
 unfold go95 go95_l1
 rw [grd_ok ⟨hea, hk⟩]
 by_cases h1 : e.block < 1
 ·simp [Sp.edgeOk, h1]
 by_cases h2 : (f.blocks.length : Int) <= e.block
 ·simp [Sp.edgeOk, h1, h2]
 simp (maxSteps := 1000000) (disch := ((try dsimp only); omega)) only [↓gsA, gsB]
 cases h3 : Sp.used f e.args known with
 | false => simp [Sp.edgeOk, h3]
 | true =>
  simp (maxSteps := 1000000) (disch := ((try dsimp only); omega)) only [↓gsA, gsB]
  by_cases h4 : (((f.blocks.getD e.block.toNat Block.z).params.length : Nat) : Int) = e.args.length
  rotate_left
  ·rw [if_neg h4]
   simp only [Sp.edgeOk]
   rw [show decide (((f.blk e.block.toNat).params.length : Int) = e.args.length) = false from decide_eq_false h4]
   simp
  rw [if_pos h4]
  have hp : (f.blocks.getD e.block.toNat Block.z).params.length <= LEN := (Fn.ok_blk hf (by omega)).1.len
  rw [lenVal] at hp
  have hEnd : Sp.edgeOk f e known = (List.range (f.blk e.block.toNat).params.length).all (Sp.edgeP f (f.blk e.block.toNat).params e.args) := by
   simp only [Sp.edgeOk, h3]
   rw [decide_eq_false h1, decide_eq_false h2, decide_eq_true h4]; rfl
  rw [hEnd]
  show _ = some ((List.range (f.blocks.getD e.block.toNat Block.z).params.length).all (Sp.edgeP f (f.blocks.getD e.block.toNat Block.z).params e.args), ())
  generalize (f.blocks.getD e.block.toNat Block.z).params = ps at *
  refine callB_of (whileO_all (l := List.range ps.length) (st := fun i => (((), (), ps, (i : Int), ()), f, e, ())) rfl 0 (Sp.edgeP f ps e.args) (A := .inl ((), ())) (B := .inr ((false, ()), ())) (fun i hi hq => ?_) (fun i hi hq => ?_) (fun _ => ?_)) ?_
  ·rw [List.length_range] at hi
   rw [range_getD hi] at hq
   simp only [Sp.edgeP, Bool.and_eq_true, decide_eq_true_eq] at hq
   obtain ⟨q1, q2⟩ := hq
   obtain ⟨q3, q4⟩ := within_iff.1 q1
   obtain ⟨g3, g4, -⟩ := used_get h3 (i := i) (by omega)
   simp (maxSteps := 1000000) (disch := ((try dsimp only); omega)) only [↓gsA, gsB]
   rw [q1]
   simp (maxSteps := 1000000) (disch := ((try dsimp only); omega)) only [↓gsA, gsB]
  ·rw [List.length_range] at hi
   rw [range_getD hi] at hq
   simp only [Sp.edgeP, Bool.and_eq_false_iff, decide_eq_false_iff_not] at hq
   obtain ⟨g3, g4, -⟩ := used_get h3 (i := i) (by omega)
   simp (maxSteps := 1000000) (disch := ((try dsimp only); omega)) only [↓gsA, gsB]
   cases q1 : Sp.within f (ps.getD i 0) with
   | false => rfl
   | true =>
    obtain ⟨q3, q4⟩ := within_iff.1 q1
    rw [q1] at hq
    have hq := hq.resolve_left (by simp)
    simp (maxSteps := 1000000) (disch := ((try dsimp only); omega)) only [↓gsA, gsB]
  ·rw [List.length_range]; simp (maxSteps := 1000000) (disch := ((try dsimp only); omega)) only [↓gsA, gsB]
  ·cases (List.range ps.length).all (Sp.edgeP f ps e.args) <;> rfl
def c95 : Ctr Try.prog := mkCtr 95 Try.f95 Try.func95 [c47, c48] ann95 [(0, (.st 6)), (1, (.st 1)), (2, (.fz .bool))] [] .b [] (fun x _ => grd (okB (x.1.ok /\ x.2.1.ok /\ x.2.2.1.length = x.1.widths.length)) (some (Sp.edgeOk x.1 x.2.1 x.2.2.1, ()))) (fun x _ r h => FO (run95 x.1 x.2.1 x.2.2.1) (ok95 x.1 x.2.1 x.2.2.1) h)
end
end Go.Abs
namespace Go.Abs
open Go Go.Proofs
noncomputable section
def ann45 : Ann := (.seq .o (.seq .o (.join ⟨[(1, (.ptr 0 0)), (3, (.full 1))], [(.box 30 (.st 6)), (.lst 9 .str)]⟩ (.seq .o (.block (.loop ⟨[(1, (.ptr 0 0)), (3, (.full 1)), (4, (.i .i64))], [(.box 30 (.st 6)), (.lst 9 .str)]⟩ [((.exit 0), ⟨[(1, (.ptr 0 0)), (3, (.full 1))], [(.box 30 (.st 6)), (.lst 9 .str)]⟩), (.ret, ⟨[(2, .b)], []⟩)] (.join ⟨[(1, (.ptr 0 0)), (3, (.full 1)), (4, (.i .i64))], [(.box 30 (.st 6)), (.lst 9 .str)]⟩ (.seq .o (.cond .o .o)) (.join ⟨[(1, (.ptr 0 0)), (3, (.full 1)), (4, (.i .i64))], [(.box 30 (.st 6)), (.lst 9 .str)]⟩ (.block (.seq .o (.seq .o (.join ⟨[(1, (.ptr 0 0)), (3, (.full 1)), (4, (.i .i64)), (5, (.ptr 2 0))], [(.box 30 (.st 6)), (.lst 9 .str), (.box 53 (.st 4))]⟩ (.seq .o (.cond (.seq .o .o) .o)) (.seq .o (.block (.join ⟨[(1, (.ptr 0 0)), (3, (.full 1)), (4, (.i .i64)), (5, (.ptr 2 0)), (41, (.i .i64)), (42, .b)], [(.box 30 (.st 6)), (.lst 9 .str), (.box 53 (.st 4))]⟩ (.seq .o (.cond .o .o)) (.cond (.seq .o (.cond (.seq .o .o) .o)) (.join ⟨[(1, (.ptr 0 0)), (3, (.full 1)), (4, (.i .i64)), (5, (.ptr 2 0)), (58, .b)], [(.box 30 (.st 6)), (.lst 9 .str), (.box 53 (.st 4))]⟩ (.seq .o (.cond .o .o)) (.cond (.seq .o (.cond (.seq .o .o) .o)) (.seq .o .o))))))))))) .o))))) (.join ⟨[(1, (.ptr 0 0)), (3, (.full 1))], [(.box 30 (.st 6)), (.lst 9 .str)]⟩ (.seq .o (.block (.loop ⟨[(1, (.ptr 0 0)), (3, (.full 1)), (6, (.i .i64))], [(.box 30 (.st 6)), (.lst 9 .str)]⟩ [((.exit 3), ⟨[(1, (.ptr 0 0)), (3, (.full 1))], [(.box 30 (.st 6)), (.lst 9 .str)]⟩), (.ret, ⟨[(2, .b)], []⟩)] (.join ⟨[(1, (.ptr 0 0)), (3, (.full 1)), (6, (.i .i64))], [(.box 30 (.st 6)), (.lst 9 .str)]⟩ (.seq .o (.cond .o .o)) (.join ⟨[(1, (.ptr 0 0)), (3, (.full 1)), (6, (.i .i64))], [(.box 30 (.st 6)), (.lst 9 .str)]⟩ (.block (.seq .o (.seq .o (.cond (.seq .o .o) .o)))) .o))))) (.join ⟨[(1, (.ptr 0 0))], [(.box 30 (.st 6))]⟩ (.seq .o (.block (.loop ⟨[(1, (.ptr 0 0)), (3, (.full 1)), (7, (.i .i64))], [(.box 30 (.st 6)), (.lst 9 .str)]⟩ [((.exit 5), ⟨[(1, (.ptr 0 0))], [(.box 30 (.st 6))]⟩), (.ret, ⟨[(2, .b)], []⟩)] (.join ⟨[(1, (.ptr 0 0)), (3, (.full 1)), (7, (.i .i64))], [(.box 30 (.st 6)), (.lst 9 .str)]⟩ (.seq .o (.cond .o .o)) (.join ⟨[(1, (.ptr 0 0)), (3, (.full 1)), (7, (.i .i64))], [(.box 30 (.st 6)), (.lst 9 .str)]⟩ (.block (.join ⟨[(1, (.ptr 0 0)), (3, (.full 1)), (7, (.i .i64))], [(.box 30 (.st 6)), (.lst 9 .str)]⟩ (.seq .o (.cond (.seq .o .o) .o)) (.seq .o (.block (.loop ⟨[(1, (.ptr 0 0)), (3, (.full 1)), (7, (.i .i64)), (8, (.i .i64))], [(.box 30 (.st 6)), (.lst 9 .str)]⟩ [((.exit 7), ⟨[(1, (.ptr 0 0)), (3, (.full 1)), (7, (.i .i64))], [(.box 30 (.st 6)), (.lst 9 .str)]⟩), (.ret, ⟨[(2, .b)], []⟩)] (.join ⟨[(1, (.ptr 0 0)), (3, (.full 1)), (7, (.i .i64)), (8, (.i .i64))], [(.box 30 (.st 6)), (.lst 9 .str)]⟩ (.seq .o (.cond .o .o)) (.join ⟨[(1, (.ptr 0 0)), (3, (.full 1)), (7, (.i .i64)), (8, (.i .i64))], [(.box 30 (.st 6)), (.lst 9 .str)]⟩ (.block (.seq .o (.cond (.seq .o .o) .o))) .o))))))) .o))))) (.seq .o .o))))))
def go45_l4 : ((Unit × (Unit × (Int × (Int × Unit)))) × (Fn × ((List ByteArray) × Unit))) -> Option (((Unit × (Unit × (Int × (Int × Unit)))) × (Fn × ((List ByteArray) × Unit))) ⊕ (((Unit × (Unit × (Int × Unit))) × (Fn × ((List ByteArray) × Unit))) ⊕ ((Bool × Unit) × Unit))) := (fun (r2 : ((Unit × (Unit × (Int × (Int × Unit)))) × (Fn × ((List ByteArray) × Unit)))) => (bif (decide (r2.1.2.2.2.1 < r2.1.2.2.1)) then
   (grd (okB (((0 : Int) <= r2.1.2.2.2.1) /\ (r2.1.2.2.2.1 < ((r2.2.2.1.length : Nat) : Int))))
    (grd (Nat.blt r2.1.2.2.2.1.toNat r2.2.2.1.length)
     (grd (okB (((0 : Int) <= r2.1.2.2.1) /\ (r2.1.2.2.1 < ((r2.2.2.1.length : Nat) : Int))))
      (grd (Nat.blt r2.1.2.2.1.toNat r2.2.2.1.length)
       (bif ((ByteArray.toList (r2.2.2.1.getD r2.1.2.2.2.1.toNat ByteArray.empty)) == (ByteArray.toList (r2.2.2.1.getD r2.1.2.2.1.toNat ByteArray.empty))) then
        (some (Sum.inr (Sum.inr ((false, ()), ()))))
        else
        (grd (okB (((-(9223372036854775808 : Int)) <= (r2.1.2.2.2.1 + (1 : Int))) /\ ((r2.1.2.2.2.1 + (1 : Int)) <= (9223372036854775807 : Int))))
         (some (Sum.inl (((), ((), (r2.1.2.2.1, ((r2.1.2.2.2.1 + (1 : Int)), ())))), (r2.2.1, (r2.2.2.1, ())))))))))))
   else
   (some (Sum.inr (Sum.inl (((), ((), (r2.1.2.2.1, ()))), (r2.2.1, (r2.2.2.1, ()))))))))
def go45_l3 : ((Unit × (Unit × (Int × Unit))) × (Fn × ((List ByteArray) × Unit))) -> Option (((Unit × (Unit × (Int × Unit))) × (Fn × ((List ByteArray) × Unit))) ⊕ (((Unit × Unit) × (Fn × Unit)) ⊕ ((Bool × Unit) × Unit))) := (fun (r0 : ((Unit × (Unit × (Int × Unit))) × (Fn × ((List ByteArray) × Unit)))) => (bif (decide (r0.1.2.2.1 < ((r0.2.2.1.length : Nat) : Int))) then
   (grd (okB (((0 : Int) <= r0.1.2.2.1) /\ (r0.1.2.2.1 < ((r0.2.2.1.length : Nat) : Int))))
    (grd (Nat.blt r0.1.2.2.1.toNat r0.2.2.1.length)
     (callB (grd (okB ((ByteArray.size (r0.2.2.1.getD r0.1.2.2.1.toNat ByteArray.empty)) <= (9223372036854775807 : Nat)))
       (some ((Sp.ident (r0.2.2.1.getD r0.1.2.2.1.toNat ByteArray.empty)), ())))
      (fun (r1 : (Bool × Unit)) => (bif (!r1.1) then
        (some (Sum.inr (Sum.inr ((false, ()), ()))))
        else
        (callB (whileO (go45_l4) (((), ((), (r0.1.2.2.1, ((0 : Int), ())))), (r0.2.1, (r0.2.2.1, ()))))
         (fun (z4 : (((Unit × (Unit × (Int × Unit))) × (Fn × ((List ByteArray) × Unit))) ⊕ ((Bool × Unit) × Unit))) => (sumO (fun (z5 : ((Unit × (Unit × (Int × Unit))) × (Fn × ((List ByteArray) × Unit)))) => (grd (okB (((-(9223372036854775808 : Int)) <= (z5.1.2.2.1 + (1 : Int))) /\ ((z5.1.2.2.1 + (1 : Int)) <= (9223372036854775807 : Int))))
             (some (Sum.inl (((), ((), ((z5.1.2.2.1 + (1 : Int)), ()))), (z5.2.1, (z5.2.2.1, ())))))))
           (fun (z5 : ((Bool × Unit) × Unit)) => (some (Sum.inr (Sum.inr ((z5.1.1, ()), ()))))) z4))))))))
   else
   (some (Sum.inr (Sum.inl (((), ()), (r0.2.1, ())))))))
def go45_l2 : ((Unit × (Unit × (Int × Unit))) × (Fn × ((List ByteArray) × Unit))) -> Option (((Unit × (Unit × (Int × Unit))) × (Fn × ((List ByteArray) × Unit))) ⊕ (((Unit × (Unit × Unit)) × (Fn × ((List ByteArray) × Unit))) ⊕ ((Bool × Unit) × Unit))) := (fun (r0 : ((Unit × (Unit × (Int × Unit))) × (Fn × ((List ByteArray) × Unit)))) => (bif (decide (r0.1.2.2.1 < ((r0.2.1.streams.length : Nat) : Int))) then
   (grd (okB (((0 : Int) <= r0.1.2.2.1) /\ (r0.1.2.2.1 < ((r0.2.1.streams.length : Nat) : Int))))
    (grd (okB ((((r0.2.2.1.length + 1) * (16 : Nat)) <= (140737488355328 : Nat)) /\ ((r0.2.2.1.length + 1) <= (281474976710656 : Nat))))
     (grd (okB (((0 : Int) <= r0.1.2.2.1) /\ (r0.1.2.2.1 < ((r0.2.1.streams.length : Nat) : Int))))
      (bif (!(Sp.right (r0.2.1.streams.getD r0.1.2.2.1.toNat Strm.z).width)) then
       (some (Sum.inr (Sum.inr ((false, ()), ()))))
       else
       (grd (okB (((-(9223372036854775808 : Int)) <= (r0.1.2.2.1 + (1 : Int))) /\ ((r0.1.2.2.1 + (1 : Int)) <= (9223372036854775807 : Int))))
        (some (Sum.inl (((), ((), ((r0.1.2.2.1 + (1 : Int)), ()))), (r0.2.1, ((r0.2.2.1 ++ ((r0.2.1.streams.getD r0.1.2.2.1.toNat Strm.z).name :: ([] : List ByteArray))), ()))))))))))
   else
   (some (Sum.inr (Sum.inl (((), ((), ())), (r0.2.1, (r0.2.2.1, ()))))))))
def go45_j3 (j0 : (((Unit × (Unit × (Int × Unit))) × (Fn × ((List ByteArray) × Unit))) -> (Option (((Unit × (Unit × (Int × Unit))) × (Fn × ((List ByteArray) × Unit))) ⊕ (((Unit × (Unit × Unit)) × (Fn × ((List ByteArray) × Unit))) ⊕ ((Bool × Unit) × Unit)))))) : ((Unit × (Unit × (Int × (Unit × (Bool × Unit))))) × (Fn × ((List ByteArray) × (Arr × Unit)))) -> Option (((Unit × (Unit × (Int × Unit))) × (Fn × ((List ByteArray) × Unit))) ⊕ (((Unit × (Unit × Unit)) × (Fn × ((List ByteArray) × Unit))) ⊕ ((Bool × Unit) × Unit))) := (fun (z1 : ((Unit × (Unit × (Int × (Unit × (Bool × Unit))))) × (Fn × ((List ByteArray) × (Arr × Unit))))) => (bif z1.1.2.2.2.2.1 then
   (bif (decide (z1.2.2.2.1.factor < (1 : Int))) then
    (some (Sum.inr (Sum.inr ((false, ()), ()))))
    else
    (bif (decide ((if ((64 : Int) < z1.2.2.2.1.len) then (64 : Int) else z1.2.2.2.1.len) < z1.2.2.2.1.factor)) then
     (some (Sum.inr (Sum.inr ((false, ()), ()))))
     else
     (j0 (((), ((), (z1.1.2.2.1, ()))), (z1.2.1, (z1.2.2.1, ()))))))
   else
   (some (Sum.inr (Sum.inr ((false, ()), ()))))))
def go45_j2 (j0 : (((Unit × (Unit × (Int × Unit))) × (Fn × ((List ByteArray) × Unit))) -> (Option (((Unit × (Unit × (Int × Unit))) × (Fn × ((List ByteArray) × Unit))) ⊕ (((Unit × (Unit × Unit)) × (Fn × ((List ByteArray) × Unit))) ⊕ ((Bool × Unit) × Unit)))))) : ((Unit × (Unit × (Int × (Unit × (Int × (Bool × Unit)))))) × (Fn × ((List ByteArray) × (Arr × Unit)))) -> Option (((Unit × (Unit × (Int × Unit))) × (Fn × ((List ByteArray) × Unit))) ⊕ (((Unit × (Unit × Unit)) × (Fn × ((List ByteArray) × Unit))) ⊕ ((Bool × Unit) × Unit))) := (fun (z0 : ((Unit × (Unit × (Int × (Unit × (Int × (Bool × Unit)))))) × (Fn × ((List ByteArray) × (Arr × Unit))))) => (bif z0.1.2.2.2.2.2.1 then
   (bif (!(decide (z0.2.2.2.1.factor = (0 : Int)))) then
    (some (Sum.inr (Sum.inr ((false, ()), ()))))
    else
    (bif (decide (z0.2.2.2.1.kind = (3 : Int))) then
     (bif (decide ((64 : Int) < z0.2.2.2.1.len)) then
      (some (Sum.inr (Sum.inr ((false, ()), ()))))
      else
      (j0 (((), ((), (z0.1.2.2.1, ()))), (z0.2.1, (z0.2.2.1, ())))))
     else
     (j0 (((), ((), (z0.1.2.2.1, ()))), (z0.2.1, (z0.2.2.1, ()))))))
   else
   (jpO (go45_j3 j0)
    (fun (j1 : (((Unit × (Unit × (Int × (Unit × (Bool × Unit))))) × (Fn × ((List ByteArray) × (Arr × Unit)))) -> (Option (((Unit × (Unit × (Int × Unit))) × (Fn × ((List ByteArray) × Unit))) ⊕ (((Unit × (Unit × Unit)) × (Fn × ((List ByteArray) × Unit))) ⊕ ((Bool × Unit) × Unit)))))) => (bif (decide (z0.1.2.2.2.2.1 = (1 : Int))) then
      (j1 (((), ((), (z0.1.2.2.1, ((), (true, ()))))), (z0.2.1, (z0.2.2.1, (z0.2.2.2.1, ())))))
      else
      (j1 (((), ((), (z0.1.2.2.1, ((), ((decide (z0.1.2.2.2.2.1 = (2 : Int))), ()))))), (z0.2.1, (z0.2.2.1, (z0.2.2.2.1, ()))))))))))
def go45_j1 : ((Unit × (Unit × (Int × Unit))) × (Fn × ((List ByteArray) × Unit))) -> Option (((Unit × (Unit × (Int × Unit))) × (Fn × ((List ByteArray) × Unit))) ⊕ (((Unit × (Unit × Unit)) × (Fn × ((List ByteArray) × Unit))) ⊕ ((Bool × Unit) × Unit))) := (fun (z0 : ((Unit × (Unit × (Int × Unit))) × (Fn × ((List ByteArray) × Unit)))) => (grd (okB (((-(9223372036854775808 : Int)) <= (z0.1.2.2.1 + (1 : Int))) /\ ((z0.1.2.2.1 + (1 : Int)) <= (9223372036854775807 : Int))))
   (some (Sum.inl (((), ((), ((z0.1.2.2.1 + (1 : Int)), ()))), (z0.2.1, (z0.2.2.1, ())))))))
def go45_l1 : ((Unit × (Unit × (Int × Unit))) × (Fn × ((List ByteArray) × Unit))) -> Option (((Unit × (Unit × (Int × Unit))) × (Fn × ((List ByteArray) × Unit))) ⊕ (((Unit × (Unit × Unit)) × (Fn × ((List ByteArray) × Unit))) ⊕ ((Bool × Unit) × Unit))) := (fun (r0 : ((Unit × (Unit × (Int × Unit))) × (Fn × ((List ByteArray) × Unit)))) => (bif (decide (r0.1.2.2.1 < ((r0.2.1.arrays.length : Nat) : Int))) then
   (jpO (go45_j1)
    (fun (j0 : (((Unit × (Unit × (Int × Unit))) × (Fn × ((List ByteArray) × Unit))) -> (Option (((Unit × (Unit × (Int × Unit))) × (Fn × ((List ByteArray) × Unit))) ⊕ (((Unit × (Unit × Unit)) × (Fn × ((List ByteArray) × Unit))) ⊕ ((Bool × Unit) × Unit)))))) => (grd (okB (((0 : Int) <= r0.1.2.2.1) /\ (r0.1.2.2.1 < ((r0.2.1.arrays.length : Nat) : Int))))
      (grd (okB ((((r0.2.2.1.length + 1) * (16 : Nat)) <= (140737488355328 : Nat)) /\ ((r0.2.2.1.length + 1) <= (281474976710656 : Nat))))
       (bif (!(Sp.right (r0.2.1.arrays.getD r0.1.2.2.1.toNat Arr.z).width)) then
        (some (Sum.inr (Sum.inr ((false, ()), ()))))
        else
        (bif (decide ((r0.2.1.arrays.getD r0.1.2.2.1.toNat Arr.z).len < (1 : Int))) then
         (some (Sum.inr (Sum.inr ((false, ()), ()))))
         else
         (bif (decide ((4096 : Int) < (r0.2.1.arrays.getD r0.1.2.2.1.toNat Arr.z).len)) then
          (some (Sum.inr (Sum.inr ((false, ()), ()))))
          else
          (jpO (go45_j2 j0)
           (fun (j1 : (((Unit × (Unit × (Int × (Unit × (Int × (Bool × Unit)))))) × (Fn × ((List ByteArray) × (Arr × Unit)))) -> (Option (((Unit × (Unit × (Int × Unit))) × (Fn × ((List ByteArray) × Unit))) ⊕ (((Unit × (Unit × Unit)) × (Fn × ((List ByteArray) × Unit))) ⊕ ((Bool × Unit) × Unit)))))) => (bif (decide ((r0.2.1.arrays.getD r0.1.2.2.1.toNat Arr.z).kind = (0 : Int))) then
             (j1 (((), ((), (r0.1.2.2.1, ((), ((r0.2.1.arrays.getD r0.1.2.2.1.toNat Arr.z).kind, (true, ())))))), (r0.2.1, ((r0.2.2.1 ++ ((r0.2.1.arrays.getD r0.1.2.2.1.toNat Arr.z).name :: ([] : List ByteArray))), ((r0.2.1.arrays.getD r0.1.2.2.1.toNat Arr.z), ())))))
             else
             (j1 (((), ((), (r0.1.2.2.1, ((), ((r0.2.1.arrays.getD r0.1.2.2.1.toNat Arr.z).kind, ((decide ((r0.2.1.arrays.getD r0.1.2.2.1.toNat Arr.z).kind = (3 : Int))), ())))))), (r0.2.1, ((r0.2.2.1 ++ ((r0.2.1.arrays.getD r0.1.2.2.1.toNat Arr.z).name :: ([] : List ByteArray))), ((r0.2.1.arrays.getD r0.1.2.2.1.toNat Arr.z), ())))))))))))))))
   else
   (some (Sum.inr (Sum.inl (((), ((), ())), (r0.2.1, (r0.2.2.1, ()))))))))
def go45 (x0 : Fn) : (Option (Bool × Unit)) :=
 (callB (whileO (go45_l1) (((), ((), ((0 : Int), ()))), (x0, (([] : List ByteArray), ()))))
  (fun (z0 : (((Unit × (Unit × Unit)) × (Fn × ((List ByteArray) × Unit))) ⊕ ((Bool × Unit) × Unit))) => (sumO (fun (z1 : ((Unit × (Unit × Unit)) × (Fn × ((List ByteArray) × Unit)))) => (callB (whileO (go45_l2) (((), ((), ((0 : Int), ()))), (z1.2.1, (z1.2.2.1, ()))))
      (fun (z2 : (((Unit × (Unit × Unit)) × (Fn × ((List ByteArray) × Unit))) ⊕ ((Bool × Unit) × Unit))) => (sumO (fun (z3 : ((Unit × (Unit × Unit)) × (Fn × ((List ByteArray) × Unit)))) => (callB (whileO (go45_l3) (((), ((), ((0 : Int), ()))), (z3.2.1, (z3.2.2.1, ()))))
          (fun (z4 : (((Unit × Unit) × (Fn × Unit)) ⊕ ((Bool × Unit) × Unit))) => (sumO (fun (z5 : ((Unit × Unit) × (Fn × Unit))) => (bif (decide (((z5.2.1.arrays.length : Nat) : Int) <= (64 : Int))) then
              (some ((decide (((z5.2.1.streams.length : Nat) : Int) <= (64 : Int))), ()))
              else
              (some (false, ()))))
            (fun (z5 : ((Bool × Unit) × Unit)) => (some (z5.1.1, ()))) z4))))
        (fun (z3 : ((Bool × Unit) × Unit)) => (some (z3.1.1, ()))) z2))))
    (fun (z1 : ((Bool × Unit) × Unit)) => (some (z1.1.1, ()))) z0)))
theorem run45 (x0 : Fn) : runF (P := Try.prog) [c44, c92] Try.f45 ann45 [(0, (.st 6))] [] .b [] (x0, ()) () = go45 x0 := by kernel_rfl
def Sp.kindsOk (a : Arr) : Bool :=
 if a.kind = 0 \/ a.kind = 3 then decide (a.factor = 0) && !(decide (a.kind = 3) && decide (64 < a.len))
 else if a.kind = 1 \/ a.kind = 2 then !decide (a.factor < 1) && !decide ((if 64 < a.len then 64 else a.len) < a.factor) else false
def Sp.arrOk (a : Arr) : Bool := (Sp.right a.width && !decide (a.len < 1) && !decide (4096 < a.len)) && Sp.kindsOk a
def Fn.names (f : Fn) : List ByteArray := f.arrays.map Arr.name ++ f.streams.map Strm.name
def nameAt (l : List ByteArray) (i : Nat) : ByteArray := l.getD i ByteArray.empty
def Sp.nameOk (l : List ByteArray) (i : Nat) : Bool := Sp.ident (nameAt l i) && (List.range i).all fun k => !((nameAt l k).toList == (nameAt l i).toList)
def Sp.memOk (f : Fn) : Bool := f.arrays.all Sp.arrOk && (f.streams.all (fun s => Sp.right s.width) && ((List.range f.names.length).all (Sp.nameOk f.names) && (decide ((f.arrays.length : Int) <= 64) && decide ((f.streams.length : Int) <= 64))))
abbrev aNames (f : Fn) (i : Nat) : List ByteArray := (f.arrays.take i).map Arr.name
abbrev sNames (f : Fn) (i : Nat) : List ByteArray := f.arrays.map Arr.name ++ (f.streams.take i).map Strm.name
theorem arr_cases {β : Type} (a : Arr) (A B : β) : (bif Sp.right a.width then if a.len < 1 then B else if 4096 < a.len then B else if a.kind = 0 then (if a.factor = 0 then A else B) else if a.kind = 3 then (if a.factor = 0 then if 64 < a.len then B else A else B)
   else if a.kind = 1 then (if a.factor < 1 then B else if (if 64 < a.len then 64 else a.len) < a.factor then B else A) else if a.kind = 2 then (if a.factor < 1 then B else if (if 64 < a.len then 64 else a.len) < a.factor then B else A) else B else B) = if Sp.arrOk a = true then A else B := by
 unfold Sp.arrOk Sp.kindsOk
 cases Sp.right a.width
 ·simp
 ·simp only [cond_true, Bool.true_and]
  grind
theorem names_loop {f : Fn} {i : Nat} (hi : i < f.names.length) (hnl : f.names.length <= 281474976710656) : whileO go45_l4
  (((), (), (i : Int), 0, ()), f, f.names, ()) = some (if (List.range i).all (fun k => !((f.names.getD k ByteArray.empty).toList == (f.names.getD i ByteArray.empty).toList)) then .inl (((), (), (i : Int), ()), f, f.names, ()) else .inr ((false, ()), ())) := by
 unfold go45_l4
 refine whileO_all (l := List.range i) (st := fun k => (((), (), (i : Int), (k : Int), ()), f, f.names, ())) rfl 0 (fun k => !((f.names.getD k ByteArray.empty).toList == (f.names.getD i ByteArray.empty).toList)) (fun k hk hp => ?_) (fun k hk hp => ?_) (fun _ => ?_)
 ·rw [List.length_range] at hk
  rw [range_getD hk] at hp
  simp (maxSteps := 1000000) (disch := ((try dsimp only); omega)) only [↓gsA, gsB]
  rw [Bool.not_eq_true'] at hp
  rw [hp]
  simp (maxSteps := 1000000) (disch := ((try dsimp only); omega)) only [↓gsA, gsB]
 ·rw [List.length_range] at hk
  rw [range_getD hk] at hp
  simp (maxSteps := 1000000) (disch := ((try dsimp only); omega)) only [↓gsA, gsB]
  rw [Bool.not_eq_false'] at hp
  rw [hp]
  simp (maxSteps := 1000000) (disch := ((try dsimp only); omega)) only [↓gsA, gsB]
 ·rw [List.length_range]; simp (maxSteps := 1000000) (disch := ((try dsimp only); omega)) only [↓gsA, gsB]
theorem arrays_loop (f : Fn) (hf : f.ok) : whileO go45_l1 (((), (), 0, ()), f, [], ()) = some (if f.arrays.all Sp.arrOk then .inl (((), (), ()), f, aNames f f.arrays.length, ()) else .inr ((false, ()), ())) := by
 have ha : f.arrays.length * 48 <= 140737488351232 := hf.2.2.1.1
 unfold go45_l1 go45_j1 go45_j2 go45_j3
 refine whileO_all (l := f.arrays) (st := fun i => (((), (), (i : Int), ()), f, aNames f i, ())) rfl Arr.z Sp.arrOk (fun i hi hp => ?_) (fun i hi hp => ?_) (fun _ => ?_)
 ·have hlen : (aNames f i).length = i := by simp only [aNames, List.length_map, List.length_take]; omega
  have hnx : aNames f (i + 1) = aNames f i ++ [(f.arrays.getD i Arr.z).name] := by
   simp only [aNames]
   rw [List.take_succ_eq_append_getElem hi, List.map_append]
   simp [hi]
  simp (maxSteps := 1000000) (disch := ((try dsimp only); omega)) only [↓gsA, gsB]
  rw [hnx]
  exact (arr_cases _ _ _).trans (if_pos hp)
 ·have hlen : (aNames f i).length = i := by simp only [aNames, List.length_map, List.length_take]; omega
  simp (maxSteps := 1000000) (disch := ((try dsimp only); omega)) only [↓gsA, gsB]
  exact (arr_cases _ _ _).trans (if_neg (by rw [hp]; simp))
 ·simp (maxSteps := 1000000) (disch := ((try dsimp only); omega)) only [↓gsA, gsB]
theorem streams_loop (f : Fn) (hf : f.ok) : whileO go45_l2 (((), (), 0, ()), f, sNames f 0, ()) = some (if f.streams.all (fun s => Sp.right s.width) then .inl (((), (), ()), f, sNames f f.streams.length, ()) else .inr ((false, ()), ())) := by
 have ha : f.arrays.length * 48 <= 140737488351232 := hf.2.2.1.1
 have hs : f.streams.length * 32 <= 140737488351232 := hf.2.2.2.1.1
 unfold go45_l2
 refine whileO_all (l := f.streams) (st := fun i => (((), (), (i : Int), ()), f, sNames f i, ())) rfl Strm.z (fun s => Sp.right s.width) (fun i hi hp => ?_) (fun i hi hp => ?_) (fun _ => ?_)
 ·have hlen : (sNames f i).length = f.arrays.length + i := by simp only [sNames, List.length_append, List.length_map, List.length_take]; omega
  have hnx : sNames f (i + 1) = sNames f i ++ [(f.streams.getD i Strm.z).name] := by
   simp only [sNames]
   rw [show f.streams.take (i + 1) = f.streams.take i ++ [f.streams.getD i Strm.z] by rw [List.take_succ_eq_append_getElem hi]; simp [List.getD_eq_getElem?_getD, hi], List.map_append, List.append_assoc]
   rfl
  simp (maxSteps := 1000000) (disch := ((try dsimp only); omega)) only [↓gsA, gsB]
  rw [hp, hnx]
  simp (maxSteps := 1000000) (disch := ((try dsimp only); omega)) only [↓gsA, gsB]
 ·have hlen : (sNames f i).length = f.arrays.length + i := by simp only [sNames, List.length_append, List.length_map, List.length_take]; omega
  simp (maxSteps := 1000000) (disch := ((try dsimp only); omega)) only [↓gsA, gsB]
  rw [hp]; rfl
 ·simp (maxSteps := 1000000) (disch := ((try dsimp only); omega)) only [↓gsA, gsB]
theorem names_ok {f : Fn} (hf : f.ok) : f.names.length <= 281474976710656 /\ ∀ i, i < f.names.length -> (f.names.getD i ByteArray.empty).size <= 9223372036854775807 := by
 have ha : f.arrays.length * 48 <= 140737488351232 := hf.2.2.1.1
 have hs : f.streams.length * 32 <= 140737488351232 := hf.2.2.2.1.1
 refine ⟨by simp only [Fn.names, List.length_append, List.length_map]; omega, fun i hi => ?_⟩
 have hm : f.names.getD i ByteArray.empty ∈ f.names := by simp [List.getD_eq_getElem?_getD, hi]
 rcases List.mem_append.1 (show f.names.getD i ByteArray.empty ∈ f.arrays.map Arr.name ++ f.streams.map Strm.name from hm) with h | h
 all_goals obtain ⟨x, hx, e⟩ := List.mem_map.1 h
 ·rw [<- e]; exact (hf.2.2.1.2 x hx).1
 ·rw [<- e]; exact (hf.2.2.2.1.2 x hx).1
theorem all_names_loop (f : Fn) (hf : f.ok) : whileO go45_l3 (((), (), 0, ()), f, f.names, ()) = some (if (List.range f.names.length).all (Sp.nameOk f.names) then .inl (((), ()), f, ()) else .inr ((false, ()), ())) := by
 obtain ⟨hnl, hstr⟩ := names_ok hf
 unfold go45_l3
 refine whileO_all (l := List.range f.names.length) (st := fun i => (((), (), (i : Int), ()), f, f.names, ())) rfl 0 (Sp.nameOk f.names) (fun i hi hp => ?_) (fun i hi hp => ?_) (fun _ => ?_)
 ·rw [List.length_range] at hi
  rw [range_getD hi] at hp
  simp only [Sp.nameOk, nameAt, Bool.and_eq_true] at hp
  simp (maxSteps := 1000000) (disch := ((try dsimp only); omega)) only [↓gsA, gsB]
  rw [grd_ok (hstr i hi), hp.1]
  simp (maxSteps := 1000000) (disch := ((try dsimp only); omega)) only [↓gsA, gsB]
  refine callB_of (names_loop hi hnl) ?_
  rw [if_pos hp.2]
  simp (maxSteps := 1000000) (disch := ((try dsimp only); omega)) only [↓gsA, gsB]
 ·rw [List.length_range] at hi
  rw [range_getD hi] at hp
  simp only [Sp.nameOk, nameAt, Bool.and_eq_false_iff] at hp
  simp (maxSteps := 1000000) (disch := ((try dsimp only); omega)) only [↓gsA, gsB]
  rw [grd_ok (hstr i hi)]
  cases hid : Sp.ident (f.names.getD i ByteArray.empty) with
  | false => rfl
  | true =>
   rw [hid] at hp
   have hp := hp.resolve_left (by simp)
   simp (maxSteps := 1000000) (disch := ((try dsimp only); omega)) only [↓gsA, gsB]
   refine callB_of (names_loop hi hnl) ?_
   rw [if_neg (by rw [hp]; simp)]
   simp (maxSteps := 1000000) (disch := ((try dsimp only); omega)) only [↓gsA, gsB]
 ·rw [List.length_range]; simp (maxSteps := 1000000) (disch := ((try dsimp only); omega)) only [↓gsA, gsB]
theorem ok45 (f : Fn) (hf : f.ok) : go45 f = some (Sp.memOk f, ()) := by
 unfold go45
 refine callB_of (arrays_loop f hf) ?_
 cases hall : f.arrays.all Sp.arrOk with
 | false => simp [Sp.memOk, hall]
 | true =>
  rw [if_pos rfl]
  simp (maxSteps := 1000000) (disch := ((try dsimp only); omega)) only [↓gsA, gsB]
  rw [show aNames f f.arrays.length = sNames f 0 by simp [aNames, sNames]]
  refine callB_of (streams_loop f hf) ?_
  cases hall2 : f.streams.all (fun s => Sp.right s.width) with
  | false => simp [Sp.memOk, hall2]
  | true =>
   rw [if_pos rfl]
   simp (maxSteps := 1000000) (disch := ((try dsimp only); omega)) only [↓gsA, gsB]
   rw [show sNames f f.streams.length = f.names by simp [Fn.names, sNames]]
   refine callB_of (all_names_loop f hf) ?_
   cases hall3 : (List.range f.names.length).all (Sp.nameOk f.names) with
   | false => simp [Sp.memOk, hall3]
   | true =>
    rw [if_pos rfl]
    simp (maxSteps := 1000000) (disch := ((try dsimp only); omega)) only [↓gsA, gsB]
    simp only [Sp.memOk, hall, hall2, hall3, Bool.true_and]
    by_cases h : (f.arrays.length : Int) <= 64 <;> simp [h]
def c45 : Ctr Try.prog := mkCtr 45 Try.f45 Try.func45 [c44, c92] ann45 [(0, (.st 6))] [] .b [] (fun x _ => grd (okB x.1.ok) (some (Sp.memOk x.1, ()))) (fun x _ r h => FO (run45 x.1) (ok45 x.1) h)
end
end Go.Abs
namespace Go.Abs
open Go Go.Proofs
noncomputable section
def ann51 : Ann := (.seq .o (.seq .o (.join ⟨[(2, (.fz .bool)), (3, (.ptr 0 0)), (4, (.ptr 1 0)), (7, (.i .i64))], [(.box 30 (.st 6)), (.box 39 (.st 2))]⟩ (.seq .o (.block (.seq .o (.cond .o (.seq .o (.cond .o (.seq .o (.cond (.join ⟨[(2, (.fz .bool)), (3, (.ptr 0 0)), (4, (.ptr 1 0)), (7, (.i .i64))], [(.box 30 (.st 6)), (.box 39 (.st 2))]⟩ (.seq .o (.cond (.seq .o .o) .o)) (.seq .o (.block (.loop ⟨[(2, (.fz .bool)), (3, (.ptr 0 0)), (4, (.ptr 1 0)), (7, (.i .i64)), (8, (.i .i64))], [(.box 30 (.st 6)), (.box 39 (.st 2))]⟩ [((.exit 1), ⟨[(2, (.fz .bool)), (3, (.ptr 0 0)), (4, (.ptr 1 0)), (7, (.i .i64))], [(.box 30 (.st 6)), (.box 39 (.st 2))]⟩), (.ret, ⟨[(6, .b)], []⟩)] (.join ⟨[(2, (.fz .bool)), (3, (.ptr 0 0)), (4, (.ptr 1 0)), (7, (.i .i64)), (8, (.i .i64))], [(.box 30 (.st 6)), (.box 39 (.st 2))]⟩ (.seq .o (.cond .o .o)) (.join ⟨[(2, (.fz .bool)), (3, (.ptr 0 0)), (4, (.ptr 1 0)), (7, (.i .i64)), (8, (.i .i64))], [(.box 30 (.st 6)), (.box 39 (.st 2))]⟩ (.block (.seq .o (.cond (.seq .o .o) .o))) .o)))))) (.seq .o .o))))))))) (.join ⟨[(2, (.fz .bool)), (3, (.ptr 0 0)), (4, (.ptr 1 0))], [(.box 30 (.st 6)), (.box 39 (.st 2))]⟩ (.seq .o (.cond (.seq .o .o) .o)) (.join ⟨[(2, (.fz .bool)), (3, (.ptr 0 0)), (4, (.ptr 1 0))], [(.box 30 (.st 6)), (.box 39 (.st 2))]⟩ (.seq .o (.cond (.seq .o (.cond (.seq .o .o) .o)) (.seq .o (.cond (.seq .o .o) .o)))) (.join ⟨[], []⟩ (.seq .o (.block (.loop ⟨[(2, (.fz .bool)), (3, (.ptr 0 0)), (4, (.ptr 1 0)), (9, (.i .i64))], [(.box 30 (.st 6)), (.box 39 (.st 2))]⟩ [((.exit 3), ⟨[], []⟩), (.ret, ⟨[(6, .b)], []⟩)] (.join ⟨[(2, (.fz .bool)), (3, (.ptr 0 0)), (4, (.ptr 1 0)), (9, (.i .i64))], [(.box 30 (.st 6)), (.box 39 (.st 2))]⟩ (.seq .o (.cond .o .o)) (.join ⟨[(2, (.fz .bool)), (3, (.ptr 0 0)), (4, (.ptr 1 0)), (9, (.i .i64))], [(.box 30 (.st 6)), (.box 39 (.st 2))]⟩ (.block (.seq .o (.cond (.seq .o .o) .o))) .o))))) (.seq .o .o)))))))
def go51_l2 : (((List Bool) × (Unit × (Unit × (Int × (Int × Unit))))) × (Fn × (Term × Unit))) -> Option ((((List Bool) × (Unit × (Unit × (Int × (Int × Unit))))) × (Fn × (Term × Unit))) ⊕ ((((List Bool) × (Unit × (Unit × (Int × Unit)))) × (Fn × (Term × Unit))) ⊕ ((Bool × Unit) × Unit))) := (fun (r1 : (((List Bool) × (Unit × (Unit × (Int × (Int × Unit))))) × (Fn × (Term × Unit)))) => (bif (decide (r1.1.2.2.2.2.1 < ((r1.2.2.1.rets.length : Nat) : Int))) then
   (grd (okB (((0 : Int) <= r1.1.2.2.2.2.1) /\ (r1.1.2.2.2.2.1 < ((r1.2.2.1.rets.length : Nat) : Int))))
    (grd (okB (((0 : Int) <= (r1.2.2.1.rets.getD r1.1.2.2.2.2.1.toNat (0 : Int))) /\ ((r1.2.2.1.rets.getD r1.1.2.2.2.2.1.toNat (0 : Int)) < ((r1.2.1.widths.length : Nat) : Int))))
     (grd (okB (((0 : Int) <= r1.1.2.2.2.2.1) /\ (r1.1.2.2.2.2.1 < ((r1.2.1.rets.length : Nat) : Int))))
      (bif (!(decide ((r1.2.1.widths.getD (r1.2.2.1.rets.getD r1.1.2.2.2.2.1.toNat (0 : Int)).toNat (0 : Int)) = (r1.2.1.rets.getD r1.1.2.2.2.2.1.toNat (0 : Int))))) then
       (some (Sum.inr (Sum.inr ((false, ()), ()))))
       else
       (grd (okB (((-(9223372036854775808 : Int)) <= (r1.1.2.2.2.2.1 + (1 : Int))) /\ ((r1.1.2.2.2.2.1 + (1 : Int)) <= (9223372036854775807 : Int))))
        (some (Sum.inl ((r1.1.1, ((), ((), (r1.1.2.2.2.1, ((r1.1.2.2.2.2.1 + (1 : Int)), ()))))), (r1.2.1, (r1.2.2.1, ()))))))))))
   else
   (some (Sum.inr (Sum.inl ((r1.1.1, ((), ((), (r1.1.2.2.2.1, ())))), (r1.2.1, (r1.2.2.1, ()))))))))
def go51_l1 : (((List Bool) × (Unit × (Unit × (Int × Unit)))) × (Fn × (Term × Unit))) -> Option ((((List Bool) × (Unit × (Unit × (Int × Unit)))) × (Fn × (Term × Unit))) ⊕ ((Unit × Unit) ⊕ ((Bool × Unit) × Unit))) := (fun (r0 : (((List Bool) × (Unit × (Unit × (Int × Unit)))) × (Fn × (Term × Unit)))) => (bif (decide (r0.1.2.2.2.1 < ((r0.2.2.1.to.length : Nat) : Int))) then
   (grd (okB (((0 : Int) <= r0.1.2.2.2.1) /\ (r0.1.2.2.2.1 < ((r0.2.2.1.to.length : Nat) : Int))))
    (callB (grd (okB ((Fn.ok r0.2.1) /\ ((Edge.ok (r0.2.2.1.to.getD r0.1.2.2.2.1.toNat Edge.z)) /\ (r0.1.1.length = r0.2.1.widths.length))))
      (some ((Sp.edgeOk r0.2.1 (r0.2.2.1.to.getD r0.1.2.2.2.1.toNat Edge.z) r0.1.1), ())))
     (fun (r1 : (Bool × Unit)) => (bif (!r1.1) then
       (some (Sum.inr (Sum.inr ((false, ()), ()))))
       else
       (grd (okB (((-(9223372036854775808 : Int)) <= (r0.1.2.2.2.1 + (1 : Int))) /\ ((r0.1.2.2.2.1 + (1 : Int)) <= (9223372036854775807 : Int))))
        (some (Sum.inl ((r0.1.1, ((), ((), ((r0.1.2.2.2.1 + (1 : Int)), ())))), (r0.2.1, (r0.2.2.1, ()))))))))))
   else
   (some (Sum.inr (Sum.inl ((), ()))))))
def go51_j3 : (((List Bool) × (Unit × (Unit × Unit))) × (Fn × (Term × Unit))) -> Option (Bool × Unit) := (fun (z2 : (((List Bool) × (Unit × (Unit × Unit))) × (Fn × (Term × Unit)))) => (callB (whileO (go51_l1) ((z2.1.1, ((), ((), ((0 : Int), ())))), (z2.2.1, (z2.2.2.1, ()))))
   (fun (z3 : ((Unit × Unit) ⊕ ((Bool × Unit) × Unit))) => (sumO (fun (z4 : (Unit × Unit)) => (some (true, ())))
     (fun (z4 : ((Bool × Unit) × Unit)) => (some (z4.1.1, ()))) z3))))
def go51_j2 : (((List Bool) × (Unit × (Unit × Unit))) × (Fn × (Term × Unit))) -> Option (Bool × Unit) := (fun (z1 : (((List Bool) × (Unit × (Unit × Unit))) × (Fn × (Term × Unit)))) => (jpO (go51_j3)
   (fun (j0 : ((((List Bool) × (Unit × (Unit × Unit))) × (Fn × (Term × Unit))) -> (Option (Bool × Unit)))) => (bif (decide (z1.2.2.1.kind = (2 : Int))) then
     (callB (grd (okB ((1 <= LEN) /\ (z1.1.1.length = z1.2.1.widths.length)))
       (some ((Sp.used z1.2.1 (z1.2.2.1.cond :: ([] : List Int)) z1.1.1), ())))
      (fun (r0 : (Bool × Unit)) => (bif (!r0.1) then
        (some (false, ()))
        else
        (grd (okB (((0 : Int) <= z1.2.2.1.cond) /\ (z1.2.2.1.cond < ((z1.2.1.widths.length : Nat) : Int))))
         (bif (!(decide ((z1.2.1.widths.getD z1.2.2.1.cond.toNat (0 : Int)) = (1 : Int)))) then
          (some (false, ()))
          else
          (j0 ((z1.1.1, ((), ((), ()))), (z1.2.1, (z1.2.2.1, ())))))))))
     else
     (bif (!(decide (z1.2.2.1.cond = (-(1 : Int))))) then
      (some (false, ()))
      else
      (j0 ((z1.1.1, ((), ((), ()))), (z1.2.1, (z1.2.2.1, ())))))))))
def go51_j1 : (((List Bool) × (Unit × (Unit × (Int × Unit)))) × (Fn × (Term × Unit))) -> Option (Bool × Unit) := (fun (z0 : (((List Bool) × (Unit × (Unit × (Int × Unit)))) × (Fn × (Term × Unit)))) => (jpO (go51_j2)
   (fun (j0 : ((((List Bool) × (Unit × (Unit × Unit))) × (Fn × (Term × Unit))) -> (Option (Bool × Unit)))) => (bif (!(decide (((z0.2.2.1.to.length : Nat) : Int) = z0.1.2.2.2.1))) then
     (some (false, ()))
     else
     (bif (!(decide (z0.2.2.1.kind = (3 : Int)))) then
      (bif (decide ((0 : Int) < ((z0.2.2.1.rets.length : Nat) : Int))) then
       (some (false, ()))
       else
       (j0 ((z0.1.1, ((), ((), ()))), (z0.2.1, (z0.2.2.1, ())))))
      else
      (j0 ((z0.1.1, ((), ((), ()))), (z0.2.1, (z0.2.2.1, ())))))))))
def go51 (x0 : Fn) (x1 : Term) (x2 : (List Bool)) : (Option (Bool × Unit)) :=
 (jpO (go51_j1)
  (fun (j0 : ((((List Bool) × (Unit × (Unit × (Int × Unit)))) × (Fn × (Term × Unit))) -> (Option (Bool × Unit)))) => (bif (decide (x1.kind = (1 : Int))) then
    (j0 ((x2, ((), ((), ((1 : Int), ())))), (x0, (x1, ()))))
    else
    (bif (decide (x1.kind = (2 : Int))) then
     (j0 ((x2, ((), ((), ((2 : Int), ())))), (x0, (x1, ()))))
     else
     (bif (decide (x1.kind = (3 : Int))) then
      (bif (!(decide (((x1.rets.length : Nat) : Int) = ((x0.rets.length : Nat) : Int)))) then
       (some (false, ()))
       else
       (callB (grd (okB ((x1.rets.length <= LEN) /\ (x2.length = x0.widths.length)))
         (some ((Sp.used x0 x1.rets x2), ())))
        (fun (r0 : (Bool × Unit)) => (bif (!r0.1) then
          (some (false, ()))
          else
          (callB (whileO (go51_l2) ((x2, ((), ((), ((0 : Int), ((0 : Int), ()))))), (x0, (x1, ()))))
           (fun (z0 : ((((List Bool) × (Unit × (Unit × (Int × Unit)))) × (Fn × (Term × Unit))) ⊕ ((Bool × Unit) × Unit))) => (sumO (fun (z1 : (((List Bool) × (Unit × (Unit × (Int × Unit)))) × (Fn × (Term × Unit)))) => (j0 ((z1.1.1, ((), ((), (z1.1.2.2.2.1, ())))), (z1.2.1, (z1.2.2.1, ())))))
             (fun (z1 : ((Bool × Unit) × Unit)) => (some (z1.1.1, ()))) z0)))))))
      else
      (some (false, ())))))))
theorem run51 (x0 : Fn) (x1 : Term) (x2 : (List Bool)) : runF (P := Try.prog) [c48, c95] Try.f51 ann51 [(0, (.st 6)), (1, (.st 2)), (2, (.fz .bool))] [] .b [] (x0, (x1, (x2, ()))) () = go51 x0 x1 x2 := by kernel_rfl
def Sp.retP (f : Fn) (rets : List Int) (i : Nat) : Bool := decide (f.widths.getD (rets.getD i 0).toNat 0 = f.rets.getD i 0)
def Sp.kindOk (f : Fn) (t : Term) (known : List Bool) : Bool :=
 if t.kind = 1 \/ t.kind = 2 then true else if t.kind = 3 then decide ((t.rets.length : Int) = f.rets.length) && Sp.used f t.rets known && (List.range t.rets.length).all (Sp.retP f t.rets) else false
def Sp.sizeOfKind (k : Int) : Int := if k = 1 then 1 else if k = 2 then 2 else 0
def Sp.condOk (f : Fn) (t : Term) (known : List Bool) : Bool :=
 if t.kind = 2 then Sp.used f [t.cond] known && decide (f.widths.getD t.cond.toNat 0 = 1) else decide (t.cond = -1)
def Sp.termOk (f : Fn) (t : Term) (known : List Bool) : Bool :=
 Sp.kindOk f t known && (decide ((t.to.length : Int) = Sp.sizeOfKind t.kind) && (decide (t.kind = 3) || decide ((t.rets.length : Int) <= 0))) && Sp.condOk f t known && t.to.all (fun e => Sp.edgeOk f e known)
section
variable {f : Fn} {t : Term} {known : List Bool}
theorem j3_51 (hf : f.ok) (ht : t.ok) (hk : known.length = f.widths.length) : go51_j3 ((known, (), (), ()), f, t, ()) = some (t.to.all (fun e => Sp.edgeOk f e known), ()) := by
 have htt : t.to.length <= LEN := ht.2.2.1.len
 rw [lenVal] at htt
 unfold go51_j3 go51_l1
 refine callB_of (whileO_all (l := t.to) (st := fun i => ((known, (), (), (i : Int), ()), f, t, ())) rfl Edge.z (fun e => Sp.edgeOk f e known) (A := .inl ((), ())) (B := .inr ((false, ()), ())) (fun i hi hp => ?_) (fun i hi hp => ?_) (fun _ => ?_)) ?_
 ·have he : (t.to.getD i Edge.z).ok := getD_ok ht.2.2.1 _ hi
  simp (maxSteps := 1000000) (disch := ((try dsimp only); omega)) only [↓gsA, gsB]
  rw [grd_ok ⟨hf, he, hk⟩, hp]
  simp (maxSteps := 1000000) (disch := ((try dsimp only); omega)) only [↓gsA, gsB]
 ·have he : (t.to.getD i Edge.z).ok := getD_ok ht.2.2.1 _ hi
  simp (maxSteps := 1000000) (disch := ((try dsimp only); omega)) only [↓gsA, gsB]
  rw [grd_ok ⟨hf, he, hk⟩, hp]
  rfl
 ·simp (maxSteps := 1000000) (disch := ((try dsimp only); omega)) only [↓gsA, gsB]
 ·cases t.to.all (fun e => Sp.edgeOk f e known) <;> rfl
theorem j2_51 (hf : f.ok) (ht : t.ok) (hk : known.length = f.widths.length) : go51_j2 ((known, (), (), ()), f, t, ()) = some (Sp.condOk f t known && t.to.all (fun e => Sp.edgeOk f e known), ()) := by
 unfold go51_j2 Sp.condOk
 simp (maxSteps := 1000000) (disch := ((try dsimp only); omega)) only [↓gsA, gsB]
 rw [j3_51 hf ht hk]
 by_cases h : t.kind = 2
 ·rw [if_pos h, if_pos h, grd_ok ⟨by simp [LEN], hk⟩]
  cases hu : Sp.used f [t.cond] known with
  | false => rfl
  | true =>
   have h2 := used_get hu (i := 0) (by simp)
   simp only [List.getD_cons_zero] at h2
   obtain ⟨h2, h3, -⟩ := h2
   simp (maxSteps := 1000000) (disch := ((try dsimp only); omega)) only [↓gsA, gsB]
   by_cases h4 : f.widths.getD t.cond.toNat 0 = 1
   ·rw [if_pos h4, decide_eq_true h4]; rfl
   ·rw [if_neg h4, decide_eq_false h4]; rfl
 ·rw [if_neg h, if_neg h]
  by_cases h4 : t.cond = -1
  ·rw [if_pos h4, decide_eq_true h4]; rfl
  ·rw [if_neg h4, decide_eq_false h4]; rfl
theorem j1_51 (hf : f.ok) (ht : t.ok) (hk : known.length = f.widths.length) (z : Int) : go51_j1 ((known, (), (), z, ()), f, t, ()) =
  some ((decide ((t.to.length : Int) = z) && (decide (t.kind = 3) || decide ((t.rets.length : Int) <= 0))) && Sp.condOk f t known && t.to.all (fun e => Sp.edgeOk f e known), ()) := by
 unfold go51_j1
 simp (maxSteps := 1000000) (disch := ((try dsimp only); omega)) only [↓gsA, gsB]
 rw [j2_51 hf ht hk]
 have e3 : decide ((t.rets.length : Int) <= 0) = !decide (0 < (t.rets.length : Int)) := by rw [<- decide_not]; exact decide_eq_decide.2 (by omega)
 rw [e3]
 by_cases h1 : (t.to.length : Int) = z <;> by_cases h2 : t.kind = 3 <;> by_cases h3 : 0 < (t.rets.length : Int) <;> simp only [h1, h2, h3, if_true, if_false, decide_true, decide_false] <;> rfl
theorem ok51 (f : Fn) (t : Term) (known : List Bool) (h : f.ok /\ t.ok /\ known.length = f.widths.length) : go51 f t known = some (Sp.termOk f t known, ()) := by
 obtain ⟨hf, ht, hk⟩ := h
 have htr : t.rets.length <= LEN := ht.2.2.2.len
 have hfr : f.rets.length <= LEN := hf.2.2.2.2.1.len
 have htr' := htr
 rw [lenVal] at htr' hfr
 unfold go51
 rw [grd_ok ⟨htr, hk⟩]
 simp (maxSteps := 1000000) (disch := ((try dsimp only); omega)) only [↓gsA, gsB]
 simp only [j1_51 hf ht hk]
 by_cases h1 : t.kind = 1
 ·simp [h1, Sp.termOk, Sp.kindOk, Sp.sizeOfKind]
 by_cases h2 : t.kind = 2
 ·simp [h2, Sp.termOk, Sp.kindOk, Sp.sizeOfKind]
 by_cases h3 : t.kind = 3
 rotate_left
 ·simp [h1, h2, h3, Sp.termOk, Sp.kindOk]
 rw [if_neg h1, if_neg h2, if_pos h3]
 by_cases h4 : (t.rets.length : Int) = f.rets.length
 rotate_left
 ·rw [if_neg h4]
  simp [Sp.termOk, Sp.kindOk, h1, h2, h3, h4]
 rw [if_pos h4]
 cases hu : Sp.used f t.rets known with
 | false => simp [Sp.termOk, Sp.kindOk, h1, h2, h3, hu]
 | true =>
  simp (maxSteps := 1000000) (disch := ((try dsimp only); omega)) only [↓gsA, gsB]
  unfold go51_l2
  refine callB_of (whileO_all (l := List.range t.rets.length) (st := fun i => ((known, (), (), 0, (i : Int), ()), f, t, ())) rfl 0 (Sp.retP f t.rets) (A := .inl ((known, (), (), 0, ()), f, t, ())) (B := .inr ((false, ()), ())) (fun i hi hp => ?_) (fun i hi hp => ?_) (fun _ => ?_)) ?_
  ·rw [List.length_range] at hi
   rw [range_getD hi] at hp
   have hp := of_decide_eq_true hp
   obtain ⟨u1, u2, -⟩ := used_get hu (i := i) hi
   simp (maxSteps := 1000000) (disch := ((try dsimp only); omega)) only [↓gsA, gsB]
  ·rw [List.length_range] at hi
   rw [range_getD hi] at hp
   have hp := of_decide_eq_false hp
   obtain ⟨u1, u2, -⟩ := used_get hu (i := i) hi
   simp (maxSteps := 1000000) (disch := ((try dsimp only); omega)) only [↓gsA, gsB]
  ·rw [List.length_range]; simp (maxSteps := 1000000) (disch := ((try dsimp only); omega)) only [↓gsA, gsB]
  ·have hK : Sp.kindOk f t known = (List.range t.rets.length).all (Sp.retP f t.rets) := by simp [Sp.kindOk, h3, h4, hu]
   simp only [Sp.termOk, hK]
   cases (List.range t.rets.length).all (Sp.retP f t.rets) with
   | false => rfl
   | true =>
    rw [if_pos rfl]
    simp (maxSteps := 1000000) (disch := ((try dsimp only); omega)) only [↓gsA, gsB]
    have e : Sp.sizeOfKind t.kind = 0 := by simp [Sp.sizeOfKind, h1, h2]
    rw [j1_51 hf ht hk, e]
    rfl
end
def c51 : Ctr Try.prog := mkCtr 51 Try.f51 Try.func51 [c48, c95] ann51 [(0, (.st 6)), (1, (.st 2)), (2, (.fz .bool))] [] .b [] (fun x _ => grd (okB (x.1.ok /\ x.2.1.ok /\ x.2.2.1.length = x.1.widths.length)) (some (Sp.termOk x.1 x.2.1 x.2.2.1, ()))) (fun x _ r h => FO (run51 x.1 x.2.1 x.2.2.1) (ok51 x.1 x.2.1 x.2.2.1) h)
end
end Go.Abs
