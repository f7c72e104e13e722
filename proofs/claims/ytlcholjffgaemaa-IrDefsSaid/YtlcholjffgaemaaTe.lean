/-
The codes of the types. Written by gentypes.py.
No statement of the program is proved here.
-/
import Derived.Test.YtlcholjffgaemaaTc
import Derived.Test.YtlcholjffgaemaaSu
import Derived.Test.YtlcholjffgaemaaHB
set_option linter.unusedVariables false
namespace Go.Abs
open Go Go.Proofs

def ZeroOk (t : TypeId) (τ : Ty) : Prop := froT τ = true ∧ ∀ z, (Tys.c Try.prog t).zero = some z → τ.sz = z.cells.size ∧ ∀ j, j < τ.sz → ∃ u, cellC τ τ.z j = .ev u ∧ ∀ len, Wk (V.cell (z.cells.getD j undef)) (toV len u)
theorem tyz2 : ZeroOk 2 (.int .i64) := ⟨rfl, fun z h => by
  injection h with h; subst h
  refine ⟨rfl, fun j hj => ?_⟩
  match j, hj with
  | 0, _ => exact ⟨_, rfl, fun len => by first | exact Wk.refl _ | exact Wk.nils _ _⟩
  | n + 1, h => exact absurd h (by show ¬ n + 1 < 1; omega)⟩
theorem tyz3 : ZeroOk 3 (.int .i64) := ⟨rfl, fun z h => by
  injection h with h; subst h
  refine ⟨rfl, fun j hj => ?_⟩
  match j, hj with
  | 0, _ => exact ⟨_, rfl, fun len => by first | exact Wk.refl _ | exact Wk.nils _ _⟩
  | n + 1, h => exact absurd h (by show ¬ n + 1 < 1; omega)⟩
theorem tyz4 : ZeroOk 4 .bool := ⟨rfl, fun z h => by
  injection h with h; subst h
  refine ⟨rfl, fun j hj => ?_⟩
  match j, hj with
  | 0, _ => exact ⟨_, rfl, fun len => by first | exact Wk.refl _ | exact Wk.nils _ _⟩
  | n + 1, h => exact absurd h (by show ¬ n + 1 < 1; omega)⟩
theorem tyz5 : ZeroOk 5 (.int .u8) := ⟨rfl, fun z h => by
  injection h with h; subst h
  refine ⟨rfl, fun j hj => ?_⟩
  match j, hj with
  | 0, _ => exact ⟨_, rfl, fun len => by first | exact Wk.refl _ | exact Wk.nils _ _⟩
  | n + 1, h => exact absurd h (by show ¬ n + 1 < 1; omega)⟩
theorem tyz6 : ZeroOk 6 (.int .u8) := ⟨rfl, fun z h => by
  injection h with h; subst h
  refine ⟨rfl, fun j hj => ?_⟩
  match j, hj with
  | 0, _ => exact ⟨_, rfl, fun len => by first | exact Wk.refl _ | exact Wk.nils _ _⟩
  | n + 1, h => exact absurd h (by show ¬ n + 1 < 1; omega)⟩
theorem tyz9 : ZeroOk 9 .str := ⟨rfl, fun z h => by
  injection h with h; subst h
  refine ⟨rfl, fun j hj => ?_⟩
  match j, hj with
  | 0, _ => exact ⟨_, rfl, fun len => by first | exact Wk.refl _ | exact Wk.nils _ _⟩
  | n + 1, h => exact absurd h (by show ¬ n + 1 < 1; omega)⟩
theorem tyz10 : ZeroOk 10 .str := ⟨rfl, fun z h => by
  injection h with h; subst h
  refine ⟨rfl, fun j hj => ?_⟩
  match j, hj with
  | 0, _ => exact ⟨_, rfl, fun len => by first | exact Wk.refl _ | exact Wk.nils _ _⟩
  | n + 1, h => exact absurd h (by show ¬ n + 1 < 1; omega)⟩
theorem tyz11 : ZeroOk 11 .str := ⟨rfl, fun z h => by
  injection h with h; subst h
  refine ⟨rfl, fun j hj => ?_⟩
  match j, hj with
  | 0, _ => exact ⟨_, rfl, fun len => by first | exact Wk.refl _ | exact Wk.nils _ _⟩
  | n + 1, h => exact absurd h (by show ¬ n + 1 < 1; omega)⟩
theorem tyz12 : ZeroOk 12 (.int .u64) := ⟨rfl, fun z h => by
  injection h with h; subst h
  refine ⟨rfl, fun j hj => ?_⟩
  match j, hj with
  | 0, _ => exact ⟨_, rfl, fun len => by first | exact Wk.refl _ | exact Wk.nils _ _⟩
  | n + 1, h => exact absurd h (by show ¬ n + 1 < 1; omega)⟩
theorem tyz21 : ZeroOk 21 (.int .i32) := ⟨rfl, fun z h => by
  injection h with h; subst h
  refine ⟨rfl, fun j hj => ?_⟩
  match j, hj with
  | 0, _ => exact ⟨_, rfl, fun len => by first | exact Wk.refl _ | exact Wk.nils _ _⟩
  | n + 1, h => exact absurd h (by show ¬ n + 1 < 1; omega)⟩
theorem tyz25 : ZeroOk 25 (.sl (.int .i64)) := ⟨rfl, fun z h => by
  injection h with h; subst h
  refine ⟨rfl, fun j hj => ?_⟩
  match j, hj with
  | 0, _ => exact ⟨_, rfl, fun len => by first | exact Wk.refl _ | exact Wk.nils _ _⟩
  | n + 1, h => exact absurd h (by show ¬ n + 1 < 1; omega)⟩
theorem tyz26 : ZeroOk 26 (.sl (.st 4)) := ⟨rfl, fun z h => by
  injection h with h; subst h
  refine ⟨rfl, fun j hj => ?_⟩
  match j, hj with
  | 0, _ => exact ⟨_, rfl, fun len => by first | exact Wk.refl _ | exact Wk.nils _ _⟩
  | n + 1, h => exact absurd h (by show ¬ n + 1 < 1; omega)⟩
theorem tyz27 : ZeroOk 27 (.sl (.st 5)) := ⟨rfl, fun z h => by
  injection h with h; subst h
  refine ⟨rfl, fun j hj => ?_⟩
  match j, hj with
  | 0, _ => exact ⟨_, rfl, fun len => by first | exact Wk.refl _ | exact Wk.nils _ _⟩
  | n + 1, h => exact absurd h (by show ¬ n + 1 < 1; omega)⟩
theorem tyz28 : ZeroOk 28 (.sl (.st 3)) := ⟨rfl, fun z h => by
  injection h with h; subst h
  refine ⟨rfl, fun j hj => ?_⟩
  match j, hj with
  | 0, _ => exact ⟨_, rfl, fun len => by first | exact Wk.refl _ | exact Wk.nils _ _⟩
  | n + 1, h => exact absurd h (by show ¬ n + 1 < 1; omega)⟩
theorem tyz30 : ZeroOk 30 (.st 6) := ⟨rfl, fun z h => by
  injection h with h; subst h
  refine ⟨rfl, fun j hj => ?_⟩
  match j, hj with
  | 0, _ => exact ⟨_, rfl, fun len => by first | exact Wk.refl _ | exact Wk.nils _ _⟩
  | 1, _ => exact ⟨_, rfl, fun len => by first | exact Wk.refl _ | exact Wk.nils _ _⟩
  | 2, _ => exact ⟨_, rfl, fun len => by first | exact Wk.refl _ | exact Wk.nils _ _⟩
  | 3, _ => exact ⟨_, rfl, fun len => by first | exact Wk.refl _ | exact Wk.nils _ _⟩
  | 4, _ => exact ⟨_, rfl, fun len => by first | exact Wk.refl _ | exact Wk.nils _ _⟩
  | 5, _ => exact ⟨_, rfl, fun len => by first | exact Wk.refl _ | exact Wk.nils _ _⟩
  | n + 6, h => exact absurd h (by show ¬ n + 6 < 6; omega)⟩
theorem tyz36 : ZeroOk 36 (.sl (.st 0)) := ⟨rfl, fun z h => by
  injection h with h; subst h
  refine ⟨rfl, fun j hj => ?_⟩
  match j, hj with
  | 0, _ => exact ⟨_, rfl, fun len => by first | exact Wk.refl _ | exact Wk.nils _ _⟩
  | n + 1, h => exact absurd h (by show ¬ n + 1 < 1; omega)⟩
theorem tyz37 : ZeroOk 37 (.sl (.st 1)) := ⟨rfl, fun z h => by
  injection h with h; subst h
  refine ⟨rfl, fun j hj => ?_⟩
  match j, hj with
  | 0, _ => exact ⟨_, rfl, fun len => by first | exact Wk.refl _ | exact Wk.nils _ _⟩
  | n + 1, h => exact absurd h (by show ¬ n + 1 < 1; omega)⟩
theorem tyz39 : ZeroOk 39 (.st 2) := ⟨rfl, fun z h => by
  injection h with h; subst h
  refine ⟨rfl, fun j hj => ?_⟩
  match j, hj with
  | 0, _ => exact ⟨_, rfl, fun len => by first | exact Wk.refl _ | exact Wk.nils _ _⟩
  | 1, _ => exact ⟨_, rfl, fun len => by first | exact Wk.refl _ | exact Wk.nils _ _⟩
  | 2, _ => exact ⟨_, rfl, fun len => by first | exact Wk.refl _ | exact Wk.nils _ _⟩
  | 3, _ => exact ⟨_, rfl, fun len => by first | exact Wk.refl _ | exact Wk.nils _ _⟩
  | n + 4, h => exact absurd h (by show ¬ n + 4 < 4; omega)⟩
theorem tyz41 : ZeroOk 41 (.st 3) := ⟨rfl, fun z h => by
  injection h with h; subst h
  refine ⟨rfl, fun j hj => ?_⟩
  match j, hj with
  | 0, _ => exact ⟨_, rfl, fun len => by first | exact Wk.refl _ | exact Wk.nils _ _⟩
  | 1, _ => exact ⟨_, rfl, fun len => by first | exact Wk.refl _ | exact Wk.nils _ _⟩
  | 2, _ => exact ⟨_, rfl, fun len => by first | exact Wk.refl _ | exact Wk.nils _ _⟩
  | 3, _ => exact ⟨_, rfl, fun len => by first | exact Wk.refl _ | exact Wk.nils _ _⟩
  | 4, _ => exact ⟨_, rfl, fun len => by first | exact Wk.refl _ | exact Wk.nils _ _⟩
  | 5, _ => exact ⟨_, rfl, fun len => by first | exact Wk.refl _ | exact Wk.nils _ _⟩
  | 6, _ => exact ⟨_, rfl, fun len => by first | exact Wk.refl _ | exact Wk.nils _ _⟩
  | 7, _ => exact ⟨_, rfl, fun len => by first | exact Wk.refl _ | exact Wk.nils _ _⟩
  | 8, _ => exact ⟨_, rfl, fun len => by first | exact Wk.refl _ | exact Wk.nils _ _⟩
  | n + 9, h => exact absurd h (by show ¬ n + 9 < 9; omega)⟩
theorem tyz44 : ZeroOk 44 (.int .u64) := ⟨rfl, fun z h => by
  injection h with h; subst h
  refine ⟨rfl, fun j hj => ?_⟩
  match j, hj with
  | 0, _ => exact ⟨_, rfl, fun len => by first | exact Wk.refl _ | exact Wk.nils _ _⟩
  | n + 1, h => exact absurd h (by show ¬ n + 1 < 1; omega)⟩
theorem tyz46 : ZeroOk 46 (.st 0) := ⟨rfl, fun z h => by
  injection h with h; subst h
  refine ⟨rfl, fun j hj => ?_⟩
  match j, hj with
  | 0, _ => exact ⟨_, rfl, fun len => by first | exact Wk.refl _ | exact Wk.nils _ _⟩
  | 1, _ => exact ⟨_, rfl, fun len => by first | exact Wk.refl _ | exact Wk.nils _ _⟩
  | 2, _ => exact ⟨_, rfl, fun len => by first | exact Wk.refl _ | exact Wk.nils _ _⟩
  | 3, _ => exact ⟨_, rfl, fun len => by first | exact Wk.refl _ | exact Wk.nils _ _⟩
  | 4, _ => exact ⟨_, rfl, fun len => by first | exact Wk.refl _ | exact Wk.nils _ _⟩
  | n + 5, h => exact absurd h (by show ¬ n + 5 < 5; omega)⟩
theorem tyz51 : ZeroOk 51 (.st 1) := ⟨rfl, fun z h => by
  injection h with h; subst h
  refine ⟨rfl, fun j hj => ?_⟩
  match j, hj with
  | 0, _ => exact ⟨_, rfl, fun len => by first | exact Wk.refl _ | exact Wk.nils _ _⟩
  | 1, _ => exact ⟨_, rfl, fun len => by first | exact Wk.refl _ | exact Wk.nils _ _⟩
  | n + 2, h => exact absurd h (by show ¬ n + 2 < 2; omega)⟩
theorem tyz53 : ZeroOk 53 (.st 4) := ⟨rfl, fun z h => by
  injection h with h; subst h
  refine ⟨rfl, fun j hj => ?_⟩
  match j, hj with
  | 0, _ => exact ⟨_, rfl, fun len => by first | exact Wk.refl _ | exact Wk.nils _ _⟩
  | 1, _ => exact ⟨_, rfl, fun len => by first | exact Wk.refl _ | exact Wk.nils _ _⟩
  | 2, _ => exact ⟨_, rfl, fun len => by first | exact Wk.refl _ | exact Wk.nils _ _⟩
  | 3, _ => exact ⟨_, rfl, fun len => by first | exact Wk.refl _ | exact Wk.nils _ _⟩
  | 4, _ => exact ⟨_, rfl, fun len => by first | exact Wk.refl _ | exact Wk.nils _ _⟩
  | n + 5, h => exact absurd h (by show ¬ n + 5 < 5; omega)⟩
theorem tyz55 : ZeroOk 55 (.st 5) := ⟨rfl, fun z h => by
  injection h with h; subst h
  refine ⟨rfl, fun j hj => ?_⟩
  match j, hj with
  | 0, _ => exact ⟨_, rfl, fun len => by first | exact Wk.refl _ | exact Wk.nils _ _⟩
  | 1, _ => exact ⟨_, rfl, fun len => by first | exact Wk.refl _ | exact Wk.nils _ _⟩
  | 2, _ => exact ⟨_, rfl, fun len => by first | exact Wk.refl _ | exact Wk.nils _ _⟩
  | n + 3, h => exact absurd h (by show ¬ n + 3 < 3; omega)⟩
theorem tyz57 : ZeroOk 57 (.st 7) := ⟨rfl, fun z h => by
  injection h with h; subst h
  refine ⟨rfl, fun j hj => ?_⟩
  match j, hj with
  | 0, _ => exact ⟨_, rfl, fun len => by first | exact Wk.refl _ | exact Wk.nils _ _⟩
  | 1, _ => exact ⟨_, rfl, fun len => by first | exact Wk.refl _ | exact Wk.nils _ _⟩
  | n + 2, h => exact absurd h (by show ¬ n + 2 < 2; omega)⟩
theorem tyz67 : ZeroOk 67 (.sl (.sl (.int .i64))) := ⟨rfl, fun z h => by
  injection h with h; subst h
  refine ⟨rfl, fun j hj => ?_⟩
  match j, hj with
  | 0, _ => exact ⟨_, rfl, fun len => by first | exact Wk.refl _ | exact Wk.nils _ _⟩
  | n + 1, h => exact absurd h (by show ¬ n + 1 < 1; omega)⟩
theorem tyz69 : ZeroOk 69 (.sl .bool) := ⟨rfl, fun z h => by
  injection h with h; subst h
  refine ⟨rfl, fun j hj => ?_⟩
  match j, hj with
  | 0, _ => exact ⟨_, rfl, fun len => by first | exact Wk.refl _ | exact Wk.nils _ _⟩
  | n + 1, h => exact absurd h (by show ¬ n + 1 < 1; omega)⟩
theorem tyz96 : ZeroOk 96 (.int .i64) := ⟨rfl, fun z h => by
  injection h with h; subst h
  refine ⟨rfl, fun j hj => ?_⟩
  match j, hj with
  | 0, _ => exact ⟨_, rfl, fun len => by first | exact Wk.refl _ | exact Wk.nils _ _⟩
  | n + 1, h => exact absurd h (by show ¬ n + 1 < 1; omega)⟩
theorem tyz113 : ZeroOk 113 (.sl .str) := ⟨rfl, fun z h => by
  injection h with h; subst h
  refine ⟨rfl, fun j hj => ?_⟩
  match j, hj with
  | 0, _ => exact ⟨_, rfl, fun len => by first | exact Wk.refl _ | exact Wk.nils _ _⟩
  | n + 1, h => exact absurd h (by show ¬ n + 1 < 1; omega)⟩
theorem tyz133 : ZeroOk 133 (.sl (.int .u8)) := ⟨rfl, fun z h => by
  injection h with h; subst h
  refine ⟨rfl, fun j hj => ?_⟩
  match j, hj with
  | 0, _ => exact ⟨_, rfl, fun len => by first | exact Wk.refl _ | exact Wk.nils _ _⟩
  | n + 1, h => exact absurd h (by show ¬ n + 1 < 1; omega)⟩
theorem tyz142 : ZeroOk 142 (.int .u64) := ⟨rfl, fun z h => by
  injection h with h; subst h
  refine ⟨rfl, fun j hj => ?_⟩
  match j, hj with
  | 0, _ => exact ⟨_, rfl, fun len => by first | exact Wk.refl _ | exact Wk.nils _ _⟩
  | n + 1, h => exact absurd h (by show ¬ n + 1 < 1; omega)⟩
theorem tyz148 : ZeroOk 148 (.int .i64) := ⟨rfl, fun z h => by
  injection h with h; subst h
  refine ⟨rfl, fun j hj => ?_⟩
  match j, hj with
  | 0, _ => exact ⟨_, rfl, fun len => by first | exact Wk.refl _ | exact Wk.nils _ _⟩
  | n + 1, h => exact absurd h (by show ¬ n + 1 < 1; omega)⟩
theorem tyz155 : ZeroOk 155 (.int .u32) := ⟨rfl, fun z h => by
  injection h with h; subst h
  refine ⟨rfl, fun j hj => ?_⟩
  match j, hj with
  | 0, _ => exact ⟨_, rfl, fun len => by first | exact Wk.refl _ | exact Wk.nils _ _⟩
  | n + 1, h => exact absurd h (by show ¬ n + 1 < 1; omega)⟩
theorem tyz157 : ZeroOk 157 (.int .u64) := ⟨rfl, fun z h => by
  injection h with h; subst h
  refine ⟨rfl, fun j hj => ?_⟩
  match j, hj with
  | 0, _ => exact ⟨_, rfl, fun len => by first | exact Wk.refl _ | exact Wk.nils _ _⟩
  | n + 1, h => exact absurd h (by show ¬ n + 1 < 1; omega)⟩
theorem tyz173 : ZeroOk 173 (.int .u8) := ⟨rfl, fun z h => by
  injection h with h; subst h
  refine ⟨rfl, fun j hj => ?_⟩
  match j, hj with
  | 0, _ => exact ⟨_, rfl, fun len => by first | exact Wk.refl _ | exact Wk.nils _ _⟩
  | n + 1, h => exact absurd h (by show ¬ n + 1 < 1; omega)⟩
theorem tyz174 : ZeroOk 174 (.int .u8) := ⟨rfl, fun z h => by
  injection h with h; subst h
  refine ⟨rfl, fun j hj => ?_⟩
  match j, hj with
  | 0, _ => exact ⟨_, rfl, fun len => by first | exact Wk.refl _ | exact Wk.nils _ _⟩
  | n + 1, h => exact absurd h (by show ¬ n + 1 < 1; omega)⟩
theorem tyz177 : ZeroOk 177 (.int .i32) := ⟨rfl, fun z h => by
  injection h with h; subst h
  refine ⟨rfl, fun j hj => ?_⟩
  match j, hj with
  | 0, _ => exact ⟨_, rfl, fun len => by first | exact Wk.refl _ | exact Wk.nils _ _⟩
  | n + 1, h => exact absurd h (by show ¬ n + 1 < 1; omega)⟩
theorem tyz178 : ZeroOk 178 (.int .i32) := ⟨rfl, fun z h => by
  injection h with h; subst h
  refine ⟨rfl, fun j hj => ?_⟩
  match j, hj with
  | 0, _ => exact ⟨_, rfl, fun len => by first | exact Wk.refl _ | exact Wk.nils _ _⟩
  | n + 1, h => exact absurd h (by show ¬ n + 1 < 1; omega)⟩
def ZOk (t : TypeId) (o : Option Ty) : Prop := ∀ τ, o = some τ → ZeroOk t τ
theorem zNode {t : TypeId} {b : Bool} {x y : Option Ty} (h1 : ZOk t x) (h2 : ZOk t y) : ZOk t (bif b then x else y) := by cases b <;> assumption
theorem zLeaf {t n : TypeId} {x : Ty} (h : ZeroOk n x) : ZOk t (bif Nat.beq t n then some x else none) := fun τ e => by
  cases hb : Nat.beq t n with
  | true => rw [hb] at e; obtain rfl := Nat.eq_of_beq_eq_true hb; cases e; exact h
  | false => rw [hb] at e; cases e
def tyes (t : TypeId) : Option Ty := (bif Nat.blt t 44 then (bif Nat.blt t 21 then (bif Nat.blt t 6 then (bif Nat.blt t 4 then (bif Nat.blt t 3 then (bif Nat.beq t 2 then some (.int .i64) else none) else (bif Nat.beq t 3 then some (.int .i64) else none)) else (bif Nat.blt t 5 then (bif Nat.beq t 4 then some .bool else none) else (bif Nat.beq t 5 then some (.int .u8) else none))) else (bif Nat.blt t 10 then (bif Nat.blt t 9 then (bif Nat.beq t 6 then some (.int .u8) else none) else (bif Nat.beq t 9 then some .str else none)) else (bif Nat.blt t 11 then (bif Nat.beq t 10 then some .str else none) else (bif Nat.blt t 12 then (bif Nat.beq t 11 then some .str else none) else (bif Nat.beq t 12 then some (.int .u64) else none))))) else (bif Nat.blt t 30 then (bif Nat.blt t 26 then (bif Nat.blt t 25 then (bif Nat.beq t 21 then some (.int .i32) else none) else (bif Nat.beq t 25 then some (.sl (.int .i64)) else none)) else (bif Nat.blt t 27 then (bif Nat.beq t 26 then some (.sl (.st 4)) else none) else (bif Nat.blt t 28 then (bif Nat.beq t 27 then some (.sl (.st 5)) else none) else (bif Nat.beq t 28 then some (.sl (.st 3)) else none)))) else (bif Nat.blt t 37 then (bif Nat.blt t 36 then (bif Nat.beq t 30 then some (.st 6) else none) else (bif Nat.beq t 36 then some (.sl (.st 0)) else none)) else (bif Nat.blt t 39 then (bif Nat.beq t 37 then some (.sl (.st 1)) else none) else (bif Nat.blt t 41 then (bif Nat.beq t 39 then some (.st 2) else none) else (bif Nat.beq t 41 then some (.st 3) else none)))))) else (bif Nat.blt t 113 then (bif Nat.blt t 55 then (bif Nat.blt t 51 then (bif Nat.blt t 46 then (bif Nat.beq t 44 then some (.int .u64) else none) else (bif Nat.beq t 46 then some (.st 0) else none)) else (bif Nat.blt t 53 then (bif Nat.beq t 51 then some (.st 1) else none) else (bif Nat.beq t 53 then some (.st 4) else none))) else (bif Nat.blt t 67 then (bif Nat.blt t 57 then (bif Nat.beq t 55 then some (.st 5) else none) else (bif Nat.beq t 57 then some (.st 7) else none)) else (bif Nat.blt t 69 then (bif Nat.beq t 67 then some (.sl (.sl (.int .i64))) else none) else (bif Nat.blt t 96 then (bif Nat.beq t 69 then some (.sl .bool) else none) else (bif Nat.beq t 96 then some (.int .i64) else none))))) else (bif Nat.blt t 157 then (bif Nat.blt t 142 then (bif Nat.blt t 133 then (bif Nat.beq t 113 then some (.sl .str) else none) else (bif Nat.beq t 133 then some (.sl (.int .u8)) else none)) else (bif Nat.blt t 148 then (bif Nat.beq t 142 then some (.int .u64) else none) else (bif Nat.blt t 155 then (bif Nat.beq t 148 then some (.int .i64) else none) else (bif Nat.beq t 155 then some (.int .u32) else none)))) else (bif Nat.blt t 174 then (bif Nat.blt t 173 then (bif Nat.beq t 157 then some (.int .u64) else none) else (bif Nat.beq t 173 then some (.int .u8) else none)) else (bif Nat.blt t 177 then (bif Nat.beq t 174 then some (.int .u8) else none) else (bif Nat.blt t 178 then (bif Nat.beq t 177 then some (.int .i32) else none) else (bif Nat.beq t 178 then some (.int .i32) else none)))))))
theorem tyes_ok (t : TypeId) : ZOk t (tyes t) := (zNode (zNode (zNode (zNode (zNode (zLeaf tyz2) (zLeaf tyz3)) (zNode (zLeaf tyz4) (zLeaf tyz5))) (zNode (zNode (zLeaf tyz6) (zLeaf tyz9)) (zNode (zLeaf tyz10) (zNode (zLeaf tyz11) (zLeaf tyz12))))) (zNode (zNode (zNode (zLeaf tyz21) (zLeaf tyz25)) (zNode (zLeaf tyz26) (zNode (zLeaf tyz27) (zLeaf tyz28)))) (zNode (zNode (zLeaf tyz30) (zLeaf tyz36)) (zNode (zLeaf tyz37) (zNode (zLeaf tyz39) (zLeaf tyz41)))))) (zNode (zNode (zNode (zNode (zLeaf tyz44) (zLeaf tyz46)) (zNode (zLeaf tyz51) (zLeaf tyz53))) (zNode (zNode (zLeaf tyz55) (zLeaf tyz57)) (zNode (zLeaf tyz67) (zNode (zLeaf tyz69) (zLeaf tyz96))))) (zNode (zNode (zNode (zLeaf tyz113) (zLeaf tyz133)) (zNode (zLeaf tyz142) (zNode (zLeaf tyz148) (zLeaf tyz155)))) (zNode (zNode (zLeaf tyz157) (zLeaf tyz173)) (zNode (zLeaf tyz174) (zNode (zLeaf tyz177) (zLeaf tyz178)))))))
instance : TyE Try.prog := ⟨tyes, fun t τ h => (tyes_ok t τ h).1, fun t τ z h hz => (tyes_ok t τ h).2 z hz⟩

end Go.Abs
