/-
Shapes of states: what is told of a state at a loop's head, where ways meet, at a call.
No statement of the program is proved here.
-/
import Derived.Test.YtlcholjffgaemaaH1
set_option linter.unusedVariables false
set_option linter.unusedSimpArgs false
set_option linter.unusedSectionVars false
namespace Go.Abs
open Go

/-- Shapes of values. -/
inductive Sh where
  | un
  | b
  | i (k : IntKind)
  | s
  | fz (τ : Ty)
  | st (n : Nat)
  | fp (τ : Ty) (c : Nat)
  | nils
  | nilp
  | nilm
  | nilf
  | nili
  | ptr (id c : Nat)
  | full (id : Nat)
  | mref (id : Nat)
  | agg (l : List Sh)
  | tup (l : List Sh)
  | fn (f : FuncId) (l : List Sh)
/-- Shapes of objects. -/
inductive OSh where
  | dead
  | lst (e : TypeId) (τ : Ty)
  | box (e : TypeId) (τ : Ty)
  | cells (e : TypeId) (l : List Sh)
  | mp (s : Bool) (τ : Ty)

section
variable [SU] [Codes]
mutual
@[reducible] def Sh.D : Sh → Type
  | .un => Unit
  | .b => Bool
  | .i _ => Int
  | .s => ByteArray
  | .fz τ => List τ.D
  | .st n => SU.D n
  | .fp τ _ => τ.D
  | .nils => Unit
  | .nilp => Unit
  | .nilm => Unit
  | .nilf => Unit
  | .nili => Unit
  | .ptr _ _ => Unit
  | .full _ => Unit
  | .mref _ => Unit
  | .agg l => DS l
  | .tup l => DS l
  | .fn _ l => DS l
@[reducible] def DS : List Sh → Type
  | [] => Unit
  | a :: l => a.D × DS l
end
@[reducible] def OSh.D : OSh → Type
  | .dead => Unit
  | .lst _ τ => List τ.D
  | .box _ τ => τ.D
  | .cells _ l => DS l
  | .mp _ τ => MKey → Option τ.D
@[reducible] def DO : List OSh → Type
  | [] => Unit
  | a :: l => a.D × DO l
@[reducible] def DT : List (Nat × Sh) → Type
  | [] => Unit
  | (_, a) :: l => a.D × DT l

/-! ### A state of a shape -/
mutual
def mkE : (a : Sh) → a.D → EV
  | .un, _ => .un
  | .b, x => .b x
  | .i k, x => .i k x
  | .s, x => .s x
  | .fz τ, x => .fz τ x
  | .st n, x => .st n x
  | .fp τ c, x => .fp τ x c
  | .nils, _ => .nils
  | .nilp, _ => .nilp
  | .nilm, _ => .nilm
  | .nilf, _ => .nilf
  | .nili, _ => .nili
  | .ptr id c, _ => .ptr id [] 0 c
  | .full id, _ => .sfull id []
  | .mref id, _ => .mref id
  | .agg l, x => .agg (mkEs l x)
  | .tup l, x => .tup (mkEs l x)
  | .fn f l, x => .fn f (mkEs l x)
def mkEs : (l : List Sh) → DS l → List EV
  | [], _ => []
  | a :: l, x => mkE a x.1 :: mkEs l x.2
end
def mkO : (o : OSh) → o.D → OD
  | .dead, _ => .dead
  | .lst e τ, l => .lst ⟨e, τ, l⟩
  | .box e τ, x => .lst ⟨e, τ, [x]⟩
  | .cells e l, x => .cells e (mkEs l x)
  | .mp s τ, g => .mp s τ g
def mkEnv : (l : List (Nat × Sh)) → DT l → Nat → EV
  | [], _, _ => .un
  | (t, a) :: l, x, y => bif Nat.beq y t then mkE a x.1 else mkEnv l x.2 y
def mkObj : (l : List OSh) → DO l → Nat → OD
  | [], _, _ => .none
  | o :: _, x, 0 => mkO o x.1
  | _ :: l, x, j + 1 => mkObj l x.2 j
def mkH (lo : Nat) (os : List OSh) (y : DO os) : EHeap := ⟨os.length, lo, mkObj os y⟩

/-! ### Which object is which -/
def nthK : List (Option Nat) → Nat → Option Nat
  | [], _ => none
  | a :: _, 0 => a
  | _ :: l, j + 1 => nthK l j
def isK (ks : List (Option Nat)) (j k : Nat) : Bool := match nthK ks j with
  | some x => Nat.beq x k
  | none => false
def noK : List (Option Nat) → Nat → Bool
  | [], _ => false
  | none :: _, 0 => true
  | some _ :: _, 0 => false
  | _ :: l, j + 1 => noK l j
theorem isK_out {ks : List (Option Nat)} {j k : Nat} (h : isK ks j k = true) : nthK ks j = some k := by
  unfold isK at h
  split at h
  · rename_i x hx
    rw [hx, Nat.eq_of_beq_eq_true h]
  · cases h
theorem noK_out : ∀ {ks : List (Option Nat)} {j : Nat}, noK ks j = true → nthK ks j = none ∧ j < ks.length
  | [], _, h => by cases h
  | none :: _, 0, h => ⟨rfl, by simp⟩
  | some _ :: _, 0, h => by cases h
  | none :: l, j + 1, h => by obtain ⟨h1, h2⟩ := noK_out (ks := l) (j := j) h; exact ⟨h1, by simpa using h2⟩
  | some _ :: l, j + 1, h => by obtain ⟨h1, h2⟩ := noK_out (ks := l) (j := j) h; exact ⟨h1, by simpa using h2⟩
theorem nthK_lt : ∀ {ks : List (Option Nat)} {j k : Nat}, nthK ks j = some k → j < ks.length
  | [], _, _, h => by cases h
  | _ :: _, 0, _, _ => by simp
  | _ :: l, j + 1, k, h => by have := nthK_lt (ks := l) (j := j) h; simpa using this

/-! ### The data of a state -/
mutual
def exE (ks : List (Option Nat)) : (a : Sh) → EV → Option a.D
  | .un, _ => some ()
  | .b, .b x => some x
  | .i k, .i k' n => bif kindEq k k' then some n else none
  | .s, .s x => some x
  | .fz τ, .fz τ' l => castF List τ' τ l
  | .fz _, .nils => some []
  | .st n, .st k x => castN SU.D k n x
  | .st n, .agg l => bif Codes.fro n then Codes.make n l else none
  | .fp τ c, .fp τ' x c' => bif Nat.beq c c' then castF (fun X => X) τ' τ x else none
  | .nils, .nils => some ()
  | .nilp, .nilp => some ()
  | .nilm, .nilm => some ()
  | .nilf, .nilf => some ()
  | .nili, .nili => some ()
  | .ptr id c, .ptr k p r c' => match p with
    | [] => bif Nat.beq r 0 && Nat.beq c c' && isK ks id k then some () else none
    | _ => none
  | .full id, .sfull k p => match p with
    | [] => bif isK ks id k then some () else none
    | _ => none
  | .full id, .nils => bif noK ks id then some () else none
  | .mref id, .mref k => bif isK ks id k then some () else none
  | .agg l, .agg m => exEs ks l m
  | .agg l, .st k x => bif Codes.fro k then exEs ks l (cellsE 0 [] (.st k) x 0 0 (SU.sz k)) else none
  | .tup l, .tup m => exEs ks l m
  | .fn f l, .fn g m => bif Nat.beq f g then exEs ks l m else none
  | _, _ => none
def exEs (ks : List (Option Nat)) : (l : List Sh) → List EV → Option (DS l)
  | [], [] => some ()
  | a :: l, u :: m => match exE ks a u with
    | some x => match exEs ks l m with
      | some y => some (x, y)
      | none => none
    | none => none
  | _, _ => none
end
def exO (ks : List (Option Nat)) (k : Nat) : (o : OSh) → OD → Option o.D
  | .dead, _ => some ()
  | .lst e τ, .lst v => bif Nat.beq v.e e then castF List v.τ τ v.l else none
  | .box e τ, .lst ⟨e', τ', [x]⟩ => bif Nat.beq e' e then castF (fun X => X) τ' τ x else none
  | .cells e l, .cells e' m => bif Nat.beq e' e then exEs ks l m else none
  | .cells e l, .lst ⟨e', τ', [x]⟩ => bif Nat.beq e' e && froT τ' then exEs ks l (cellsE k [] τ' x 0 0 τ'.sz) else none
  | .mp s τ, .mp s' τ' g => bif s == s' then castF (fun X => MKey → Option X) τ' τ g else none
  | _, _ => none
/-- A list that is nil so far. -/
def exV : (o : OSh) → Option o.D
  | .dead => some ()
  | .lst _ τ => bif froT τ then some [] else none
  | _ => none
def exOs (ks : List (Option Nat)) (H : EHeap) : (l : List OSh) → List (Option Nat) → Option (DO l)
  | [], [] => some ()
  | o :: l, some k :: m => match exO ks k o (H.obj k) with
    | some x => match exOs ks H l m with
      | some y => some (x, y)
      | none => none
    | none => none
  | o :: l, none :: m => match exV o with
    | some x => match exOs ks H l m with
      | some y => some (x, y)
      | none => none
    | none => none
  | _, _ => none
def exT (ks : List (Option Nat)) (env : Nat → EV) : (l : List (Nat × Sh)) → Option (DT l)
  | [] => some ()
  | (t, a) :: l => match exE ks a (env t) with
    | some x => match exT ks env l with
      | some y => some (x, y)
      | none => none
    | none => none

/-! ### The names, found -/
def addK (b : List (Nat × Option Nat)) (j : Nat) (k : Option Nat) : List (Nat × Option Nat) := (j, k) :: b
mutual
def bindE : Sh → EV → List (Nat × Option Nat) → List (Nat × Option Nat)
  | .ptr id _, .ptr k _ _ _, b => (id, some k) :: b
  | .full id, .sfull k _, b => (id, some k) :: b
  | .full id, .nils, b => (id, none) :: b
  | .mref id, .mref k, b => (id, some k) :: b
  | .agg l, .agg m, b => bindEs l m b
  | .tup l, .tup m, b => bindEs l m b
  | .fn _ l, .fn _ m, b => bindEs l m b
  | _, _, b => b
def bindEs : List Sh → List EV → List (Nat × Option Nat) → List (Nat × Option Nat)
  | a :: l, u :: m, b => bindEs l m (bindE a u b)
  | _, _, b => b
end
def bindT (env : Nat → EV) : List (Nat × Sh) → List (Nat × Option Nat) → List (Nat × Option Nat)
  | [], b => b
  | (t, a) :: l, b => bindT env l (bindE a (env t) b)
def lookK : List (Nat × Option Nat) → Nat → Option (Option Nat)
  | [], _ => none
  | (i, k) :: l, j => bif Nat.beq i j then some k else lookK l j
/-- In order: an object's name is known before it is looked at. -/
def bindO (H : EHeap) : List OSh → Nat → List (Nat × Option Nat) → List (Nat × Option Nat)
  | [], _, b => b
  | .cells _ l :: os, j, b => match lookK b j with
    | some (some k) => match H.obj k with
      | .cells _ m => bindO H os (j + 1) (bindEs l m b)
      | _ => bindO H os (j + 1) b
    | _ => bindO H os (j + 1) b
  | _ :: os, j, b => bindO H os (j + 1) b
def ksOf (b : List (Nat × Option Nat)) : List OSh → Nat → List (Option Nat)
  | [], _ => []
  | _ :: os, j => (match lookK b j with
    | some k => k
    | none => none) :: ksOf b os (j + 1)
def memK (k : Nat) : List (Option Nat) → Bool
  | [] => false
  | some x :: l => Nat.beq x k || memK k l
  | none :: l => memK k l
def nodK : List (Option Nat) → Bool
  | [] => true
  | some x :: l => !memK x l && nodK l
  | none :: l => nodK l
/-- The roots that the caller knows keep their names. -/
def lowK : Nat → Nat → List (Option Nat) → List OSh → Bool
  | 0, _, _, _ => true
  | n + 1, j, k :: ks, o :: os => (match o with
    | .dead => true
    | _ => match k with
      | some k => Nat.beq k j
      | none => false) && lowK n (j + 1) ks os
  | _, _, _, _ => false
def idsOf : Nat → Nat → List (Nat × Option Nat)
  | 0, _ => []
  | n + 1, j => (j, some j) :: idsOf n (j + 1)
end
end Go.Abs
