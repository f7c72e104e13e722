/-
The data of layer 8 (functions in closed SSA form) as Lean data, and how memory holds them; small laws.
No statement of the program is proved here.
-/
import Derived.Test.YtlcholjffgaemaaA6
import Derived.IntWalk
set_option linter.unusedVariables false
namespace Go.Abs
open Go

variable {P : Program} {Q : Exit → St → Prop} {st : St}

/-- A table of slots. -/
def tab : List (Nat × V) → Nat → V
  | [], _ => .un
  | (t, v) :: l, x => bif Nat.beq x t then v else tab l x

def AllEq (st : St) : List (Nat × V) → Prop
  | [] => True
  | (t, v) :: l => st.env t = v ∧ AllEq st l

theorem tab_or {st : St} : ∀ (l : List (Nat × V)), AllEq st l → ∀ t, tab l t = st.env t ∨ tab l t = .un
  | [], _, t => .inr rfl
  | (s, v) :: l, h, t => by
    simp only [tab]
    cases hb : Nat.beq t s with
    | true =>
      obtain rfl := Nat.eq_of_beq_eq_true hb
      exact .inl h.1.symm
    | false => exact tab_or l h.2 t

theorem AllEq.n {st : St} : AllEq st [] := trivial
theorem AllEq.c {st : St} {t : Nat} {v : V} {l : List (Nat × V)} (h : st.env t = v) (k : AllEq st l) : AllEq st ((t, v) :: l) := ⟨h, k⟩

theorem Weak.tab {st : St} (l : List (Nat × V)) (h : AllEq st l) : Weak st ⟨st.nt, tab l, st.heap⟩ := fun E ι F a w r =>
  ⟨ι, F, r.congr rfl rfl (tab_or l h)⟩
theorem Weak.to {st : St} {nt : Nat} {H : Heap} (l : List (Nat × V)) (hn : st.nt = nt) (hh : st.heap = H) (h : AllEq st l) : Weak st ⟨nt, Abs.tab l, H⟩ := by
  subst hn; subst hh; exact Weak.tab l h

def ints (l : List Int) : T := .sl 1 l.length (fun i _ => .int .i64 (l.getD i 0))
def words (l : List Int) : T := .sl 1 l.length (fun i _ => .int .u64 (l.getD i 0))
def bools (l : List Bool) : T := .sl 1 l.length (fun i _ => .bool (l.getD i false))
def rows {α : Type} (sz : Nat) (d : α) (e : α → Nat → T) (l : List α) : T := .sl sz l.length (fun i j => e (l.getD i d) j)

structure Inst where
  op : Int
  dest : Int
  args : List Int
  num : Int
  mem : Int
deriving DecidableEq
structure Edge where
  block : Int
  args : List Int
deriving DecidableEq
structure Term where
  kind : Int
  cond : Int
  to : List Edge
  rets : List Int
deriving DecidableEq
structure Block where
  params : List Int
  insts : List Inst
  term : Term
  pipeline : Int
  unroll : Int
  line : Int
deriving DecidableEq
structure Arr where
  name : ByteArray
  width : Int
  len : Int
  kind : Int
  factor : Int
deriving DecidableEq
structure Strm where
  name : ByteArray
  width : Int
  out : Bool
deriving DecidableEq
structure Fn where
  name : ByteArray
  widths : List Int
  arrays : List Arr
  streams : List Strm
  rets : List Int
  blocks : List Block
deriving DecidableEq

def Inst.z : Inst := ⟨0, 0, [], 0, 0⟩
def Edge.z : Edge := ⟨0, []⟩
def Term.z : Term := ⟨0, 0, [], []⟩
def Block.z : Block := ⟨[], [], Term.z, 0, 0, 0⟩
def Arr.z : Arr := ⟨ByteArray.empty, 0, 0, 0, 0⟩
def Strm.z : Strm := ⟨ByteArray.empty, 0, false⟩

def Inst.e (x : Inst) : Nat → T
  | 0 => .int .i64 x.op
  | 1 => .int .i64 x.dest
  | 2 => ints x.args
  | 3 => .int .u64 x.num
  | 4 => .int .i64 x.mem
  | _ => .any
def Edge.e (x : Edge) : Nat → T
  | 0 => .int .i64 x.block
  | 1 => ints x.args
  | _ => .any
def Term.e (x : Term) : Nat → T
  | 0 => .int .i64 x.kind
  | 1 => .int .i64 x.cond
  | 2 => rows 2 Edge.z Edge.e x.to
  | 3 => ints x.rets
  | _ => .any
def Block.e (x : Block) : Nat → T
  | 0 => ints x.params
  | 1 => rows 5 Inst.z Inst.e x.insts
  | 2 => .int .i64 x.term.kind
  | 3 => .int .i64 x.term.cond
  | 4 => rows 2 Edge.z Edge.e x.term.to
  | 5 => ints x.term.rets
  | 6 => .int .i64 x.pipeline
  | 7 => .int .i64 x.unroll
  | 8 => .int .i64 x.line
  | _ => .any
def Arr.e (x : Arr) : Nat → T
  | 0 => .str x.name
  | 1 => .int .i64 x.width
  | 2 => .int .i64 x.len
  | 3 => .int .i64 x.kind
  | 4 => .int .i64 x.factor
  | _ => .any
def Strm.e (x : Strm) : Nat → T
  | 0 => .str x.name
  | 1 => .int .i64 x.width
  | 2 => .bool x.out
  | _ => .any
def Fn.e (x : Fn) : Nat → T
  | 0 => .str x.name
  | 1 => ints x.widths
  | 2 => rows 5 Arr.z Arr.e x.arrays
  | 3 => rows 3 Strm.z Strm.e x.streams
  | 4 => ints x.rets
  | 5 => rows 9 Block.z Block.e x.blocks
  | _ => .any

def Inst.v (x : Inst) : V := .agg 5 (fun j => .t (x.e j))
def Edge.v (x : Edge) : V := .agg 2 (fun j => .t (x.e j))
def Term.v (x : Term) : V := .agg 4 (fun j => .t (x.e j))
def Block.v (x : Block) : V := .agg 9 (fun j => .t (x.e j))
def Arr.v (x : Arr) : V := .agg 5 (fun j => .t (x.e j))
def Strm.v (x : Strm) : V := .agg 3 (fun j => .t (x.e j))
def Fn.v (x : Fn) : V := .agg 6 (fun j => .t (x.e j))

/-- Back at a loop's head, or there for the first time: the slots that count. -/
theorem toHead {J : St → Prop} (hW : ∀ st st', Weak st st' → J st' → J st) {nt : Nat} {l : List (Nat × V)} {H : Heap} (k : J ⟨nt, Abs.tab l, H⟩) (hn : st.nt = nt := by rfl) (hh : st.heap = H := by rfl)
    (h : AllEq st l := by repeat' first | exact AllEq.n | refine AllEq.c rfl ?_) : J st := hW _ _ (Weak.to l hn hh h) k

theorem Frz.aggT {n : Nat} {g : Nat → T} : Frz (.agg n fun j => .t (g j)) (.agg n fun j => .t (g j)) := Frz.agg fun j _ => Frz.t _

/-- The end: one result, data. -/
theorem retT {fn : Func} {t : Tmp} {x y : T} (hr : fn.results = #[.tmp t]) (he : st.env t = .t x) (hx : x = y) : retQ P fn (fun u H => FrzB H u (.t y)) .ret st := by
  show Res P fn (fun u H => FrzB H u (.t y)) st
  exact Res.one hr (RV.tmp t) (by rw [he, hx]; exact FrzB.of (Frz.t _))
theorem retB {fn : Func} {t : Tmp} {x y : Bool} (hr : fn.results = #[.tmp t]) (he : st.env t = .t (.bool x)) (hx : x = y) : retQ P fn (fun u H => FrzB H u (.t (.bool y))) .ret st :=
  retT hr he (by rw [hx])
theorem retI {fn : Func} {t : Tmp} {k : IntKind} {x y : Int} (hr : fn.results = #[.tmp t]) (he : st.env t = .t (.int k x)) (hx : x = y) : retQ P fn (fun u H => FrzB H u (.t (.int k y))) .ret st :=
  retT hr he (by rw [hx])

/-! ### Numbers -/
theorem wrap_in {z : Int} (h1 : -9223372036854775808 ≤ z) (h2 : z ≤ 9223372036854775807) : IntKind.i64.wrap z = z := IntWalk.i64_in _ (by omega)
theorem wrap_succ {i : Nat} (h : i < 9223372036854775807) : IntKind.i64.wrap ((i : Int) + 1) = ((i + 1 : Nat) : Int) := by
  rw [wrap_in (by omega) (by omega)]; omega

end Go.Abs
