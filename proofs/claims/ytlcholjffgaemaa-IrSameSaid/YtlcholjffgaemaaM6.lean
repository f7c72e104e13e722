/-
Texts of the proof, part 6: J6 J7 J8 H8 H9 HA HB Tc.
No statement of the program is proved here.
-/
import Derived.Test.YtlcholjffgaemaaM5

set_option linter.unusedVariables false
set_option linter.unusedSimpArgs false
set_option linter.unusedSectionVars false
namespace Go.Abs
open Go
variable {P : Program}
def Nv {α : Type} (P : Program) (s : Sem α) : Prop := ∀ w x w', s.run P w ≠ .ok x w'
def Cn {α : Type} (P : Program) (s : Sem α) : Prop := ∀ w x w', s.run P w = .ok x w' → w' = w ∧ ∀ w2, s.run P w2 = .ok x w2
def Rd {α : Type} (P : Program) (s : Sem α) : Prop := ∀ w x w', s.run P w = .ok x w' → w' = w ∧ ∀ w2, Grown w w2 → s.run P w2 = .ok x w2
def Gr {α : Type} (P : Program) (s : Sem α) : Prop := ∀ w x w', s.run P w = .ok x w' → Grown w w'
section
variable {α β : Type} {s : Sem α} {f : α → Sem β}
theorem Nv.cn (h : Nv P s) : Cn P s := fun w x w' e => absurd e (h w x w')
theorem Cn.rd (h : Cn P s) : Rd P s := fun w x w' e => ⟨(h w x w' e).1, fun w2 _ => (h w x w' e).2 w2⟩
theorem Rd.gr (h : Rd P s) : Gr P s := fun w x w' e => by rw [(h w x w' e).1]; exact Grown.refl _
theorem Cn.gr (h : Cn P s) : Gr P s := h.rd.gr
theorem Nv.halt (h : Halt) : Nv P (.halt h : Sem α) := fun w x w' e => by cases e
theorem Nv.stuck (why : String) : Nv P (Go.stuck why : Sem α) := Nv.halt _
theorem Cn.pure (x : α) : Cn P (Pure.pure x : Sem α) := fun w y w' e => by cases e; exact ⟨rfl, fun _ => rfl⟩
theorem bnd_run (s : Sem α) (f : α → Sem β) (w : World) : (s >>= f).run P w = (s.run P w).andThen fun a w => (f a).run P w := Sem.run_bind _ _ _ _
theorem bnd_ok {w w' : World} {x : β} (h : (s >>= f).run P w = .ok x w') : ∃ a w1, s.run P w = .ok a w1 ∧ (f a).run P w1 = .ok x w' := by
  rw [bnd_run] at h
  cases hs : s.run P w with
  | ok a w1 => rw [hs] at h; exact ⟨a, w1, rfl, h⟩
  | halt x w1 => rw [hs] at h; cases h
theorem bnd_of {w w1 : World} {a : α} (h : s.run P w = .ok a w1) : (s >>= f).run P w = (f a).run P w1 := by rw [bnd_run, h]; rfl
theorem Nv.bnd (h : ∀ x, Nv P (f x)) : Nv P (s >>= f) := fun w x w' e => by
  obtain ⟨a, w1, _, h2⟩ := bnd_ok e
  exact h a _ _ _ h2
theorem Cn.bnd (h : Cn P s) (hf : ∀ x, Cn P (f x)) : Cn P (s >>= f) := fun w x w' e => by
  obtain ⟨a, w1, h1, h2⟩ := bnd_ok e
  obtain ⟨rfl, g1⟩ := h _ _ _ h1
  obtain ⟨rfl, g2⟩ := hf _ _ _ _ h2
  exact ⟨rfl, fun w2 => by rw [bnd_of (g1 w2)]; exact g2 w2⟩
theorem Rd.bnd (h : Rd P s) (hf : ∀ x, Rd P (f x)) : Rd P (s >>= f) := fun w x w' e => by
  obtain ⟨a, w1, h1, h2⟩ := bnd_ok e
  obtain ⟨rfl, g1⟩ := h _ _ _ h1
  obtain ⟨rfl, g2⟩ := hf _ _ _ _ h2
  exact ⟨rfl, fun w2 g => by rw [bnd_of (g1 w2 g)]; exact g2 w2 g⟩
theorem Gr.bnd (h : Gr P s) (hf : ∀ x, Gr P (f x)) : Gr P (s >>= f) := fun w x w' e => by
  obtain ⟨a, w1, h1, h2⟩ := bnd_ok e
  exact (h _ _ _ h1).trans (hf _ _ _ _ h2)
theorem Cn.known {a : α} (h : ∀ w, s.run P w = .ok a w) (hf : Cn P (f a)) : Cn P (s >>= f) := fun w x w' e => by
  rw [bnd_of (h w)] at e
  obtain ⟨rfl, g⟩ := hf _ _ _ e
  exact ⟨rfl, fun w2 => by rw [bnd_of (h w2)]; exact g w2⟩
theorem Cn.program : Cn P (Go.program) := fun w x w' e => by cases e; exact ⟨rfl, fun _ => rfl⟩
theorem Cn.ite {c : Prop} [Decidable c] {s t : Sem α} (h : Cn P s) (k : Cn P t) : Cn P (if c then s else t) := by split <;> assumption
end
theorem seen_none {p : Program} {w : World} {at_ : Addr} {u : TypeId} {k : Addr} {atomic : Bool} (h : w.heap[at_.block]? = none) : ∀ r, w.seen p at_ u k atomic ≠ .ok r := by
  intro r hr
  unfold World.seen at hr
  rw [h] at hr
  simp only [bind, Except.bind, pure, Except.pure, throw, throwThe, MonadExceptOf.throw] at hr
  repeat' split at hr
  all_goals first | cases hr | skip
theorem seen_grown {p : Program} {w w' : World} (g : Grown w w') {at_ : Addr} {u : TypeId} {k : Addr} {atomic : Bool} {r} (h : w.seen p at_ u k atomic = .ok r) : w'.seen p at_ u k atomic = .ok r := by
  rcases Nat.lt_or_ge at_.block w.heap.size with hb | hb
  · rw [← h]
    unfold World.seen
    rw [g.kept _ hb]
  · exact absurd h (seen_none (Array.getElem?_eq_none hb) r)
theorem far_grown {p : Program} {w w' : World} (g : Grown w w') {a : Addr} {m : Bool} {r} (h : w.farLoad p a m = .ok r) : w'.farLoad p a m = .ok r := by
  unfold World.farLoad at h ⊢
  rcases Nat.lt_or_ge a.block w.heap.size with hb | hb
  · rw [g.kept _ hb]
    split at h
    · rename_i at_ u he
      split at h
      · rename_i r' hv
        cases h
        have : w'.viewLoad p at_ u a m = .ok r := by
          rw [← hv]
          unfold World.viewLoad at hv ⊢
          cases hs : w.seen p at_ u a m with
          | error e => rw [hs] at hv; cases hv
          | ok q => rw [seen_grown g hs]
        simp only [this]
      · cases h
    · cases h
  · rw [Array.getElem?_eq_none hb] at h
    cases h
theorem cell_grown {w w' : World} (g : Grown w w') {a : Addr} {v : Value} (h : w.cell? a = some v) : w'.cell? a = some v := by
  have hb := Nat.lt_of_not_le fun hn => by
    unfold World.cell? at h
    rw [Array.getElem?_eq_none hn] at h
    cases h
  rw [← h]
  unfold World.cell?
  rw [g.kept _ hb]
theorem cellN_grown {w w' : World} (g : Grown w w') {a : Addr} (h : w.cell? a = none) (hb : a.block < w.heap.size) : w'.cell? a = none := by
  rw [← h]
  unfold World.cell?
  rw [g.kept _ hb]
variable {α : Type}
theorem Rd.load (a : Addr) (m : Mode) : Rd P (Go.load a m) := fun w x w' e => by
  unfold Go.load at e ⊢
  simp only [Sem.run] at e ⊢
  split at e
  · rename_i v hv
    cases e
    exact ⟨rfl, fun w2 g => by rw [cell_grown g hv]⟩
  · rename_i hn
    split at e
    · rename_i v q hf
      cases e
      refine ⟨rfl, fun w2 g => ?_⟩
      have hb : a.block < w.heap.size := Nat.lt_of_not_le fun hb => by
        unfold World.farLoad at hf
        rw [Array.getElem?_eq_none hb] at hf
        cases hf
      rw [cellN_grown g hn hb, far_grown g hf]
    · cases e
theorem Gr.new (o : Obj) : Gr P (newObj o) := fun w x w' e => by
  cases e
  refine ⟨by simp, fun b hb => ?_⟩
  simp [Array.getElem?_push, Nat.ne_of_lt hb]
theorem Cn.typeInfo (t : TypeId) : Cn P (Go.typeInfo t) := by
  unfold Go.typeInfo
  refine Cn.bnd Cn.program fun p => ?_
  split
  · exact Cn.pure _
  · exact (Nv.stuck _).cn
theorem Cn.underlying (t : TypeId) : Cn P (Go.underlying t) := by
  unfold Go.underlying
  refine Cn.bnd Cn.program fun p => ?_
  split
  · exact Cn.pure _
  · exact (Nv.stuck _).cn
theorem Cn.sizeOf (t : TypeId) : Cn P (Go.sizeOf t) := Cn.bnd (Cn.typeInfo t) fun _ => Cn.pure _
theorem Cn.isAgg (t : TypeId) : Cn P (Go.isAgg t) := by
  unfold Go.isAgg
  refine Cn.bnd (Cn.underlying t) fun d => ?_
  split <;> exact Cn.pure _
theorem Cn.zeroValue (t : TypeId) : Cn P (Go.zeroValue t) := by
  unfold Go.zeroValue
  refine Cn.bnd (Cn.typeInfo t) fun d => ?_
  split
  · exact Cn.pure _
  · exact (Nv.halt _).cn
theorem Cn.sureAddr (v : Value) : Cn P (Instr.sureAddr v) := by
  unfold Instr.sureAddr
  split
  · exact Cn.pure _
  · exact (Nv.stuck _).cn
theorem Rd.loadCellsFrom (a : Addr) : ∀ (n i : Nat) (acc : Array Value), Rd P (Go.loadCellsFrom a i n acc)
  | 0, i, acc => (Cn.pure _).rd
  | n + 1, i, acc => by
    unfold Go.loadCellsFrom
    exact Rd.bnd (Rd.load _ _) fun v => Rd.loadCellsFrom a n (i + 1) (acc.push v)
theorem Rd.loadAt (t : TypeId) (v : Value) : Rd P (Instr.loadAt t v) := by
  unfold Instr.loadAt Go.loadVar
  refine Rd.bnd (Cn.sureAddr v).rd fun a => Rd.bnd (Cn.isAgg t).rd fun b => ?_
  split
  · refine Rd.bnd (Cn.sizeOf t).rd fun n => ?_
    exact Rd.bnd (Rd.loadCellsFrom a n 0 #[]) fun cs => (Cn.pure _).rd
  · exact Rd.load _ _
theorem Cn.asIntOf (v : Value) : Cn P (Go.asIntOf v) := by
  unfold Go.asIntOf
  split
  · exact Cn.pure _
  · exact (Nv.halt _).cn
  · exact (Nv.halt _).cn
theorem Nv.panic (e : RuntimeError) : Nv P (Go.runtimePanic e : Sem α) := by
  unfold Go.runtimePanic
  refine Nv.bnd fun p => ?_
  cases e
  all_goals first
    | exact Nv.halt _
    | exact Nv.bnd fun _ => Nv.bnd fun _ => Nv.halt _
theorem Nv.bounds (k : IntKind) (x y : Int) (c : BoundsCode) : Nv P (Go.boundsPanic k x y c : Sem α) := by
  unfold Go.boundsPanic
  dsimp only
  split <;> exact Nv.bnd fun _ => Nv.panic _
theorem Cn.fieldAt {t f : Nat} {off s : Nat} {agg : Bool} [h : TyField P t f off agg s] (v : Value) : Cn P (Instr.fieldAt t v f) := by
  obtain ⟨fs, fl, h1, h2, h3, h4⟩ := h.d
  have hs := fun w => sizeOf_run (P := P) (t := fl.type) w
  have h0 := h.s
  unfold Instr.fieldAt
  refine Cn.known (fun w => run_underlying' h1 w) ?_
  simp only [h2]
  refine Cn.bnd (Cn.sureAddr v) fun a => Cn.bnd ?_ fun _ => Cn.pure _
  unfold fieldPlace
  refine Cn.known hs ?_
  rw [if_neg h0]
  exact Cn.pure _
theorem Cn.indexAt (t : TypeId) (x y : Value) : Cn P (Instr.indexAt t x y) := by
  unfold Instr.indexAt
  refine Cn.bnd (Cn.asIntOf y) fun ki => Cn.bnd (Cn.underlying t) fun d => ?_
  dsimp only
  have key : ∀ (base : Option Addr) (len : Nat) (elem : TypeId), Cn P (do
      let d' ← Go.underlying t
      match base with
      | some a =>
        if 0 ≤ ki.2 ∧ ki.2 < len then Pure.pure (Value.pointer (some (a.add (ki.2.toNat * (← Go.sizeOf elem)))))
        else if (decide (len ≤ 1) && (match d' with | .array .. => true | _ => false)) = true then unsupported (.noEntry "op/indexAddr.an index out of range at an array of length 0 or 1 (ledger 616)")
        else boundsPanic ki.1 ki.2 len .index
      | none => boundsPanic ki.1 ki.2 0 .index) := fun base len elem => by
    refine Cn.bnd (Cn.underlying t) fun d' => ?_
    cases base with
    | some a => exact Cn.ite (Cn.bnd (Cn.sizeOf _) fun _ => Cn.pure _) (Cn.ite (Nv.halt _).cn (Nv.bounds _ _ _ _).cn)
    | none => exact (Nv.bounds _ _ _ _).cn
  split
  · exact Cn.bnd (Cn.sureAddr _) fun a => Cn.known (a := (some a, _, _)) (fun w => rfl) (key (some a) _ _)
  · exact Cn.known (a := (_, _, _)) (fun w => rfl) (key _ _ _)
  · exact Cn.bnd (Nv.stuck _).cn fun r => key r.1 r.2.1 r.2.2
end Go.Abs


set_option linter.unusedVariables false
set_option linter.unusedSimpArgs false
set_option linter.unusedSectionVars false
namespace Go.Abs
open Go
variable {P : Program} {Q : Exit → St → Prop} {st : St}
def Val (P : Program) (o : Oper) : Prop := ∀ (ρ : Operand → Value) w n w', (execOp ρ o).run P w = .ok n w' → ∃ v, n = .value v
theorem val_of {s : Sem Value} {w w' : World} {n : Next} (h : (do let x ← s; Pure.pure (Next.value x) : Sem Next).run P w = .ok n w') : ∃ v, n = .value v := by
  obtain ⟨a, w1, _, h2⟩ := bnd_ok h
  cases h2
  exact ⟨a, rfl⟩
theorem Rd.val {s : Sem Value} (h : Rd P s) : Rd P (do let x ← s; Pure.pure (Next.value x) : Sem Next) := Rd.bnd h fun _ => (Cn.pure _).rd
theorem Cn.val {s : Sem Value} (h : Cn P s) : Cn P (do let x ← s; Pure.pure (Next.value x) : Sem Next) := Cn.bnd h fun _ => Cn.pure _
theorem Gr.val {s : Sem Value} (h : Gr P s) : Gr P (do let x ← s; Pure.pure (Next.value x) : Sem Next) := Gr.bnd h fun _ => (Cn.pure _).gr
theorem gr_row (e : TypeId) (cs : Array Value) : Gr P (newRow e cs) := Gr.bnd (Gr.new _) fun _ => (Cn.pure _).gr
theorem gr_alloc (e : TypeId) (v : Value) : Gr P (Instr.alloc e true v) := by
  unfold Instr.alloc
  refine Gr.bnd (Cn.zeroValue e).gr fun z => ?_
  split
  · rename_i h; cases h
  · exact Gr.bnd (gr_row _ _) fun _ => (Cn.pure _).gr
theorem gr_box (e : TypeId) (v : Value) : Gr P (Instr.box e v) := Gr.bnd (gr_row _ _) fun _ => (Cn.pure _).gr
theorem gr_room (n : Nat) : Gr P (askRoom n) := by
  unfold askRoom
  split
  · intro w x w' e; cases e; exact Grown.refl _
  · exact (Cn.pure _).gr
theorem gr_choose (q : Question) : Gr P (choose q) := fun w x w' e => by
  unfold choose at e
  simp only [Sem.run] at e
  split at e <;> (cases e; exact ⟨Nat.le_refl _, fun _ _ => rfl⟩)
theorem gr_build (t : TypeId) (n : Nat) (ps : Array (Nat × Value)) : Gr P (Instr.buildSlice t n ps) := by
  unfold Instr.buildSlice
  repeat' first
    | exact (Cn.pure _).gr
    | exact (Nv.halt _).cn.gr
    | exact (Nv.panic _).cn.gr
    | exact gr_row _ _
    | exact gr_room _
    | exact (Cn.underlying _).gr
    | exact (Cn.sizeOf _).gr
    | exact (Cn.zeroValue _).gr
    | exact (Cn.typeInfo _).gr
    | exact (Cn.asIntOf _).gr
    | exact gr_choose _
    | refine Gr.bnd ?_ fun _ => ?_
    | split
    | dsimp only
theorem gr_make (t : TypeId) (x y : Value) : Gr P (Instr.makeSlice t x y) := by
  unfold Instr.makeSlice asInt
  repeat' first
    | exact (Cn.pure _).gr
    | exact (Nv.halt _).cn.gr
    | exact (Nv.panic _).cn.gr
    | exact gr_row _ _
    | exact gr_room _
    | exact (Cn.underlying _).gr
    | exact (Cn.sizeOf _).gr
    | exact (Cn.zeroValue _).gr
    | exact (Cn.typeInfo _).gr
    | exact (Cn.asIntOf _).gr
    | exact gr_choose _
    | refine Gr.bnd ?_ fun _ => ?_
    | split
    | dsimp only
def fldIn (P : Program) [Tys P] (t f : Nat) : Bool := (nth (Tys.c P t).fields f).isSome
theorem fldIn_ok [T : Tys P] {t f : Nat} (h : fldIn P t f = true) (v : Value) : Cn P (Instr.fieldAt t v f) := by
  unfold fldIn at h
  cases hn : nth (Tys.c P t).fields f with
  | none => rw [hn] at h; cases h
  | some x =>
    obtain ⟨off, a, s⟩ := x
    have := (T.ok t).fld f off a s hn
    exact Cn.fieldAt v
theorem Cn.asAgg (v : Value) : Cn P (Go.asAgg v) := by
  unfold Go.asAgg
  split
  · exact Cn.pure _
  · exact (Nv.stuck _).cn
theorem Cn.asBool (v : Value) : Cn P (Go.asBool v) := by
  unfold Go.asBool
  split
  · exact Cn.pure _
  · exact (Nv.stuck _).cn
theorem Cn.part (t : TypeId) (cs : Array Value) (n : Nat) : Cn P (Go.part t cs n) := by
  unfold Go.part
  refine Cn.bnd (Cn.isAgg t) fun b => ?_
  split
  · exact Cn.bnd (Cn.sizeOf t) fun _ => Cn.pure _
  · split
    · exact Cn.pure _
    · exact (Nv.stuck _).cn
theorem Cn.followBlind : ∀ (l : List FieldStep) (t : TypeId) (x : Option Value), Cn P (Go.followBlind l t x)
  | [], t, x => Cn.pure _
  | s :: rest, t, x => by
    unfold Go.followBlind
    repeat' first
      | exact Cn.pure _
      | exact (Nv.stuck _).cn
      | exact Cn.underlying _
      | exact Cn.part _ _ _
      | exact Cn.followBlind rest _ _
      | refine Cn.bnd ?_ fun _ => ?_
      | split
      | dsimp only
theorem Cn.nilAhead : ∀ (n : Nat) (t : TypeId) (v : Value) (s : String), Cn P (Go.nilAhead n t v s)
  | 0, t, v, s => Cn.pure _
  | n + 1, t, v, s => by
    unfold Go.nilAhead
    repeat' first
      | exact Cn.pure _
      | exact (Nv.stuck _).cn
      | exact Cn.underlying _
      | exact Cn.typeInfo _
      | exact Cn.followBlind _ _ _
      | exact Cn.nilAhead n _ _ _
      | refine Cn.bnd ?_ fun _ => ?_
      | split
      | dsimp only
theorem Cn.field (t : TypeId) (v : Value) (f : Nat) : Cn P (Instr.field t v f) := by
  unfold Instr.field
  repeat' first
    | exact Cn.pure _
    | exact (Nv.stuck _).cn
    | exact Cn.underlying _
    | exact Cn.part _ _ _
    | exact Cn.asAgg _
    | refine Cn.bnd ?_ fun _ => ?_
    | split
    | dsimp only
theorem Cn.index (t : TypeId) (x y : Value) : Cn P (Instr.index t x y) := by
  unfold Instr.index
  repeat' first
    | exact Cn.pure _
    | exact (Nv.stuck _).cn
    | exact (Nv.bounds _ _ _ _).cn
    | exact Cn.underlying _
    | exact Cn.part _ _ _
    | exact Cn.asIntOf _
    | exact Cn.sizeOf _
    | refine Cn.bnd ?_ fun _ => ?_
    | split
    | dsimp only
theorem Cn.extract (v : Value) (n : Nat) : Cn P (Instr.extract v n) := by
  unfold Instr.extract
  repeat' first
    | exact Cn.pure _
    | exact (Nv.stuck _).cn
    | split
def Vl (P : Program) (s : Sem Next) : Prop := ∀ w n w', s.run P w = .ok n w' → ∃ v, n = .value v
theorem Vl.pure (v : Value) : Vl P (Pure.pure (Next.value v)) := fun w n w' e => by cases e; exact ⟨_, rfl⟩
theorem Vl.bnd {α : Type} {s : Sem α} {f : α → Sem Next} (h : ∀ x, Vl P (f x)) : Vl P (s >>= f) := fun w n w' e => by
  obtain ⟨a, w1, _, h2⟩ := bnd_ok e
  exact h a _ _ _ h2
theorem Nv.vl {s : Sem Next} (h : Nv P s) : Vl P s := fun w n w' e => absurd e (h _ _ _)
def cnX : Op → Bool
  | .move _ => true
  | .makeFunc _ _ _ => true
  | .indexAddr _ _ _ => true
  | .nilCheck _ => true
  | .field _ _ _ => true
  | .index _ _ _ => true
  | .extract _ _ => true
  | .pick _ _ _ => true
  | _ => false
theorem cnX_ok {o : Oper} (h : cnX o.op = true) : Val P o ∧ ∀ ρ, Cn P (execOp ρ o) := by
  obtain ⟨dst, op, type, pos, after, guard⟩ := o
  cases op <;> simp only [cnX] at h <;> first
    | (cases h; done)
    | skip
  case move x => exact ⟨fun ρ w n w' e => by cases e; exact ⟨_, rfl⟩, fun ρ => Cn.pure _⟩
  case makeFunc f a b => exact ⟨fun ρ w n w' h => val_of h, fun ρ => Cn.val (Cn.pure _)⟩
  case indexAddr t x y => exact ⟨fun ρ w n w' h => val_of h, fun ρ => Cn.val (Cn.indexAt _ _ _)⟩
  case field t x y => exact ⟨fun ρ w n w' h => val_of h, fun ρ => Cn.val (Cn.field _ _ _)⟩
  case index t x y => exact ⟨fun ρ w n w' h => val_of h, fun ρ => Cn.val (Cn.index _ _ _)⟩
  case extract x y => exact ⟨fun ρ w n w' h => val_of h, fun ρ => Cn.val (Cn.extract _ _)⟩
  case pick c x y =>
    refine ⟨fun ρ w n w' h => ?_, fun ρ => Cn.bnd (Cn.asBool _) fun _ => Cn.pure _⟩
    obtain ⟨a, w1, _, h2⟩ := bnd_ok h
    cases h2
    exact ⟨_, rfl⟩
  case nilCheck x =>
    have key : ∀ ρ, Cn P (execOp ρ ⟨dst, .nilCheck x, type, pos, after, guard⟩) := fun ρ => by
      simp only [execOp]
      repeat' first
        | exact Cn.pure _
        | exact (Nv.stuck _).cn
        | exact (Nv.halt _).cn
        | exact (Nv.panic _).cn
        | exact Cn.nilAhead _ _ _ _
        | exact Cn.program
        | refine Cn.bnd ?_ fun _ => ?_
        | split
        | dsimp only
    refine ⟨fun ρ => ?_, key⟩
    show Vl P _
    simp only [execOp]
    repeat' first
      | exact Vl.pure _
      | exact (Nv.panic _).vl
      | exact (Nv.halt _).vl
      | refine Vl.bnd fun _ => ?_
      | split
      | dsimp only
def grB (P : Program) [Tys P] : Op → Bool
  | .move _ => true
  | .assign _ => true
  | .load _ _ => true
  | .alloc _ => true
  | .box _ _ => true
  | .buildSlice _ _ _ => true
  | .makeSlice _ _ _ => true
  | .makeFunc _ _ _ => true
  | .indexAddr _ _ _ => true
  | .fieldAddr t _ f => fldIn P t f
  | op => cnX op
theorem grB_ok [T : Tys P] {o : Oper} (h : grB P o.op = true) : Val P o ∧ ∀ ρ, Gr P (execOp ρ o) := by
  obtain ⟨dst, op, type, pos, after, guard⟩ := o
  cases op <;> simp only [grB] at h <;> first
    | (simp only [cnX] at h; cases h; done)
    | skip
  all_goals first
    | exact ⟨(cnX_ok (P := P) (o := ⟨dst, _, type, pos, after, guard⟩) h).1, fun ρ => ((cnX_ok (P := P) (o := ⟨dst, _, type, pos, after, guard⟩) h).2 ρ).gr⟩
    | skip
  case move x => exact ⟨fun ρ w n w' e => by cases e; exact ⟨_, rfl⟩, fun ρ => (Cn.pure _).gr⟩
  case assign x => exact ⟨fun ρ w n w' e => by cases e; exact ⟨_, rfl⟩, fun ρ => (Cn.pure _).gr⟩
  case alloc e => exact ⟨fun ρ w n w' h => val_of h, fun ρ => (gr_alloc _ _).val⟩
  case box e x => exact ⟨fun ρ w n w' h => val_of h, fun ρ => (gr_box _ _).val⟩
  case buildSlice t n ps => exact ⟨fun ρ w n w' h => val_of h, fun ρ => (gr_build _ _ _).val⟩
  case load t x => exact ⟨fun ρ w n w' h => val_of h, fun ρ => (Rd.loadAt _ _).val.gr⟩
  case makeFunc f a b => exact ⟨fun ρ w n w' h => val_of h, fun ρ => (Cn.val (Cn.pure _)).gr⟩
  case makeSlice t x y => exact ⟨fun ρ w n w' h => val_of h, fun ρ => (gr_make _ _ _).val⟩
  case fieldAddr t x f => exact ⟨fun ρ w n w' h => val_of h, fun ρ => (Cn.val (fldIn_ok h _)).gr⟩
  case indexAddr t x y => exact ⟨fun ρ w n w' h => val_of h, fun ρ => (Cn.val (Cn.indexAt _ _ _)).gr⟩
def rdB (P : Program) [Tys P] : Op → Bool
  | .move _ => true
  | .load _ _ => true
  | .makeFunc _ _ _ => true
  | .indexAddr _ _ _ => true
  | .fieldAddr t _ f => fldIn P t f
  | op => cnX op
theorem rdB_ok [T : Tys P] {o : Oper} (h : rdB P o.op = true) : Val P o ∧ ∀ ρ, Rd P (execOp ρ o) := by
  obtain ⟨dst, op, type, pos, after, guard⟩ := o
  cases op <;> simp only [rdB] at h <;> first
    | (simp only [cnX] at h; cases h; done)
    | skip
  all_goals first
    | exact ⟨(cnX_ok (P := P) (o := ⟨dst, _, type, pos, after, guard⟩) h).1, fun ρ => ((cnX_ok (P := P) (o := ⟨dst, _, type, pos, after, guard⟩) h).2 ρ).rd⟩
    | skip
  case move x => exact ⟨fun ρ w n w' e => by cases e; exact ⟨_, rfl⟩, fun ρ => (Cn.pure _).rd⟩
  case load t x => exact ⟨fun ρ w n w' h => val_of h, fun ρ => (Rd.loadAt _ _).val⟩
  case makeFunc f a b => exact ⟨fun ρ w n w' h => val_of h, fun ρ => (Cn.val (Cn.pure _)).rd⟩
  case fieldAddr t x f => exact ⟨fun ρ w n w' h => val_of h, fun ρ => (Cn.val (fldIn_ok h _)).rd⟩
  case indexAddr t x y => exact ⟨fun ρ w n w' h => val_of h, fun ρ => (Cn.val (Cn.indexAt _ _ _)).rd⟩
def cnB (P : Program) [Tys P] (nt : Operand → Bool) : Op → Bool
  | .move _ => true
  | .makeFunc _ _ _ => true
  | .indexAddr _ _ _ => true
  | .fieldAddr t _ f => fldIn P t f
  | .binOp o _ x y _ => (match o with
    | .add => true
    | .sub => true
    | .mul => true
    | _ => false) && (nt x && nt y)
  | op => cnX op
theorem cnB_ok [T : Tys P] {o : Oper} {nt : Operand → Bool} {ρ : Operand → Value} (hn : ∀ x, nt x = true → ∃ k n, ρ x = .int k n) (h : cnB P nt o.op = true) : Val P o ∧ Cn P (execOp ρ o) := by
  obtain ⟨dst, op, type, pos, after, guard⟩ := o
  cases op <;> simp only [cnB] at h <;> first
    | (simp only [cnX] at h; cases h; done)
    | skip
  all_goals first
    | exact ⟨(cnX_ok (P := P) (o := ⟨dst, _, type, pos, after, guard⟩) h).1, (cnX_ok (P := P) (o := ⟨dst, _, type, pos, after, guard⟩) h).2 ρ⟩
    | skip
  case move x => exact ⟨fun ρ w n w' e => by cases e; exact ⟨_, rfl⟩, Cn.pure _⟩
  case makeFunc f a b => exact ⟨fun ρ w n w' h => val_of h, Cn.val (Cn.pure _)⟩
  case fieldAddr t x f => exact ⟨fun ρ w n w' h => val_of h, Cn.val (fldIn_ok h _)⟩
  case indexAddr t x y => exact ⟨fun ρ w n w' h => val_of h, Cn.val (Cn.indexAt _ _ _)⟩
  case binOp o tx x y ty =>
    refine ⟨fun ρ w n w' h => val_of h, Cn.val ?_⟩
    simp only [Bool.and_eq_true] at h
    obtain ⟨k, n, hx⟩ := hn x h.2.1
    obtain ⟨k', n', hy⟩ := hn y h.2.2
    rw [hx, hy]
    have hc : ∀ o, (o = .add ∨ o = .sub ∨ o = .mul) → Cn P (do eqGuard o tx x y (.int k n) (.int k' n'); binOp o tx (.int k n) (.int k' n')) := by
      rintro o (rfl | rfl | rfl) <;>
      · refine Cn.bnd ?_ fun _ => ?_
        · unfold eqGuard; exact Cn.pure _
        · unfold binOp
          dsimp only
          split
          · exact (Nv.halt _).cn
          · exact Cn.pure _
    exact hc o (by
      have := h.1
      cases o <;> first | exact .inl rfl | exact .inr (.inl rfl) | exact .inr (.inr rfl) | cases this)
end Go.Abs


set_option linter.unusedVariables false
set_option linter.unusedSimpArgs false
set_option linter.unusedSectionVars false
namespace Go.Abs
open Go
variable {P : Program} {Q : Exit → St → Prop} {st : St}
theorem qg_step {g : GOp} {u : V} {E : Env} {ι : Id → Option Nat} {F : Nat → Prop} {a : Act} {w : World} (h : QG P g u st) (hv : Val P g.oper) (hr : Rd P (execOp a.eval g.oper)) (r : Rel E ι F st a w) :
    ∃ v F', Rel E ι F' (st.put g.dst u) (a.put g.dst v) w ∧ ((g.wanted a.tmps = true ∧ (execOp a.eval g.oper).run P w = .ok (.value v) w) ∨ (g.wanted a.tmps = false ∧ v = undef)) := by
  have hrun : QO P ⟨g.dst, g.op, g.type, none⟩ u (st.only (rds g.op)) → ∃ v F', Rel E ι F' (st.put g.dst u) (a.put g.dst v) w ∧ (execOp a.eval g.oper).run P w = .ok (.value v) w := by
    intro hq
    have hrel : Rel E ι F (st.only (rds g.op)) a w := r.congr rfl rfl (fun t => by
      simp only [St.only]
      cases hm : memT (rds g.op) t with
      | false => exact .inr rfl
      | true => exact .inl rfl)
    have h1 := hq E ι F a w hrel
    have h1 : g.oper.wp P a w (fun a' w' => ∃ c F', a' = a.put g.dst c ∧ Go.Abs.Grow w F w' F' ∧ VRel st.heap ι F' w' u c) (fun _ _ _ => False) := h1
    unfold Oper.wp at h1
    cases he : (execOp a.eval g.oper).run P w with
    | halt x w' => rw [he] at h1; cases x <;> simp only [Oper.upon] at h1
    | ok n w' =>
      obtain ⟨v, rfl⟩ := hv _ _ _ _ he
      obtain ⟨rfl, _⟩ := hr _ _ _ he
      rw [he] at h1
      simp only [Oper.upon] at h1
      obtain ⟨c, F', e1, gr, hc⟩ := h1
      obtain ⟨r2, x2⟩ := r.h.grown gr
      have e1 : a.put g.dst v = a.put g.dst c := e1
      refine ⟨v, F', ?_, rfl⟩
      rw [e1]
      exact r.put r2 x2 _ hc
  cases hg : g.g with
  | none =>
    have hw : g.wanted a.tmps = true := by unfold GOp.wanted; rw [hg]
    unfold QG at h
    rw [hg] at h
    obtain ⟨v, F', h1, h2⟩ := hrun h
    exact ⟨v, F', h1, .inl ⟨hw, h2⟩⟩
  | some gw =>
    obtain ⟨gt, want⟩ := gw
    unfold QG at h
    rw [hg] at h
    cases gt with
    | none => exact h.elim
    | some t =>
      have tv := r.env t
      rcases h with ⟨hlt, b, hb, hy, hn⟩ | ⟨hb, hn⟩
      · rw [hb] at tv
        have tv : a.tmps.getD t undef = .bool b := tv
        have he : a.tmps[t]? = some (.bool b) := by
          have hlt' : t < a.tmps.size := by rw [r.nt]; exact Nat.le_of_ble_eq_true hlt
          rw [Array.getD_eq_getD_getElem?, Array.getElem?_eq_getElem hlt', Option.getD_some] at tv
          rw [Array.getElem?_eq_getElem hlt', tv]
        have hw : g.wanted a.tmps = (b == want) := by
          unfold GOp.wanted
          simp only [hg, he]
        by_cases hbw : b = want
        · obtain ⟨v, F', h1, h2⟩ := hrun (hy hbw)
          exact ⟨v, F', h1, .inl ⟨by rw [hw, hbw, beq_self_eq_true], h2⟩⟩
        · have hb2 : b = !want := by cases b <;> cases want <;> simp_all
          rw [hn hb2]
          exact ⟨undef, F, r.put_same _ (u := .und) (v := undef) rfl, .inr ⟨by rw [hw]; simpa using hbw, rfl⟩⟩
      · rw [hb] at tv
        have tv : a.tmps.getD t undef = undef := tv
        have hw : g.wanted a.tmps = false := by
          unfold GOp.wanted
          simp only [hg]
          rw [Array.getD_eq_getD_getElem?] at tv
          cases he : a.tmps[t]? with
          | none => rfl
          | some v =>
            rw [he, Option.getD_some] at tv
            subst tv; rfl
        rw [hn]
        exact ⟨undef, F, r.put_same _ (u := .und) (v := undef) rfl, .inr ⟨hw, rfl⟩⟩
theorem exec_gop (ρ : Operand → Value) (all : List Oper) (o : Oper) : execOp ρ (Oper.gop all o).oper = execOp ρ o := by
  obtain ⟨dst, op, type, pos, after, guard⟩ := o
  cases op <;> rfl
def YR (P : Program) (R : World → World → Prop) (A : Array Oper) (o : Oper) (v : Value) (a : Act) (w : World) : Prop :=
  (Region.wanted o (yielded A a.tmps) = true ∧ ∀ w2, R w w2 → (execOp a.eval o).run P w2 = .ok (.value v) w2) ∨ (Region.wanted o (yielded A a.tmps) = false ∧ v = undef)
section
variable {R : World → World → Prop}
theorem YR.of_same (ht : ∀ a b c, R a b → R b c → R a c) {A : Array Oper} {o : Oper} {v : Value} {a a' : Act} {w w' : World} (hy : YR P R A o v a w) (g : R w w') (he : execOp a'.eval o = execOp a.eval o)
    (hw : Region.wanted o (yielded A a'.tmps) = Region.wanted o (yielded A a.tmps)) : YR P R A o v a' w' := by
  unfold YR at *
  rw [he, hw]
  exact hy.imp (fun ⟨h1, h2⟩ => ⟨h1, fun w2 g2 => h2 w2 (ht _ _ _ g g2)⟩) id
theorem YR.wpOp (hr : ∀ w, R w w) {A : Array Oper} {Q : Exit → Act → World → Prop} {i : Nat} {o : Oper} {v : Value} {a : Act} {w : World} (hi : A[i]? = some o) (hy : YR P R A o v a w) {K : Act → World → Prop} (h : K (a.put o.dst v) w) : wpOp P A Q i K a w := by
  unfold Go.wpOp
  simp only [hi]
  rcases hy with ⟨hw, hv⟩ | ⟨hw, rfl⟩
  · simp only [hw, if_true, Oper.wp, hv w (hr w), Oper.upon]; exact .inl h
  · simp only [hw, Bool.false_eq_true, if_false]; exact h
theorem wpOp_putR (hr : ∀ w, R w w) (ht : ∀ a b c, R a b → R b c → R a c) (hG : ∀ w w', Grown w w' → R w w') {A : Array Oper} {J : Nat → Bool} {E : Env} {j : Nat} {oi oj : Oper} {v : Value} (hj : A[j]? = some oj) (hap : oi.apart A oj = true) (hsi : ∀ cs b, oi.op ≠ .select cs b) (hsj : ∀ cs b, oj.op ≠ .select cs b)
    (hc : (∀ w w', R w w') ∨ J j = true ∨ (Val P oj ∧ ∀ ρ, Gr P (execOp ρ oj))) {K : Act → World → Prop} {a : Act} {w : World} (hy : YR P R A oi v a w)
    (h : wpOp P A (conc E Q) j (fun a' w' => (J j = true → Grown w w') ∧ K a' w') (a.put oi.dst v) w) :
    wpOp P A (conc E Q) j (fun a' w' => YR P R A oi v a' w' ∧ (J j = true → Grown w w') ∧ K (a'.put oi.dst v) w') a w := by
  obtain ⟨h1, h2, h3⟩ := Oper.apart_spec hap
  have keep : ∀ (a : Act) (u : Value) (w w' : World), R w w' → YR P R A oi v a w → YR P R A oi v (a.put oj.dst u) w' := fun a u w w' g hy =>
    hy.of_same ht g (execOp_put oi hsi a oj.dst u h3) (wanted_put oi a oj.dst u h3)
  have keepD : ∀ d w', R w w' → YR P R A oi v { a with defers := d :: a.defers } w' := fun d w' g => hy.of_same ht g rfl rfl
  unfold wpOp at *
  simp only [hj] at *
  rw [wanted_put oj a oi.dst v h1] at h
  split
  · rename_i hw
    simp only [hw, if_true] at h
    rcases h with h | ⟨_, a', w', hl⟩
    · refine .inl ?_
      unfold Oper.wp at *
      rw [execOp_put oj hsj a oi.dst v h1] at h
      cases hrun : (execOp a.eval oj).run P w with
      | ok n w' =>
        have key : (∃ u, n = .value u) ∨ ((∀ w w', R w w') ∨ J j = true) := by
          rcases hc with hc | hc | hc
          · exact .inr (.inl hc)
          · exact .inr (.inr hc)
          · exact .inl (hc.1 _ _ _ _ hrun)
        have k1 : ∀ {w''}, ((∀ w w', R w w') ∨ J j = true) → (J j = true → Grown w w'') → R w w'' := fun k g => k.elim (fun k => k _ _) (fun k => hG _ _ (g k))
        rw [hrun] at h
        cases n <;> simp only [Oper.upon] at h ⊢
        case value u =>
          have hR : R w w' := by
            rcases hc with hc | hc | hc
            · exact hc _ _
            · exact hG _ _ (h.1 hc)
            · exact hG _ _ (hc.2 _ _ _ _ hrun)
          exact ⟨keep a u w w' hR hy, h.1, by rw [← Act.put_comm a v u h2]; exact h.2⟩
        case skip =>
          rcases key with ⟨u, hu⟩ | key
          · cases hu
          · exact ⟨keep a _ w w' (k1 key h.1) hy, h.1, by rw [← Act.put_comm a v undef h2]; exact h.2⟩
        case defer d =>
          rcases key with ⟨u, hu⟩ | key
          · cases hu
          · refine ⟨keep _ _ w' w' (hr w') (keepD d w' (k1 key h.1)), h.1, ?_⟩
            rw [← Act.put_comm _ v undef h2, ← Act.put_defers]
            exact h.2
        case enter f args =>
          rcases key with ⟨u, hu⟩ | key
          · cases hu
          · refine Calls.mono h fun e w'' he => ?_
            cases e with
            | returned u => exact ⟨keep a u w w'' (k1 key he.1) hy, he.1, by rw [← Act.put_comm a v u h2]; exact he.2⟩
            | panicked c => exact he.elim
            | outgrown => exact he
        case row row args =>
          rcases key with ⟨u, hu⟩ | key
          · cases hu
          · exact Rows.mono h fun u w'' he => ⟨keep a u w w'' (k1 key he.1) hy, he.1, by rw [← Act.put_comm a v u h2]; exact he.2⟩
      | halt x w' =>
        rw [hrun] at h
        cases x <;> simp only [Oper.upon] at h ⊢
        exact h
    · exact hl.elim
  · rename_i hw
    simp only [hw] at h
    exact ⟨keep a _ w w (hr w) hy, h.1, by rw [← Act.put_comm a v undef h2]; exact h.2⟩
theorem anyR_first (hr : ∀ w, R w w) (ht : ∀ a b c, R a b → R b c → R a c) (hG : ∀ w w', Grown w w' → R w w') {A : Array Oper} {J : Nat → Bool} {E : Env} {i : Nat} {oi : Oper} {v : Value} {ab : List Nat} (hab : AbOk A ab) (hi : A[i]? = some oi) (hsel : ∀ (j : Nat) (o : Oper) cs b, A[j]? = some o → o.op ≠ .select cs b) :
    ∀ (fuel : Nat) (D : List Nat) (listed : Array Bool) (a : Act) (w : World), Hears A listed D → Closed A (· ∈ D) → i ∉ D →
      (∀ j oj, A[j]? = some oj → j ≠ i → j ∉ D → i ∉ edges A j → (nthN ab j).testBit i = false → oi.apart A oj = true ∧ ((∀ w w', R w w') ∨ J j = true ∨ (Val P oj ∧ ∀ ρ, Gr P (execOp ρ oj)))) →
      i ∈ Region.ready .any A listed → YR P R A oi v a w →
      wpAnyJ P A J (conc E Q) fuel (listed.setIfInBounds i true) (a.put oi.dst v) w → wpAnyJ P A J (conc E Q) (fuel + 1) listed a w := by
  intro fuel
  induction fuel with
  | zero =>
    intro D listed a w _ _ _ _ hr' hy H
    refine ⟨fun h => (by rw [h] at hr'; cases hr'), fun j hj => ?_⟩
    by_cases hji : j = i
    · subst hji; exact hy.wpOp hr hi ⟨fun _ => Grown.refl w, H⟩
    · have := ready_mono hj hji
      rw [H.1] at this
      cases this
  | succ fuel ih =>
    intro D listed a w hh hc hiD hfree hr' hy H
    refine ⟨fun h => (by rw [h] at hr'; cases hr'), fun j hj => ?_⟩
    by_cases hji : j = i
    · subst hji; exact hy.wpOp hr hi ⟨fun _ => Grown.refl w, H⟩
    · have h1 := H.2 j (ready_mono hj hji)
      obtain ⟨hjlt, hjD, hjE⟩ := hh.ready hj
      obtain ⟨_, oj, hoj, _⟩ := mem_ready.1 hj
      have hanc : (nthN ab j).testBit i = false := by
        cases hb : (nthN ab j).testBit i with
        | false => rfl
        | true => exact absurd (hab (fun k => k ∈ D) hc _ _ hb hjE) hiD
      obtain ⟨f1, f2⟩ := hfree j oj hoj hji hjD (fun he => hiD (hjE i he)) hanc
      have h2 := wpOp_putR hr ht hG (Q := Q) (E := E) hoj f1 (fun cs b => hsel i oi cs b hi) (fun cs b => hsel j oj cs b hoj) f2 hy h1
      refine wpOp_mono (fun a' w' h3 => ⟨h3.2.1, ih (D ++ [j]) (listed.setIfInBounds j true) a' w' (hh.set j) ?_ ?_ ?_ (ready_mono hr' (Ne.symm hji)) h3.1 ?_⟩) h2
      · intro k hk e he
        rcases List.mem_append.1 hk with h | h
        · exact List.mem_append_left _ (hc k h e he)
        · have : k = j := by simpa using h
          exact List.mem_append_left _ (hjE e (this ▸ he))
      · intro hm
        rcases List.mem_append.1 hm with h | h
        · exact hiD h
        · exact hji (Eq.symm (by simpa using h))
      · exact fun k ok hk hki hun he ha => hfree k ok hk hki (fun hm => hun (List.mem_append_left _ hm)) he ha
      · rw [Array.setIfInBounds_comm _ _ hji]
        exact h3.2.2
end
def freeG (P : Program) [Tys P] (A : Array Oper) (ab : List Nat) (J : Nat → Bool) (D : List Nat) (i : Nat) : Bool :=
  match A[i]? with
  | none => false
  | some oi => (List.range A.size).all fun j => Nat.beq j i || D.contains j || (nthN ab j).testBit i || match A[j]? with
      | some oj => oi.apart A oj && (J j || grB P oj.op)
      | none => true
def chkG (P : Program) [Tys P] (A : Array Oper) (ab : List Nat) (J : Nat → Bool) (D : List Nat) (i : Nat) : Bool :=
  Nat.blt i A.size && !D.contains i && ((edges A i).all fun x => D.contains x) && (D.all fun k => (edges A k).all fun e => D.contains e) && Region.noSelect A && rdB P (opAt A i).op && freeG P A ab J D i
theorem hears_next {A : Array Oper} {D : List Nat} {i : Nat} (hlt : i < A.size) (hiD : i ∉ D) (hDn : D.Nodup) (hDlt : ∀ k ∈ D, k < A.size) : (D ++ [i]).Nodup ∧ (∀ k ∈ D ++ [i], k < A.size) ∧ D.length + 1 ≤ A.size := by
  refine ⟨List.nodup_append.2 ⟨hDn, by simp, fun x hx y hy exy => ?_⟩, fun k hk => ?_, ?_⟩
  · have : y = i := by simpa using hy
    exact hiD (this ▸ exy ▸ hx)
  · rcases List.mem_append.1 hk with h | h
    · exact hDlt k h
    · have : k = i := by simpa using h
      exact this ▸ hlt
  · have := nodup_len A.size (i :: D) (List.nodup_cons.2 ⟨hiD, hDn⟩) (fun k hk => by
      rcases List.mem_cons.1 hk with h | h
      · exact h ▸ hlt
      · exact hDlt k h)
    simpa using this
theorem AnyL.ahead [T : Tys P] {A : Array Oper} {J : Nat → Bool} {D : List Nat} {ab : List Nat} (hab : AbOk A ab) (i : Nat) (hc : chkG P A ab J D i = true) (h : QS P (AnyL P A J (D ++ [i]) Q) [opAt A i] st) : AnyL P A J D Q st := by
  simp only [chkG, Bool.and_eq_true, List.all_eq_true, Bool.not_eq_true'] at hc
  obtain ⟨⟨⟨⟨⟨⟨c1, c2⟩, c3⟩, c4⟩, c5⟩, c6⟩, c7⟩ := hc
  have hlt : i < A.size := Nat.le_of_ble_eq_true c1
  have hiD : i ∉ D := fun hm => by rw [List.contains_iff_mem.2 hm] at c2; cases c2
  have hAi : A[i]? = some (A.getD i default) := by simp [Array.getD, hlt]
  cases h with
  | cons u hq k =>
  cases k with
  | nil k =>
  refine ⟨fun E ι F a w fuel listed r hs hl hDn hDlt hfuel => ?_⟩
  have hh : Hears A listed D := ⟨hs, hl⟩
  obtain ⟨n1, n2, n3⟩ := hears_next hlt hiD hDn hDlt
  have hrdy : i ∈ Region.ready .any A listed := hh.toReady hlt hiD (fun x hx => ⟨List.contains_iff_mem.1 (c3 x hx), hDlt x (List.contains_iff_mem.1 (c3 x hx))⟩)
  obtain ⟨fuel, rfl⟩ : ∃ f, fuel = f + 1 := ⟨fuel - 1, by omega⟩
  obtain ⟨hval, hrd⟩ := rdB_ok (o := A.getD i default) c6
  have ho : ∀ ρ, execOp ρ (opAt A i).oper = execOp ρ (A.getD i default) := fun ρ => exec_gop ρ _ _
  obtain ⟨v, F', hr, hrun⟩ := qg_step hq (fun ρ w n w' e => hval ρ w n w' (by rw [← ho]; exact e)) (by rw [ho]; exact hrd _) r
  have hset := hh.set i
  have h1 := k.out E ι F' _ w fuel _ hr hset.1 hset.2 n1 n2 (by simp; omega)
  refine anyR_first (R := Grown) Grown.refl (fun a b c => Grown.trans) (fun _ _ g => g) hab hAi (Region.noSelect_spec c5) fuel D listed a w hh (fun k hk e he => List.contains_iff_mem.1 (c4 k hk e he)) hiD ?_ hrdy ?_ h1
  · intro j oj hj hji hjD _ hanc
    have hjlt : j < A.size := (Array.getElem?_eq_some_iff.1 hj).1
    simp only [freeG, hAi, List.all_eq_true, List.mem_range, Bool.or_eq_true] at c7
    rcases c7 j hjlt with ((h | h) | h) | h
    · exact absurd (Nat.eq_of_beq_eq_true h) hji
    · exact absurd (List.contains_iff_mem.1 h) hjD
    · rw [h] at hanc; cases hanc
    · rw [hj] at h
      simp only [Bool.and_eq_true, Bool.or_eq_true] at h
      exact ⟨h.1, .inr (h.2.imp id grB_ok)⟩
  · have hw : (opAt A i).wanted a.tmps = Region.wanted (A.getD i default) (yielded A a.tmps) := wanted_prep A _ _
    rw [hw, ho] at hrun
    exact hrun.imp (fun ⟨x1, x2⟩ => ⟨x1, (hrd _ _ _ _ x2).2⟩) id
theorem AnyL.aheadC [T : Tys P] {A : Array Oper} {J : Nat → Bool} {D : List Nat} (i : Nat) (nt : Operand → Bool) (hn : ∀ x, nt x = true → ∃ k n, st.eval x = .t (.int k n)) (hcn : cnB P nt (opAt A i).op = true) (hc : chkF A D i = true) (h : QS P (AnyL P A J (D ++ [i]) Q) [opAt A i] st) : AnyL P A J D Q st := by
  simp only [chkF, Bool.and_eq_true, List.all_eq_true, Bool.not_eq_true'] at hc
  obtain ⟨⟨⟨⟨⟨c1, c2⟩, c3⟩, c4⟩, c5⟩, c6⟩ := hc
  have hlt : i < A.size := Nat.le_of_ble_eq_true c1
  have hiD : i ∉ D := fun hm => by rw [List.contains_iff_mem.2 hm] at c2; cases c2
  have hAi : A[i]? = some (A.getD i default) := by simp [Array.getD, hlt]
  cases h with
  | cons u hq k =>
  cases k with
  | nil k =>
  refine ⟨fun E ι F a w fuel listed r hs hl hDn hDlt hfuel => ?_⟩
  have hh : Hears A listed D := ⟨hs, hl⟩
  obtain ⟨n1, n2, n3⟩ := hears_next hlt hiD hDn hDlt
  have hrdy : i ∈ Region.ready .any A listed := hh.toReady hlt hiD (fun x hx => ⟨List.contains_iff_mem.1 (c3 x hx), hDlt x (List.contains_iff_mem.1 (c3 x hx))⟩)
  obtain ⟨fuel, rfl⟩ : ∃ f, fuel = f + 1 := ⟨fuel - 1, by omega⟩
  obtain ⟨hval, hcn⟩ := cnB_ok (o := A.getD i default) (ρ := a.eval) (fun x hx => by
    obtain ⟨k, n, e⟩ := hn x hx
    exact ⟨k, n, int_eval r e⟩) hcn
  have ho : ∀ ρ, execOp ρ (opAt A i).oper = execOp ρ (A.getD i default) := fun ρ => exec_gop ρ _ _
  obtain ⟨v, F', hr, hrun⟩ := qg_step hq (fun ρ w n w' e => hval ρ w n w' (by rw [← ho]; exact e)) (by rw [ho]; exact hcn.rd) r
  have hset := hh.set i
  have h1 := k.out E ι F' _ w fuel _ hr hset.1 hset.2 n1 n2 (by simp; omega)
  have hw : (opAt A i).wanted a.tmps = Region.wanted (A.getD i default) (yielded A a.tmps) := wanted_prep A _ _
  rw [hw, ho] at hrun
  refine anyR_first (R := fun _ _ => True) (fun _ => trivial) (fun _ _ _ _ _ => trivial) (fun _ _ _ => trivial) (AbOk.bef A) hAi (Region.noSelect_spec c4) fuel D listed a w hh (fun k hk e he => List.contains_iff_mem.1 (c6 k hk e he)) hiD ?_ hrdy (hrun.imp (fun ⟨x1, x2⟩ => ⟨x1, fun w2 _ => (hcn _ _ _ x2).2 w2⟩) id) h1
  intro j oj hj hji hjD hno hanc
  refine ⟨?_, .inl fun _ _ => trivial⟩
  have hjlt : j < A.size := (Array.getElem?_eq_some_iff.1 hj).1
  simp only [freeD, hAi, List.all_eq_true, List.mem_range, Bool.or_eq_true] at c5
  rcases c5 j hjlt with (h | h) | h
  · exact absurd (Nat.eq_of_beq_eq_true h) hji
  · exact absurd (List.contains_iff_mem.1 h) hjD
  · rw [hj] at h
    simp only [Bool.or_eq_true] at h
    exact h.resolve_left fun h => hno (List.contains_iff_mem.1 h)
end Go.Abs


set_option linter.unusedVariables false
set_option linter.unusedSimpArgs false
set_option linter.unusedSectionVars false
namespace Go.Abs
open Go
noncomputable section
variable {P : Program} {d : Option Tmp} {ty : TypeId} {L : List GOp} {ρ : Type}
theorem oper_conc {E : Env} {Q Q' : Exit → St → Prop} {o : Oper} {a : Act} {w : World} {K K' : Act → World → Prop} (h : ∀ a w, K a w → K' a w) (hk : o.wp P a w K (conc E Q)) : o.wp P a w K' (conc E Q') := by
  unfold Oper.wp at hk ⊢
  generalize (execOp a.eval o).run P w = res at hk ⊢
  cases res with
  | ok n w' =>
    cases n <;> simp only [Oper.upon] at hk ⊢ <;> first
      | exact h _ _ hk
      | exact Calls.mono hk (fun e w'' he => by cases e <;> first | exact h _ _ he | exact he.elim | (obtain ⟨a, w, he⟩ := he; exact he.elim))
      | exact Rows.mono hk (fun _ _ he => h _ _ he)
  | halt x w' => cases x <;> simp only [Oper.upon] at hk ⊢ <;> exact hk
theorem lwp_conc {E : Env} {Q Q' : Exit → St → Prop} (hq : ∀ e st, Q e st → Q' e st) : ∀ (L : List GOp) (a : Act) (w : World), lwp P L (conc E Q) a w → lwp P L (conc E Q') a w
  | [], a, w, h => by
    obtain ⟨ι, F, st, r, k⟩ := h
    exact ⟨ι, F, st, r, hq _ _ k⟩
  | g :: L, a, w, h => by
    simp only [lwp] at h ⊢
    split
    · rename_i hw
      rw [if_pos hw] at h
      exact oper_conc (lwp_conc hq L) h
    · rename_i hw
      rw [if_neg hw] at h
      exact lwp_conc hq L _ _ h
section
variable [SU] [Codes] [Dats] [FFs] {Q : Exit → ESt → Prop}
def ESt.only (s : ESt) (xs : List Tmp) : ESt := { s with env := fun t => bif memT xs t then s.env t else .un }
theorem toSt_only (s : ESt) (xs : List Tmp) : toSt (s.only xs) = (toSt s).only xs := by
  simp only [toSt, ESt.only, St.only]
  congr 1
  funext t
  cases memT xs t <;> simp [toV]
def callQ (s so : ESt) (f : FuncId) (us : List EV) (d : Option Tmp) (K : ESt → Option ρ) : List (Ctr P) → Option ρ
  | [] => none
  | c :: T => bif Nat.beq c.f f && c.quiet then (match fitO c so us with
    | some z => callB (c.F z.x z.y) fun res => K (s.put d (mkE c.rv res.1))
    | none => callQ s so f us d K T) else callQ s so f us d K T
def lendQ (s so : ESt) (f : FuncId) (us : List EV) (d : Option Tmp) (K : ESt → Option ρ) : List (Ctr P) → Option ρ
  | [] => none
  | c :: T => bif Nat.beq c.f f && (c.quiet && scalS c.rv) then (match fitO c (noS (borrows so.heap us)) (borrows so.heap us) with
    | some z => callB (c.F z.x z.y) fun res => K (s.put d (mkE c.rv res.1))
    | none => lendQ s so f us d K T) else lendQ s so f us d K T
def fitsQ (so : ESt) (f : FuncId) (us : List EV) : List (Ctr P) → Bool
  | [] => false
  | c :: T => (Nat.beq c.f f && (c.quiet && (fitO c so us).isSome)) || fitsQ so f us T
def runQS (wr : Opt) (T : List (Ctr P)) [Tys P] [TyX P] (s : ESt) (d : Option Tmp) (op : Op) (K : ESt → Option ρ) : Option ρ :=
  bif isPureX op then runOw P wr.wr (s.only (rds op)).eval s.heap op (fun u => K (s.put d u)) else
  match op with
  | .call c => match c.callee with
    | .value (.func f) => forceO (s.only (rds op)) c.args.toList fun us => match fitsQ (s.only (rds op)) f us T with
      | true => callQ s (s.only (rds op)) f us d K T
      | false => lendQ s (s.only (rds op)) f us d K T
    | _ => none
  | _ => none
variable {K0 : ESt → Prop}
theorem callQ_ok {s : ESt} {f : FuncId} {args : Array Operand} {ats : Array TypeId} {K : ESt → Option ρ} {res : ρ} (hK : ∀ s', K s' = some res → QST P K0 L s') : ∀ {T : List (Ctr P)},
    callQ s (s.only (rds (.call { callee := .value (.func f), args := args, argTypes := ats }))) f (args.toList.map (s.only (rds (.call { callee := .value (.func f), args := args, argTypes := ats }))).eval) d K T = some res →
    QST P K0 (⟨d, .call { callee := .value (.func f), args := args, argTypes := ats }, ty, none⟩ :: L) s
  | [], h => by cases h
  | c :: T, h => by
    unfold callQ at h
    cases hb : Nat.beq c.f f && c.quiet with
    | false => rw [hb] at h; exact callQ_ok hK (T := T) h
    | true =>
      rw [hb] at h
      simp only [Bool.and_eq_true] at hb
      obtain ⟨hb, hq⟩ := hb
      obtain rfl := Nat.eq_of_beq_eq_true hb
      simp only [cond_true] at h
      split at h
      · rename_i z hz
        have hh := callB_out h
        clear h
        obtain ⟨y, hF, h⟩ := hh
        have := c.fnok
        have q := quiet_call hq (args_fn (d := d) (ty := ty) (ats := ats)) hz hF
        rw [toSt_only] at q
        refine ⟨QS.q q ?_⟩
        have := (hK _ h).out
        rwa [toSt_put] at this
      · exact callQ_ok hK (T := T) h
theorem lendQ_ok {s : ESt} {f : FuncId} {args : Array Operand} {ats : Array TypeId} {K : ESt → Option ρ} {res : ρ} (hK : ∀ s', K s' = some res → QST P K0 L s') : ∀ {T : List (Ctr P)},
    lendQ s (s.only (rds (.call { callee := .value (.func f), args := args, argTypes := ats }))) f (args.toList.map (s.only (rds (.call { callee := .value (.func f), args := args, argTypes := ats }))).eval) d K T = some res →
    QST P K0 (⟨d, .call { callee := .value (.func f), args := args, argTypes := ats }, ty, none⟩ :: L) s
  | [], h => by cases h
  | c :: T, h => by
    unfold lendQ at h
    cases hb : Nat.beq c.f f && (c.quiet && scalS c.rv) with
    | false => rw [hb] at h; exact lendQ_ok hK (T := T) h
    | true =>
      rw [hb] at h
      simp only [Bool.and_eq_true] at hb
      obtain ⟨hb, hq, hs⟩ := hb
      obtain rfl := Nat.eq_of_beq_eq_true hb
      simp only [cond_true] at h
      split at h
      · rename_i z hz
        have hh := callB_out h
        clear h
        obtain ⟨y, hF, h⟩ := hh
        have q := lend_call (d := d) (ty := ty) (ats := ats) hq hs hz hF
        rw [toSt_only] at q
        refine ⟨QS.q q ?_⟩
        have := (hK _ h).out
        rwa [toSt_put] at this
      · exact lendQ_ok hK (T := T) h
theorem runQS_ok {wr : Opt} {T : List (Ctr P)} [Tys P] [TyX P] {s : ESt} {op : Op} {K : ESt → Option ρ} {res : ρ} (hK : ∀ s', K s' = some res → QST P K0 L s') (h : runQS wr T s d op K = some res) : QST P K0 (⟨d, op, ty, none⟩ :: L) s := by
  unfold runQS at h
  cases hp : isPureX op with
  | true =>
    rw [hp] at h
    simp only [cond_true] at h
    obtain ⟨u, h1, h2⟩ := runOw_ok (s := s.only (rds op)) h
    refine ⟨QS.o (u := toV s.heap.len u) (by rw [← toSt_only]; exact h1 d ty) ?_⟩
    have := (hK _ h2).out
    rwa [toSt_put] at this
  | false =>
    rw [hp] at h
    simp only [cond_false] at h
    split at h
    · rename_i c
      obtain ⟨callee, args, ats⟩ := c
      split at h
      · rename_i f hc
        simp only at hc
        subst hc
        rw [forceO_eq] at h
        split at h
        · exact callQ_ok hK h
        · exact lendQ_ok hK h
      · cases h
    · cases h
def runQ (wr : Opt) (T : List (Ctr P)) [Tys P] [TyX P] (K : ESt → Option ρ) : List GOp → ESt → Option ρ
  | [], s => K s
  | ⟨d, op, ty, none⟩ :: L, s => runQS wr T s d op (runQ wr T K L)
  | ⟨d, op, ty, some (some t, w)⟩ :: L, s => match s.env t with
    | .und => runQ wr T K L (s.put d .und)
    | .b b => bif Nat.blt t s.nt then
        (bif w then (bif b then runQS wr T (s.put (some t) (.b true)) d op (runQ wr T K L) else runQ wr T K L ((s.put (some t) (.b false)).put d .und))
         else (bif b then runQ wr T K L ((s.put (some t) (.b true)).put d .und) else runQS wr T (s.put (some t) (.b false)) d op (runQ wr T K L))) else none
    | _ => none
  | ⟨_, _, _, some (none, _)⟩ :: _, _ => none
theorem runQ_ok {wr : Opt} {T : List (Ctr P)} [Tys P] [TyX P] {K : ESt → Option ρ} {res : ρ} (hK : ∀ s', K s' = some res → K0 s') : ∀ (L : List GOp) (s : ESt), runQ wr T K L s = some res → QST P K0 L s
  | [], s, h => ⟨QS.nil ⟨s, rfl, hK _ h⟩⟩
  | ⟨d, op, ty, none⟩ :: L, s, h => runQS_ok (runQ_ok hK L) h
  | ⟨d, op, ty, some (some t, w)⟩ :: L, s, h => by
    unfold runQ at h
    split at h
    · rename_i hu
      have hu := envT hu
      simp only [toV] at hu
      refine ⟨QS.gu hu ?_⟩
      have := (runQ_ok hK L _ h).out
      rwa [toSt_put] at this
    · rename_i b hb
      have hb := envT hb
      simp only [toV] at hb
      have hh := bif_none h
      clear h
      obtain ⟨hlt, h⟩ := hh
      have hlt' : Nat.blt t (toSt s).nt = true := hlt
      cases w with
      | true =>
        simp only [cond_true] at h
        obtain ⟨h1, h2⟩ := bifs h
        refine ⟨QS.splitG (w := true) rfl hb hlt' (fun e => ?_) (fun e => ?_)⟩
        · have := (runQS_ok (ty := ty) (runQ_ok hK L) (h1 e)).out
          rw [toSt_put] at this
          exact QS.gy (by rw [put_env_eq, hlt']; rfl) hlt' this
        · have := (runQ_ok hK L _ (h2 e)).out
          rw [toSt_put, toSt_put] at this
          exact QS.gn (by rw [put_env_eq, hlt']; rfl) hlt' this
      | false =>
        simp only [cond_false] at h
        obtain ⟨h1, h2⟩ := bifs h
        refine ⟨QS.splitG (w := false) rfl hb hlt' (fun e => ?_) (fun e => ?_)⟩
        · have := (runQ_ok hK L _ (h1 e)).out
          rw [toSt_put, toSt_put] at this
          exact QS.gn (by rw [put_env_eq, hlt']; rfl) hlt' this
        · have := (runQS_ok (ty := ty) (runQ_ok hK L) (h2 e)).out
          rw [toSt_put] at this
          exact QS.gy (by rw [put_env_eq, hlt']; rfl) hlt' this
    · cases h
  | ⟨_, _, _, some (none, _)⟩ :: _, _, h => by cases h
def quietIn (f : FuncId) : List (Ctr P) → Bool
  | [] => false
  | c :: T => (Nat.beq c.f f && c.quiet) || quietIn f T
def quietOp (T : List (Ctr P)) (op : Op) : Bool := isPureX op || (match op with
  | .call c => match c.callee with
    | .value (.func f) => quietIn f T
    | _ => false
  | _ => false)
def planOf (T : List (Ctr P)) : List Oper → Nat → List (Nat × Bool)
  | [], 0 => []
  | [], n => [(n, true)]
  | o :: l, n => bif quietOp T o.op then planOf T l (n + 1) else (bif Nat.beq n 0 then (1, false) :: planOf T l 0 else (n, true) :: (1, false) :: planOf T l 0)
def planOk (A : Array Oper) : Nat → List (Nat × Bool) → Bool
  | k, [] => allIn A.size (List.range k)
  | k, (n, true) :: l => chk A (befL A) (List.range k) ((List.range n).map (k + ·)) && planOk A (k + n) l
  | k, (_, false) :: l => chk1 A (befL A) (List.range k) k && planOk A (k + 1) l
theorem QS.mono {K K' : St → Prop} (hk : ∀ st, K st → K' st) : ∀ {L : List GOp} {st : St}, QS P K L st → QS P K' L st := fun h => by
  induction h with
  | nil h => exact .nil (hk _ h)
  | cons u h k ih => exact .cons u h ih
def runPlan (wr : Opt) (T : List (Ctr P)) [Tys P] [TyE P] [TyX P] (A : Array Oper) (K : ESt → Option ρ) : List (Nat × Bool) → Nat → ESt → Option ρ
  | [], k, s => K s
  | (n, true) :: l, k, s => runQ wr T (runPlan wr T A K l (k + n)) (((List.range n).map (k + ·)).map (opAt A)) s
  | (_, false) :: l, k, s => runL wr T (runPlan wr T A K l (k + 1)) [opAt A k] s
theorem runPlan_ok {wr : Opt} {T : List (Ctr P)} [Tys P] [TyE P] [TyX P] {A : Array Oper} {K : ESt → Option ρ} {res : ρ} (hK : ∀ s', K s' = some res → Q .normal s') : ∀ (l : List (Nat × Bool)) (k : Nat) (s : ESt), planOk A k l = true → runPlan wr T A K l k s = some res →
    AnyL P A (fun _ => false) (List.range k) (liftQ Q) (toSt s)
  | [], k, s, hc, h => AnyL.done hc ⟨s, rfl, hK _ h⟩
  | (n, true) :: l, k, s, hc, h => by
    simp only [planOk, Bool.and_eq_true] at hc
    refine AnyL.quiet (AbOk.bef A) _ hc.1 (QS.mono ?_ (runQ_ok (K0 := fun s => runPlan wr T A K l (k + n) s = some res) (fun s' h => h) _ _ h).out)
    rintro st ⟨s', rfl, h'⟩
    have := runPlan_ok hK l (k + n) s' hc.2 h'
    rwa [List.range_add] at this
  | (_, false) :: l, k, s, hc, h => by
    simp only [planOk, Bool.and_eq_true] at hc
    have hs := (runL_ok (Q := fun e s => match e with | .normal => runPlan wr T A K l (k + 1) s = some res | _ => False) (fun s' h => h) _ _ h).out
    refine AnyL.step (AbOk.bef A) k hc.1 (.inl ⟨rfl, ⟨fun E ι F a w r => ?_⟩⟩)
    have := hs.out E ι F a w r
    refine lwp_conc ?_ _ _ _ this
    rintro e st ⟨s', rfl, h'⟩
    cases e <;> first | exact h'.elim | skip
    have := runPlan_ok hK l (k + 1) s' hc.2 h'
    rwa [List.range_succ] at this
def brO {ρ : Type} (x y : Option ρ) : Option ρ := @ite _ (x = y) (Classical.propDecidable _) x none
theorem brO_out {ρ : Type} {x y : Option ρ} {r : ρ} (h : brO x y = some r) : x = some r ∧ y = some r := by
  unfold brO at h
  split at h
  · rename_i e; exact ⟨h, e ▸ h⟩
  · cases h
def isI : EV → Bool
  | .i _ _ => true
  | _ => false
def isTmp : Operand → Bool
  | .tmp _ => true
  | _ => false
def growJ (T : List (Ctr P)) (A : Array Oper) (i : Nat) : Bool := match (opAt A i).g with
  | none => isGrow T (opAt A i).op
  | some _ => false
def findFl (P : Program) [Tys P] (A : Array Oper) (ab : List Nat) (J : Nat → Bool) (D : List Nat) : List Nat → Nat × Nat
  | [] => (0, 0)
  | i :: l => bif cnB P isTmp (opAt A i).op && chkF A D i then (1, i) else (bif chkG P A ab J D i then (2, i) else findFl P A ab J D l)
def quietAhead (T : List (Ctr P)) (A : Array Oper) : List Nat → List Nat
  | [] => []
  | i :: l => bif quietOp T (opAt A i).op then i :: quietAhead T A l else []
def isNl : List Nat → Bool
  | [] => true
  | _ => false
def planF (T : List (Ctr P)) [Tys P] (A : Array Oper) (ab : List Nat) : Nat → List Nat → List Nat → Pn
  | 0, _, _ => .no
  | n + 1, D, l => match l with
    | [] => .nil
    | i :: m => bif !(isNl (quietAhead T A l)) && chk A ab D (quietAhead T A l) then .qu (quietAhead T A l) (planF T A ab n (D ++ quietAhead T A l) (l.drop (quietAhead T A l).length))
      else (bif chk1 A ab D i then .on i (planF T A ab n (D ++ [i]) m) else (match findFl P A ab (growJ T A) D l with
        | (1, j) => .fl j (planF T A ab n (D ++ [j]) (l.filter fun k => !Nat.beq k j))
        | (2, j) => .rd j (planF T A ab n (D ++ [j]) (l.filter fun k => !Nat.beq k j))
        | _ => bif Nat.ble l.length 12 then (rdyL A D).foldr (fun j q => .br j (planF T A ab n (D ++ [j]) (l.filter fun k => !Nat.beq k j)) q) .no else .no))
def altOf : Pn → List Nat
  | .br i _ q => i :: altOf q
  | _ => []
def planOkF (P : Program) [Tys P] (T : List (Ctr P)) (A : Array Oper) (ab : List Nat) : Pn → Bool → List Nat → Bool
  | .nil, b, D => !b && allIn A.size D
  | .fl i p, b, D => !b && (chkF A D i && planOkF P T A ab p false (D ++ [i]))
  | .rd i p, b, D => !b && (chkG P A ab (growJ T A) D i && planOkF P T A ab p false (D ++ [i]))
  | .qu X p, b, D => !b && (chk A ab D X && planOkF P T A ab p false (D ++ X))
  | .on i p, b, D => !b && (chk1 A ab D i && planOkF P T A ab p false (D ++ [i]))
  | .br i p q, b, D => (b || lbeq (i :: altOf q) (rdyL A D)) && (planOkF P T A ab p false (D ++ [i]) && planOkF P T A ab q true D)
  | .no, b, _ => b
def runOne (wr : Opt) (T : List (Ctr P)) [Tys P] [TyE P] [TyX P] (A : Array Oper) (i : Nat) (K : ESt → Option ρ) (s : ESt) : Option ρ :=
  bif growJ T A i then runG T K (opAt A i) s else runL wr T K [opAt A i] s
def runPlanF (wr : Opt) (T : List (Ctr P)) [Tys P] [TyE P] [TyX P] (A : Array Oper) (K : ESt → Option ρ) : Pn → ESt → Option ρ
  | .nil, s => K s
  | .fl i p, s => bif cnB P (fun x => isI (s.eval x)) (opAt A i).op then runQ wr T (runPlanF wr T A K p) [opAt A i] s else none
  | .rd i p, s => runQ wr T (runPlanF wr T A K p) [opAt A i] s
  | .qu X p, s => runQ wr T (runPlanF wr T A K p) (X.map (opAt A)) s
  | .on i p, s => runOne wr T A i (runPlanF wr T A K p) s
  | .br i p .no, s => runOne wr T A i (runPlanF wr T A K p) s
  | .br i p q, s => brO (runOne wr T A i (runPlanF wr T A K p) s) (runPlanF wr T A K q s)
  | .no, _ => none
theorem runOne_ok {wr : Opt} {T : List (Ctr P)} [Tys P] [TyE P] [TyX P] {A : Array Oper} {i : Nat} {K : ESt → Option ρ} {s : ESt} {res : ρ} {K1 : St → Prop} (h : runOne wr T A i K s = some res) (hK : ∀ s', K s' = some res → K1 (toSt s')) :
    (growJ T A i = false ∧ SL P [opAt A i] (normalQ K1) (toSt s)) ∨ SLG P (opAt A i) K1 (toSt s) := by
  unfold runOne at h
  cases hg : growJ T A i with
  | true =>
    rw [hg] at h
    have h1 := (runG_ok (K1 := fun s => K s = some res) (fun s' h => h) h).out
    refine .inr ⟨fun E ι F a w r => ?_⟩
    obtain ⟨e, h2⟩ := h1.out E ι F a w r
    refine ⟨e, Oper.wp_mono (fun a' w' ⟨g, ι', F', st', r', s', e1, hk⟩ => ⟨g, ι', F', st', r', ?_⟩) h2⟩
    subst e1
    exact hK s' hk
  | false =>
    rw [hg] at h
    have hs := (runL_ok (Q := fun e s => match e with | .normal => K s = some res | _ => False) (fun s' h => h) _ _ h).out
    refine .inl ⟨rfl, ⟨fun E ι F a w r => ?_⟩⟩
    have := hs.out E ι F a w r
    refine lwp_conc ?_ _ _ _ this
    rintro e st ⟨s', rfl, h'⟩
    cases e <;> first | exact h'.elim | skip
    exact hK s' h'
theorem lbeq_eq {a b : List Nat} (h : lbeq a b = true) : a = b := lbeq_iff.1 h
theorem runPlanF_ok {wr : Opt} {T : List (Ctr P)} [Tys P] [TyE P] [TyX P] {A : Array Oper} {ab : List Nat} (hab : AbOk A ab) {K : ESt → Option ρ} {res : ρ} (hK : ∀ s', K s' = some res → Q .normal s') : ∀ (p : Pn) (D : List Nat) (s : ESt),
    (planOkF P T A ab p false D = true → runPlanF wr T A K p s = some res → AnyL P A (growJ T A) D (liftQ Q) (toSt s)) ∧
    (planOkF P T A ab p true D = true → p ≠ .no → runPlanF wr T A K p s = some res → ∀ e ∈ altOf p, (growJ T A e = false ∧ SL P [opAt A e] (normalQ (AnyL P A (growJ T A) (D ++ [e]) (liftQ Q))) (toSt s)) ∨ SLG P (opAt A e) (AnyL P A (growJ T A) (D ++ [e]) (liftQ Q)) (toSt s))
  | .nil, D, s => by
    refine ⟨fun hc h => ?_, fun hc => by cases hc⟩
    simp only [planOkF, Bool.and_eq_true] at hc
    exact AnyL.done hc.2 ⟨s, rfl, hK _ h⟩
  | .no, D, s => ⟨fun hc => (by cases hc), fun _ h => absurd rfl h⟩
  | .fl i p, D, s => by
    refine ⟨fun hc h => ?_, fun hc => by simp [planOkF] at hc⟩
    simp only [planOkF, Bool.and_eq_true] at hc
    unfold runPlanF at h
    have hh := bif_none h
    clear h
    obtain ⟨hcn, h⟩ := hh
    refine AnyL.aheadC i (fun x => isI (s.eval x)) (fun x hx => ?_) hcn hc.2.1 (QS.mono ?_ (runQ_ok (K0 := fun s => runPlanF wr T A K p s = some res) (fun s' h => h) _ _ h).out)
    · cases he : s.eval x <;> rw [he] at hx <;> first | cases hx | skip
      rename_i k n
      exact ⟨k, n, eval_eq he rfl⟩
    · rintro st ⟨s', rfl, h'⟩
      exact (runPlanF_ok hab hK p (D ++ [i]) s').1 hc.2.2 h'
  | .rd i p, D, s => by
    refine ⟨fun hc h => ?_, fun hc => by simp [planOkF] at hc⟩
    simp only [planOkF, Bool.and_eq_true] at hc
    unfold runPlanF at h
    refine AnyL.ahead hab i hc.2.1 (QS.mono ?_ (runQ_ok (K0 := fun s => runPlanF wr T A K p s = some res) (fun s' h => h) _ _ h).out)
    rintro st ⟨s', rfl, h'⟩
    exact (runPlanF_ok hab hK p (D ++ [i]) s').1 hc.2.2 h'
  | .qu X p, D, s => by
    refine ⟨fun hc h => ?_, fun hc => by simp [planOkF] at hc⟩
    simp only [planOkF, Bool.and_eq_true] at hc
    unfold runPlanF at h
    refine AnyL.quiet hab _ hc.2.1 (QS.mono ?_ (runQ_ok (K0 := fun s => runPlanF wr T A K p s = some res) (fun s' h => h) _ _ h).out)
    rintro st ⟨s', rfl, h'⟩
    exact (runPlanF_ok hab hK p (D ++ X) s').1 hc.2.2 h'
  | .on i p, D, s => by
    refine ⟨fun hc h => ?_, fun hc => by simp [planOkF] at hc⟩
    simp only [planOkF, Bool.and_eq_true] at hc
    unfold runPlanF at h
    exact AnyL.step hab i hc.2.1 (runOne_ok h fun s' h' => (runPlanF_ok hab hK p (D ++ [i]) s').1 hc.2.2 h')
  | .br i p q, D, s => by
    have key : ∀ b, planOkF P T A ab (.br i p q) b D = true → runPlanF wr T A K (.br i p q) s = some res → ∀ e ∈ altOf (.br i p q), (growJ T A e = false ∧ SL P [opAt A e] (normalQ (AnyL P A (growJ T A) (D ++ [e]) (liftQ Q))) (toSt s)) ∨ SLG P (opAt A e) (AnyL P A (growJ T A) (D ++ [e]) (liftQ Q)) (toSt s) := by
      intro b hc h e he
      simp only [planOkF, Bool.and_eq_true] at hc
      by_cases hq : q = .no
      · subst hq
        simp only [altOf, List.mem_cons, List.not_mem_nil, or_false] at he
        subst he
        exact runOne_ok h fun s' h' => (runPlanF_ok hab hK p (D ++ [e]) s').1 hc.2.1 h'
      · have h : brO (runOne wr T A i (runPlanF wr T A K p) s) (runPlanF wr T A K q s) = some res := by
          cases q <;> first | exact absurd rfl hq | exact h
        obtain ⟨h1, h2⟩ := brO_out h
        simp only [altOf, List.mem_cons] at he
        rcases he with rfl | he
        · exact runOne_ok h1 fun s' h' => (runPlanF_ok hab hK p (D ++ [e]) s').1 hc.2.1 h'
        · exact (runPlanF_ok hab hK q D s).2 hc.2.2 hq h2 e he
    refine ⟨fun hc h => ?_, fun hc _ h => key true hc h⟩
    have hc' := hc
    simp only [planOkF, Bool.false_or, Bool.and_eq_true] at hc'
    have he := lbeq_eq hc'.1
    refine AnyL.branch (by rw [← he]; rfl) fun e hm => key false hc h e ?_
    rw [← he] at hm
    exact hm
def planFA (T : List (Ctr P)) [Tys P] (A : Array Oper) (ab : List Nat) : Pn := planF T A ab (A.size + 1) [] (List.range A.size)
def isNo : Pn → Bool
  | .no => true
  | _ => false
def runRegB (wr : Opt) (T : List (Ctr P)) [Tys P] [TyE P] [TyX P] (A : Array Oper) (draw : Bool) (K : ESt → Option ρ) (s : ESt) : Option ρ :=
  bif draw then (bif isNo wr.pl then (bif planOk A 0 (planOf T A.toList 0) then runPlan wr T A K (planOf T A.toList 0) 0 s else
    (bif planOkF P T A (befL A) (planFA T A (befL A)) false [] then runPlanF wr T A K (planFA T A (befL A)) s else none))
    else (bif abChk A wr.ab && planOkF P T A wr.ab wr.pl false [] then runPlanF wr T A K wr.pl s else none)) else runL wr T K (prep A) s
theorem runRegB_ok {wr : Opt} {T : List (Ctr P)} [Tys P] [TyE P] [TyX P] [m : Mixed P] {A : Array Oper} {draw : Bool} {K : ESt → Option ρ} {res : ρ} {id : Nat} {s : ESt} (hK : ∀ s', K s' = some res → Q .normal s') (h : runRegB wr T A draw K s = some res) : SCT P (.region id A draw) Q s := by
  unfold runRegB at h
  cases draw with
  | true =>
    simp only [cond_true] at h
    cases hno : isNo wr.pl with
    | false =>
      rw [hno] at h
      simp only [cond_false] at h
      have hh := bif_none h
      clear h
      obtain ⟨hc, h⟩ := hh
      simp only [Bool.and_eq_true] at hc
      exact ⟨SC.draw m.m ((runPlanF_ok (AbOk.of hc.1) hK _ [] s).1 hc.2 h)⟩
    | true =>
    rw [hno] at h
    simp only [cond_true] at h
    cases hp : planOk A 0 (planOf T A.toList 0) with
    | true =>
      rw [hp] at h
      exact ⟨SC.draw m.m (runPlan_ok hK _ 0 s hp h)⟩
    | false =>
      rw [hp] at h
      simp only [cond_false] at h
      have hh := bif_none h
      clear h
      obtain ⟨hc, h⟩ := hh
      exact ⟨SC.draw m.m ((runPlanF_ok (AbOk.bef A) hK _ [] s).1 hc h)⟩
  | false => exact ⟨SC.region (runL_ok hK _ _ h).out⟩
def ESt.mdd (s : ESt) (l : List Nat) : ESt := { s with heap := { s.heap with md := l } }
theorem WeakT.up {s : ESt} {k : Nat} {e : TypeId} {i j : Nat} {f : SU.D i → SU.D j} {l : List (SU.D i)} (ho : s.heap.obj k = .lst ⟨e, .st i, l⟩) (h : Codes.upF i j = some f) : WeakT s (s.on (s.heap.set k (.lst ⟨e, .st j, l.map f⟩))) := by
  unfold WeakT
  rw [toSt_up ho h]
  exact WeakT.refl s
def tellO (s : ESt) (K : ESt → Option ρ) : List (Nat × Nat) → Option ρ
  | [] => K s
  | (t, j) :: l => match s.env t with
    | .sfull k [] => (match s.heap.obj k with
      | .lst ⟨e, .st i, x⟩ => (match Codes.upF i j with
        | some f => tellO (s.on (s.heap.set k (.lst ⟨e, .st j, x.map f⟩))) K l
        | none => none)
      | _ => none)
    | _ => none
theorem tellO_out {K : ESt → Option ρ} {res : ρ} : ∀ (l : List (Nat × Nat)) (s : ESt), tellO s K l = some res → ∃ s', WeakT s s' ∧ K s' = some res
  | [], s, h => ⟨s, WeakT.refl s, h⟩
  | (t, j) :: l, s, h => by
    unfold tellO at h
    split at h
    · split at h
      · rename_i ho
        split at h
        · rename_i f hf
          obtain ⟨s', w, h'⟩ := tellO_out l _ h
          exact ⟨s', (WeakT.up ho hf).trans w, h'⟩
        · cases h
      · cases h
    · cases h
def runReg (wr : Opt) (T : List (Ctr P)) [Tys P] [TyE P] [TyX P] (A : Array Oper) (draw : Bool) (K : ESt → Option ρ) (s : ESt) : Option ρ :=
  tellO (s.mdd wr.md) (runRegB wr T A draw K) wr.rt
theorem runReg_ok {wr : Opt} {T : List (Ctr P)} [Tys P] [TyE P] [TyX P] [m : Mixed P] {A : Array Oper} {draw : Bool} {K : ESt → Option ρ} {res : ρ} {id : Nat} {s : ESt} (hK : ∀ s', K s' = some res → Q .normal s') (h : runReg wr T A draw K s = some res) : SCT P (.region id A draw) Q s := by
  obtain ⟨s', w, h⟩ := tellO_out _ _ h
  have := SCT.weak w (runRegB_ok (id := id) hK h)
  exact ⟨this.out⟩
end
end
end Go.Abs


set_option linter.unusedVariables false
set_option linter.unusedSimpArgs false
set_option linter.unusedSectionVars false
namespace Go.Abs
open Go
noncomputable section
variable {P : Program}
section
variable {D X : Type}
def iterO (f : D → Option (D ⊕ X)) : Nat → D → Option X
  | 0, _ => none
  | n + 1, y => match f y with
    | some (.inl z) => iterO f n z
    | some (.inr x) => some x
    | none => none
theorem iterO_up {f : D → Option (D ⊕ X)} : ∀ {n : Nat} {y : D} {x : X}, iterO f n y = some x → ∀ m, n ≤ m → iterO f m y = some x
  | 0, _, _, h, _, _ => by cases h
  | n + 1, y, x, h, 0, hm => by omega
  | n + 1, y, x, h, m + 1, hm => by
    simp only [iterO] at h ⊢
    split at h
    · exact iterO_up h m (by omega)
    · exact h
    · cases h
open Classical in
noncomputable def whileO (f : D → Option (D ⊕ X)) (y : D) : Option X := if h : ∃ n x, iterO f n y = some x then some (Classical.choose (Classical.choose_spec h)) else none
theorem whileO_iff {f : D → Option (D ⊕ X)} {y : D} {x : X} : whileO f y = some x ↔ ∃ n, iterO f n y = some x := by
  unfold whileO
  constructor
  · intro h
    split at h
    · rename_i hh
      injection h with h
      subst h
      exact ⟨_, Classical.choose_spec (Classical.choose_spec hh)⟩
    · cases h
  · rintro ⟨n, hn⟩
    have hh : ∃ n x, iterO f n y = some x := ⟨n, x, hn⟩
    rw [dif_pos hh]
    have h2 := Classical.choose_spec (Classical.choose_spec hh)
    have a := iterO_up h2 (max n (Classical.choose hh)) (Nat.le_max_right _ _)
    have b := iterO_up hn (max n (Classical.choose hh)) (Nat.le_max_left _ _)
    rw [a] at b
    exact b
theorem whileO_eq (f : D → Option (D ⊕ X)) (y : D) : whileO f y = match f y with
    | some (.inl z) => whileO f z
    | some (.inr x) => some x
    | none => none := by
  have key : ∀ x, whileO f y = some x ↔ (match f y with
    | some (.inl z) => whileO f z
    | some (.inr x) => some x
    | none => none) = some x := by
    intro x
    rw [whileO_iff]
    cases hf : f y with
    | none =>
      simp only
      constructor
      · rintro ⟨n, hn⟩; cases n <;> simp [iterO, hf] at hn
      · intro h; cases h
    | some v =>
      cases v with
      | inl z =>
        simp only
        rw [whileO_iff]
        constructor
        · rintro ⟨n, hn⟩
          cases n with
          | zero => cases hn
          | succ n => simp only [iterO, hf] at hn; exact ⟨n, hn⟩
        · rintro ⟨n, hn⟩; exact ⟨n + 1, by simp only [iterO, hf]; exact hn⟩
      | inr x' =>
        simp only
        constructor
        · rintro ⟨n, hn⟩
          cases n with
          | zero => cases hn
          | succ n => simp only [iterO, hf] at hn; exact hn
        · intro h; exact ⟨1, by simp only [iterO, hf]; exact h⟩
  cases h1 : whileO f y with
  | some x => exact ((key x).1 h1).symm
  | none =>
    cases h2 : (match f y with
    | some (.inl z) => whileO f z
    | some (.inr x) => some x
    | none => none) with
    | none => rfl
    | some x => rw [(key x).2 h2] at h1; cases h1
def sumO {ρ A B : Type} (f : A → Option ρ) (g : B → Option ρ) (x : A ⊕ B) : Option ρ := match x with
  | .inl a => f a
  | .inr b => g b
def jpO {ρ : Type} (f : D → Option ρ) (g : (D → Option ρ) → Option ρ) : Option ρ := g f
end
inductive Ek where
  | ret
  | exit (n : Nat)
def Ek.ex : Ek → Exit
  | .ret => .ret
  | .exit n => .exit n
def Ek.is : Ek → Exit → Bool
  | .ret, .ret => true
  | .exit n, .exit m => Nat.beq n m
  | _, _ => false
theorem Ek.is_out {k : Ek} {e : Exit} (h : k.is e = true) : e = k.ex := by
  cases k <;> cases e <;> first | rfl | (cases h; done) | (obtain rfl := Nat.eq_of_beq_eq_true h; rfl)
inductive Ann where
  | o
  | w
  | x (o : Opt)
  | seq (a b : Ann)
  | join (sh : SSh) (a b : Ann)
  | cond (a b : Ann)
  | block (a : Ann)
  | loop (sh : SSh) (ex : List (Ek × SSh)) (a : Ann)
def Ann.wr : Ann → Opt
  | .w => { wr := true }
  | .x q => q
  | _ => {}
section
variable [SU] [Codes] [Dats] [FFs]
@[reducible] def SSh.D (sh : SSh) : Type := DT sh.sl × DO sh.os
@[reducible] def ExD : List (Ek × SSh) → Type
  | [] => Empty
  | [a] => a.2.D
  | a :: b :: l => a.2.D ⊕ ExD (b :: l)
variable {ρ : Type}
def up1 (s : ESt) : OSh → Option Nat → ESt
  | .lst _ (.st j), some k => (match s.heap.obj k with
    | .lst ⟨e, .st i, l⟩ => (match Codes.upF i j with
      | some f => s.on (s.heap.set k (.lst ⟨e, .st j, l.map f⟩))
      | none => s)
    | _ => s)
  | _, _ => s
def upS : List OSh → List (Option Nat) → ESt → ESt
  | [], _, s => s
  | _ :: _, [], s => s
  | o :: os, k :: ks, s => upS os ks (up1 s o k)
theorem up1_ok (s : ESt) (o : OSh) (k : Option Nat) : toSt (up1 s o k) = toSt s := by
  unfold up1
  split
  · split
    · rename_i ho
      split
      · rename_i f hf
        exact toSt_up ho hf
      · rfl
    · rfl
  · rfl
theorem upS_ok : ∀ (os : List OSh) (ks : List (Option Nat)) (s : ESt), toSt (upS os ks s) = toSt s
  | [], _, _ => rfl
  | _ :: _, [], _ => rfl
  | o :: os, k :: ks, s => (upS_ok os ks (up1 s o k)).trans (up1_ok s o k)
def meetO (nt lo : Nat) (s : ESt) (sh : SSh) (K : sh.D → Option ρ) : Option ρ := bif Nat.beq s.nt nt && Nat.beq s.heap.lo lo then (match exS (upS sh.os (ksFor s sh) s) (ksFor s sh) sh with
  | some z => K z
  | none => none) else none
theorem meetO_out {nt lo : Nat} {s : ESt} {sh : SSh} {K : sh.D → Option ρ} {r : ρ} (h : meetO nt lo s sh K = some r) : ∃ z, WeakT s (mkS nt lo sh z.1 z.2) ∧ K z = some r := by
  unfold meetO at h
  have hh := bif_none h
  clear h
  obtain ⟨hb, h⟩ := hh
  simp only [Bool.and_eq_true] at hb
  obtain rfl := natBeq hb.1
  obtain rfl := natBeq hb.2
  split at h
  · rename_i z hz
    have e := upS_ok sh.os (ksFor s sh) s
    have e1 : (upS sh.os (ksFor s sh) s).nt = s.nt := congrArg St.nt e
    have e2 : (upS sh.os (ksFor s sh) s).heap.lo = s.heap.lo := congrArg (fun x : St => x.heap.lo) e
    have w := exS_ok hz
    unfold WeakT at w ⊢
    rw [e, e1, e2] at w
    exact ⟨z, w, h⟩
  · cases h
def exitO (nt lo : Nat) (s : ESt) (e : Exit) : (l : List (Ek × SSh)) → (ExD l → Option ρ) → Option ρ
  | [], _ => none
  | [a], K => bif a.1.is e then meetO nt lo s a.2 K else none
  | a :: b :: l, K => bif a.1.is e then meetO nt lo s a.2 (fun z => K (.inl z)) else exitO nt lo s e (b :: l) (fun z => K (.inr z))
def onExit (nt lo : Nat) (k : Exit → ESt → Option ρ) : (l : List (Ek × SSh)) → ExD l → Option ρ
  | [], _ => none
  | [a], z => k a.1.ex (mkS nt lo a.2 z.1 z.2)
  | a :: b :: l, z => sumO (fun z => k a.1.ex (mkS nt lo a.2 z.1 z.2)) (fun z => onExit nt lo k (b :: l) z) z
theorem exitO_out {nt lo : Nat} {s : ESt} {e : Exit} {k : Exit → ESt → Option ρ} : ∀ {l : List (Ek × SSh)} {σ : Type} {K : ExD l → Option σ} {x : σ}, exitO nt lo s e l K = some x → ∃ z, K z = some x ∧ ∃ s', WeakT s s' ∧ ∀ r, onExit nt lo k l z = some r → k e s' = some r
  | [], _, _, _, h => by cases h
  | [a], σ, K, x, h => by
    unfold exitO at h
    have hh := bif_none h
    clear h
    obtain ⟨hb, h⟩ := hh
    obtain ⟨z, w, h⟩ := meetO_out h
    exact ⟨z, h, _, w, fun r hr => by rw [Ek.is_out hb]; exact hr⟩
  | a :: b :: l, σ, K, x, h => by
    unfold exitO at h
    cases hb : a.1.is e with
    | true =>
      rw [hb] at h
      obtain ⟨z, w, h⟩ := meetO_out h
      exact ⟨.inl z, h, _, w, fun r hr => by rw [Ek.is_out hb]; exact hr⟩
    | false =>
      rw [hb] at h
      obtain ⟨z, h1, s', w, h2⟩ := exitO_out (l := b :: l) h
      exact ⟨.inr z, h1, s', w, h2⟩
def thenK (K : ESt → Option ρ) (k : Exit → ESt → Option ρ) : Exit → ESt → Option ρ
  | .normal, s => K s
  | e, s => k e s
def inK (id : Nat) (k : Exit → ESt → Option ρ) : Exit → ESt → Option ρ
  | .exit id', s => bif Nat.beq id' id then k .normal s else k (.exit id') s
  | e, s => k e s
def roundK (nt lo : Nat) (sh : SSh) (ex : List (Ek × SSh)) : Exit → ESt → Option (sh.D ⊕ ExD ex)
  | .normal, s => meetO nt lo s sh (fun z => some (.inl z))
  | e, s => exitO nt lo s e ex (fun z => some (.inr z))
noncomputable def runC (T : List (Ctr P)) [Tys P] [TyE P] [TyX P] (nt lo : Nat) : Ann → Code → {ρ : Type} → (Exit → ESt → Option ρ) → ESt → Option ρ
  | _, .skip, _, k, s => k .normal s
  | _, .exit id, _, k, s => k (.exit id) s
  | _, .ret, _, k, s => k .ret s
  | a, .region _ A draw, _, k, s => runReg a.wr T A draw (k .normal) s
  | .seq a b, .seq x y, _, k, s => runC T nt lo a x (thenK (runC T nt lo b y k) k) s
  | .o, .seq x y, _, k, s => runC T nt lo .o x (thenK (runC T nt lo .o y k) k) s
  | .join sh a b, .seq x y, _, k, s => jpO (fun z : sh.D => runC T nt lo b y k (mkS nt lo sh z.1 z.2)) fun j => runC T nt lo a x (thenK (fun s' => meetO nt lo s' sh j) k) s
  | .cond a b, .cond (.tmp t) x y, _, k, s => match s.env t with
    | .b c => bif Nat.blt t s.nt then (bif c then runC T nt lo a x k (s.put (some t) (.b true)) else runC T nt lo b y k (s.put (some t) (.b false))) else none
    | _ => none
  | .o, .cond (.tmp t) x y, _, k, s => match s.env t with
    | .b c => bif Nat.blt t s.nt then (bif c then runC T nt lo .o x k (s.put (some t) (.b true)) else runC T nt lo .o y k (s.put (some t) (.b false))) else none
    | _ => none
  | .block a, .block id x, _, k, s => runC T nt lo a x (inK id k) s
  | .o, .block id x, _, k, s => runC T nt lo .o x (inK id k) s
  | .loop sh ex a, .loop x, _, k, s => meetO nt lo s sh fun y0 =>
      callB (whileO (fun y => runC T nt lo a x (roundK nt lo sh ex) (mkS nt lo sh y.1 y.2)) y0) fun z => onExit nt lo k ex z
  | _, _, _, _, _ => none
def Down (Q : Exit → ESt → Prop) : Prop := ∀ e s s', WeakT s s' → Q e s' → Q e s
theorem runC_ok (T : List (Ctr P)) [Tys P] [TyE P] [TyX P] [Mixed P] (nt lo : Nat) : ∀ (c : Code) (a : Ann) {ρ : Type} (k : Exit → ESt → Option ρ) (s : ESt) (res : ρ) (Q : Exit → ESt → Prop), Down Q → (∀ e s', k e s' = some res → Q e s') → runC T nt lo a c k s = some res → SCT P c Q s
  | .skip, a, ρ, k, s, res, Q, hQ, hk, h => by
    have h : k .normal s = some res := by cases a <;> exact h
    exact ⟨SC.skip ⟨s, rfl, hk _ _ h⟩⟩
  | .exit id, a, ρ, k, s, res, Q, hQ, hk, h => by
    have h : k (.exit id) s = some res := by cases a <;> exact h
    exact ⟨SC.exit ⟨s, rfl, hk _ _ h⟩⟩
  | .ret, a, ρ, k, s, res, Q, hQ, hk, h => by
    have h : k .ret s = some res := by cases a <;> exact h
    exact ⟨SC.ret ⟨s, rfl, hk _ _ h⟩⟩
  | .region id A draw, a, ρ, k, s, res, Q, hQ, hk, h => by
    have h : runReg a.wr T A draw (k .normal) s = some res := by cases a <;> exact h
    exact runReg_ok (fun s' => hk _ _) h
  | .seq x y, a, ρ, k, s, res, Q, hQ, hk, h => by
    have key : ∀ a b, runC T nt lo a x (thenK (runC T nt lo b y k) k) s = some res → SCT P (.seq x y) Q s := fun a b h => by
      refine SCT.seq' (runC_ok T nt lo x a (thenK (runC T nt lo b y k) k) s res _ (fun e s s' w q => ?_) (fun e s' q => ?_) h)
      · cases e <;> first | exact SCT.weak w q | exact hQ _ _ _ w q
      · cases e <;> first | exact runC_ok T nt lo y b k s' res Q hQ hk q | exact hk _ _ q
    cases a with
    | o => exact key _ _ h
    | seq a b => exact key _ _ h
    | join sh a b =>
      have h : runC T nt lo a x (thenK (fun s' => meetO nt lo s' sh (fun z : sh.D => runC T nt lo b y k (mkS nt lo sh z.1 z.2))) k) s = some res := h
      refine SCT.seq' (runC_ok T nt lo x a _ s res _ (fun e s s' w q => ?_) (fun e s' q => ?_) h)
      · cases e <;> first | exact SCT.weak w q | exact hQ _ _ _ w q
      · cases e <;> first | (obtain ⟨z, w, q⟩ := meetO_out q; exact SCT.weak w (runC_ok T nt lo y b k _ res Q hQ hk q)) | exact hk _ _ q
    | _ => cases h
  | .cond (.tmp t) x y, a, ρ, k, s, res, Q, hQ, hk, h => by
    have key : ∀ a b, (match s.env t with
      | .b c => bif Nat.blt t s.nt then (bif c then runC T nt lo a x k (s.put (some t) (.b true)) else runC T nt lo b y k (s.put (some t) (.b false))) else none
      | _ => none) = some res → SCT P (.cond (.tmp t) x y) Q s := fun a b h => by
      split at h
      · rename_i c hc
        have hb := envT hc
        simp only [toV] at hb
        have hh := bif_none h
        clear h
        obtain ⟨hlt, h⟩ := hh
        obtain ⟨h1, h2⟩ := bifs h
        refine ⟨SC.cond (b := c) hb (fun e => ?_) (fun e => ?_)⟩
        · have := (runC_ok T nt lo x a k _ res Q hQ hk (h1 e)).out
          rw [toSt_put] at this
          rwa [St.know (by rw [hb, e]; simp only [toV]) hlt] at this
        · have := (runC_ok T nt lo y b k _ res Q hQ hk (h2 e)).out
          rw [toSt_put] at this
          rwa [St.know (by rw [hb, e]; simp only [toV]) hlt] at this
      · cases h
    cases a with
    | o => exact key _ _ h
    | cond a b => exact key _ _ h
    | _ => cases h
  | .block id x, a, ρ, k, s, res, Q, hQ, hk, h => by
    have key : ∀ a, runC T nt lo a x (inK id k) s = some res → SCT P (.block id x) Q s := fun a h => by
      refine SCT.block (runC_ok T nt lo x a (inK id k) s res _ (fun e s s' w q => ?_) (fun e s' q => ?_) h)
      · cases e with
        | exit id' =>
          simp only [inT] at q ⊢
          cases hb : Nat.beq id' id <;> rw [hb] at q <;> exact hQ _ _ _ w q
        | _ => exact hQ _ _ _ w q
      · cases e with
        | exit id' =>
          simp only [inT, inK] at q ⊢
          cases hb : Nat.beq id' id <;> rw [hb] at q <;> exact hk _ _ q
        | _ => exact hk _ _ q
    cases a with
    | o => exact key _ h
    | block a => exact key _ h
    | _ => cases h
  | .loop x, a, ρ, k, s, res, Q, hQ, hk, h => by
    cases a with
    | loop sh ex a =>
      have h : (meetO nt lo s sh fun y0 =>
        callB (whileO (fun y => runC T nt lo a x (roundK nt lo sh ex) (mkS nt lo sh y.1 y.2)) y0) fun z => onExit nt lo k ex z) = some res := h
      obtain ⟨y0, w0, h⟩ := meetO_out h
      obtain ⟨z, hz, h⟩ := callB_out h
      obtain ⟨n, hn⟩ := whileO_iff.1 hz
      refine SCT.weak w0 (SCT.loop fun J hW hJ => ?_)
      have main : ∀ n y, iterO (fun y : sh.D => runC T nt lo a x (roundK nt lo sh ex) (mkS nt lo sh y.1 y.2)) n y = some z → J (mkS nt lo sh y.1 y.2) := by
        intro n
        induction n with
        | zero => intro y hy; cases hy
        | succ n ih =>
          intro y hy
          simp only [iterO] at hy
          split at hy
          · rename_i y' hf
            refine hJ _ (runC_ok T nt lo x a _ _ _ _ (fun e s s' w q => ?_) (fun e s' q => ?_) hf)
            · cases e <;> first | exact hW _ _ w q | exact hQ _ _ _ w q
            · have no : ∀ e, exitO nt lo s' e ex (fun z => some (Sum.inr z : sh.D ⊕ ExD ex)) = some (.inl y') → False := fun e q => by
                obtain ⟨z, q, _⟩ := exitO_out (ρ := ρ) (k := k) q
                cases q
              cases e <;> first
                | (obtain ⟨z, w, q⟩ := meetO_out q
                   injection q with q; injection q with q; subst q
                   exact hW _ _ w (ih _ hy))
                | exact (no _ q).elim
          · rename_i z' hf
            injection hy with hy
            subst hy
            refine hJ _ (runC_ok T nt lo x a _ _ _ _ (fun e s s' w q => ?_) (fun e s' q => ?_) hf)
            · cases e <;> first | exact hW _ _ w q | exact hQ _ _ _ w q
            · have yes : ∀ e, exitO nt lo s' e ex (fun z => some (Sum.inr z : sh.D ⊕ ExD ex)) = some (.inr z') → Q e s' := fun e q => by
                obtain ⟨z, q, s1, w, q2⟩ := exitO_out (ρ := ρ) (k := k) q
                injection q with q; injection q with q; subst q
                exact hQ _ _ _ w (hk _ _ (q2 _ h))
              cases e <;> first
                | (obtain ⟨z, w, q⟩ := meetO_out q; cases q; done)
                | exact yes _ q
          · cases hy
      exact main n y0 hn
    | _ => cases h
  | .cond (.const _) x y, a, ρ, k, s, res, Q, hQ, hk, h => by cases a <;> cases h
  | .cond (.global _) x y, a, ρ, k, s, res, Q, hQ, hk, h => by cases a <;> cases h
  | .cond (.func _) x y, a, ρ, k, s, res, Q, hQ, hk, h => by cases a <;> cases h
  | .rangeFunc _ _ _ _, a, ρ, k, s, res, Q, hQ, hk, h => by cases a <;> cases h
  | .scope _, a, ρ, k, s, res, Q, hQ, hk, h => by cases a <;> cases h
  | .label _, a, ρ, k, s, res, Q, hQ, hk, h => by cases a <;> cases h
  | .goto _, a, ρ, k, s, res, Q, hQ, hk, h => by cases a <;> cases h
  | .refuse _, a, ρ, k, s, res, Q, hQ, hk, h => by cases a <;> cases h
end
end
end Go.Abs


set_option linter.unusedVariables false
set_option linter.unusedSimpArgs false
set_option linter.unusedSectionVars false
namespace Go.Abs
open Go
noncomputable section
variable {P : Program} {ρ : Type}
section
variable [SU] [Codes] [Dats] [FFs]
def valR (P : Program) [Tys P] (s : ESt) : ResultVar → (EV → Option ρ) → Option ρ
  | .tmp t, K => fE (s.env t) K
  | .cell ad t, K => runLoad (P := P) s.heap t (s.env ad) K
def valsR (P : Program) [Tys P] (s : ESt) : List ResultVar → (List EV → Option ρ) → Option ρ
  | [], K => K []
  | r :: l, K => valR P s r fun u => valsR P s l fun us => K (u :: us)
theorem valR_ok [Tys P] {s : ESt} {rv : ResultVar} {K : EV → Option ρ} {res : ρ} (h : valR P s rv K = some res) : ∃ u, RV P (toSt s) rv (toV s.heap.len u) ∧ K u = some res := by
  cases rv with
  | tmp t =>
    simp only [valR, fE_eq] at h
    exact ⟨_, RV.tmp t, h⟩
  | cell ad t =>
    obtain ⟨u, h1, h2⟩ := runLoad_ok (a := .tmp ad) h
    refine ⟨u, fun E ι F a w r => ?_, h2⟩
    obtain ⟨v, h3, h4⟩ := h1 none t E ι F a w r
    refine ⟨v, ?_, h4⟩
    have e : a.eval (.tmp ad) = a.tmps.getD ad undef := rfl
    simp only [execOp, GOp.oper, e, Instr.loadAt] at h3
    simp only [rvSem]
    generalize a.tmps.getD ad undef = x at h3 ⊢
    have bad : ∀ m : String, ((Instr.sureAddr x >>= loadVar t) >>= fun y => (Pure.pure (Next.value y) : Sem Next)).run P w = .ok (.value v) w → (Instr.sureAddr x = stuck m) → False := fun m h e => by
      rw [e] at h
      simp [Sem.run_bind, stuck] at h
    cases x with
    | pointer o =>
      cases o with
      | none => exact (bad _ h3 rfl).elim
      | some ad' =>
        simp only [Instr.sureAddr, asAddr, Sem.run_bind, Sem.run_pure, Result.andThen_ok] at h3 ⊢
        cases hl : (loadVar t ad').run P w with
        | ok c w' =>
          rw [hl] at h3
          simp only [Result.andThen_ok] at h3
          injection h3 with h5 h6
          injection h5 with h5
          subst h5; subst h6
          rfl
        | halt x w' => rw [hl] at h3; cases h3
    | _ => exact (bad _ h3 rfl).elim
theorem valsR_ok [Tys P] {s : ESt} : ∀ {l : List ResultVar} {K : List EV → Option ρ} {res : ρ}, valsR P s l K = some res → ∃ us, K us = some res ∧ ∀ E ι F a w, Rel E ι F (toSt s) a w → ∃ cs : List Value, (l.mapM (rvSem a.tmps)).run P w = .ok cs w ∧ cs.length = us.length ∧ ∀ j, j < us.length → ∃ c, cs[j]? = some c ∧ VRel (toH s.heap) ι F w (toV s.heap.len (nthE us j)) c
  | [], K, res, h => ⟨[], h, fun E ι F a w r => ⟨[], rfl, rfl, fun j hj => absurd hj (Nat.not_lt_zero _)⟩⟩
  | rv :: l, K, res, h => by
    obtain ⟨u, h1, h⟩ := valR_ok h
    obtain ⟨us, h, h2⟩ := valsR_ok (l := l) h
    refine ⟨u :: us, h, fun E ι F a w r => ?_⟩
    obtain ⟨c, c1, c2⟩ := h1 E ι F a w r
    obtain ⟨cs, c3, c4, c5⟩ := h2 E ι F a w r
    refine ⟨c :: cs, by simp [List.mapM_cons, c1, c3], by simp [c4], fun j hj => ?_⟩
    cases j with
    | zero => exact ⟨c, rfl, c2⟩
    | succ j => obtain ⟨c', d1, d2⟩ := c5 j (by simpa using hj); exact ⟨c', by simpa using d1, d2⟩
def oneR : List EV → EV
  | [u] => u
  | l => .tup l
def wantF : Sh → EV → List Nat
  | .fz _, .sfull k [] => [k]
  | .st _, .agg m => rootsOf (.agg m)
  | .agg l, .agg m => wantFs l m
  | .tup l, .tup m => wantFs l m
  | _, _ => []
where wantFs : List Sh → List EV → List Nat
  | a :: l, u :: m => wantF a u ++ wantFs l m
  | _, _ => []
def endS (s : ESt) (u : EV) : ESt := ⟨1, nthE [u], s.heap⟩
def retO (P : Program) [Tys P] (rs : List ResultVar) (lo : Nat) (rv : Sh) (ro : List OSh) (s : ESt) : Option (rv.D × DO ro) :=
  valsR P s rs fun us => frzAll (endS s (oneR us)) (fun s' => meetO 1 lo s' ⟨[(0, rv)], ro⟩ (fun z => some (z.1.1, z.2))) (wantF rv (oneR us))
def retK (P : Program) [Tys P] (rs : List ResultVar) (lo : Nat) (rv : Sh) (ro : List OSh) : Exit → ESt → Option (rv.D × DO ro)
  | .ret, s => retO P rs lo rv ro s
  | .normal, s => retO P rs lo rv ro s
  | _, _ => none
structure EndOk (P : Program) (fn : Func) (lo : Nat) (rv : Sh) (ro : List OSh) (res : rv.D × DO ro) (s : ESt) : Prop where
  out : ∀ E ι F a w, Rel E ι F (toSt s) a w → ∃ c ι' F', (results fn a.tmps).run P w = .ok c w ∧ RelH E ι' F' (toH (mkH lo ro res.2)) w ∧ VRel (toH (mkH lo ro res.2)) ι' F' w (toV (mkH lo ro res.2).len (mkE rv res.1)) c
theorem EndOk.weak {fn : Func} {lo : Nat} {rv : Sh} {ro : List OSh} {res : rv.D × DO ro} {s s' : ESt} (w : WeakT s s') (h : EndOk P fn lo rv ro res s') : EndOk P fn lo rv ro res s :=
  ⟨fun E ι F a w' r => by obtain ⟨ι', F', r'⟩ := w E ι F a w' r; exact h.out E ι' F' a w' r'⟩
theorem retO_ok [Tys P] {fn : Func} {lo : Nat} {rv : Sh} {ro : List OSh} {res : rv.D × DO ro} {s : ESt} (h : retO P fn.results.toList lo rv ro s = some res) : EndOk P fn lo rv ro res s := by
  obtain ⟨us, h, hu⟩ := valsR_ok h
  obtain ⟨s', w, h⟩ := frzAll_out _ _ h
  obtain ⟨z, w2, h⟩ := meetO_out h
  injection h with h
  subst h
  refine ⟨fun E ι F a w' r => ?_⟩
  obtain ⟨cs, c1, c2, c3⟩ := hu E ι F a w' r
  have hc : ∃ c, (results fn a.tmps).run P w' = .ok c w' ∧ VRel (toH s.heap) ι F w' (toV s.heap.len (oneR us)) c := by
    rw [results_eq]
    have e : (fn.results.mapM (rvSem a.tmps)).run P w' = .ok cs.toArray w' := by
      rw [Array.mapM_eq_mapM_toList, Sem.run_map, c1]; rfl
    rw [Sem.run_bind, e]
    simp only [Result.andThen_ok]
    have tupR : ∀ us : List EV, us.length ≠ 1 → cs.length = us.length → (∀ j, j < us.length → ∃ c, cs[j]? = some c ∧ VRel (toH s.heap) ι F w' (toV s.heap.len (nthE us j)) c) →
        ∃ c, (Pure.pure (if h : cs.toArray.size = 1 then cs.toArray[0] else .tuple cs.toArray) : Sem Value).run P w' = .ok c w' ∧ VRel (toH s.heap) ι F w' (toV s.heap.len (.tup us)) c := fun us h1 h2 h3 => by
      rw [dif_neg (by simpa [h2] using h1)]
      refine ⟨_, rfl, ?_⟩
      simp only [toV]
      exact ⟨cs.toArray, rfl, by simpa using h2, fun j hj => by obtain ⟨c, q1, q2⟩ := h3 j hj; exact ⟨c, by simpa using q1, by rw [← nthE_eq]; exact q2⟩⟩
    match us, c2, c3 with
    | [], c2, c3 => exact tupR [] (by simp) c2 c3
    | [u], c2, c3 =>
      obtain ⟨c, q1, q2⟩ := c3 0 (by simp)
      refine ⟨c, ?_, q2⟩
      have : cs = [c] := by
        match cs, c2, q1 with
        | [x], _, q1 => simpa using q1
      subst this
      rfl
    | u :: v :: l, c2, c3 => exact tupR _ (by simp) c2 c3
  obtain ⟨c, k1, k2⟩ := hc
  have r1 : Rel E ι F (toSt (endS s (oneR us))) { tmps := #[c], defers := [] } w' := ⟨r.h, fun t => by
    cases t with
    | zero => exact k2
    | succ t => exact trivial, rfl, rfl⟩
  obtain ⟨ι1, F1, r2⟩ := w _ _ _ _ _ r1
  obtain ⟨ι2, F2, r3⟩ := w2 _ _ _ _ _ r2
  exact ⟨c, ι2, F2, k1, r3.h, r3.env 0⟩
noncomputable def runF (T : List (Ctr P)) [Tys P] [TyE P] [TyX P] (fn : Func) (a : Ann) (ar : List (Nat × Sh)) (os : List OSh) (rv : Sh) (ro : List OSh) (x : DT ar) (y : DO os) : Option (rv.D × DO ro) :=
  bif Nat.ble ar.length fn.ntmps then (match fn.body with
    | some c => runC T fn.ntmps os.length a c (retK P fn.results.toList os.length rv ro) ⟨fn.ntmps, nthE (mkArgs ar x), mkH os.length os y⟩
    | none => none) else none
theorem CT.of {T : List (Ctr P)} [Tys P] [TyE P] [TyX P] [Mixed P] {f : FuncId} {fn : Func} {a : Ann} {ar : List (Nat × Sh)} {os : List OSh} {rv : Sh} {ro : List OSh} {x : DT ar} {y : DO os} {r : rv.D × DO ro} (hf : P.funcs[f]? = some fn)
    (h : runF T fn a ar os rv ro x y = some r) : CT P f (mkArgs ar x) (mkH os.length os y) (fun v H' => v = mkE rv r.1 ∧ H' = mkH os.length ro r.2) := by
  unfold runF at h
  have hh := bif_none h
  clear h
  obtain ⟨hle, h⟩ := hh
  have hle := Nat.le_of_ble_eq_true hle
  split at h
  · rename_i c hb
    have hs := (runC_ok T fn.ntmps os.length c a _ _ r (fun e s => (e = .ret ∨ e = .normal) ∧ EndOk P fn os.length rv ro r s) (fun e s s' w q => ⟨q.1, q.2.weak w⟩) (fun e s' q => by
      cases e <;> first | exact ⟨.inl rfl, retO_ok q⟩ | exact ⟨.inr rfl, retO_ok q⟩ | cases q) h).out
    refine ⟨fun E ι F w cargs r0 hl ha => calls_of_wp hf hb ?_⟩
    have r1 : Rel E ι F (toSt ⟨fn.ntmps, nthE (mkArgs ar x), mkH os.length os y⟩) { tmps := cargs ++ Array.replicate (fn.ntmps - cargs.size) undef, defers := [] } w := by
      have hl' : (mkArgs ar x).length = ar.length := mkArgs_len _ _
      refine ⟨r0, fun t => ?_, ?_, rfl⟩
      · show VRel _ ι F w (toV _ (nthE (mkArgs ar x) t)) ((cargs ++ Array.replicate (fn.ntmps - cargs.size) undef).getD t undef)
        by_cases ht : t < (mkArgs ar x).length
        · have e : (cargs ++ Array.replicate (fn.ntmps - cargs.size) undef).getD t undef = cargs.getD t undef := by
            rw [Array.getD_eq_getD_getElem?, Array.getElem?_append_left (by omega), Array.getD_eq_getD_getElem?]
          rw [e]; exact ha t ht
        · have : ∀ (l : List EV) (t : Nat), l.length ≤ t → nthE l t = .un := by
            intro l
            induction l with
            | nil => intro t _; rfl
            | cons a l ih => intro t ht; cases t with
              | zero => simp at ht
              | succ t => exact ih t (by simpa using ht)
          rw [this _ _ (Nat.le_of_not_lt ht)]
          simp only [toV]; exact trivial
      · show (cargs ++ Array.replicate (fn.ntmps - cargs.size) undef).size = fn.ntmps
        simp; omega
    have fin : ∀ e a w', (e = .ret ∨ e = .normal) → conc E (liftQ (fun e s => (e = .ret ∨ e = .normal) ∧ EndOk P fn os.length rv ro r s)) e a w' → ∃ st : St, a.defers = [] ∧ ∃ c, (results fn a.tmps).run P w' = .ok c w' ∧ ∃ ι' F', RelH E ι' F' (toH (mkH os.length ro r.2)) w' ∧ VRel (toH (mkH os.length ro r.2)) ι' F' w' (toV (mkH os.length ro r.2).len (mkE rv r.1)) c := fun e a w' he hc => by
      have : ∃ ι F st, Rel E ι F st a w' ∧ liftQ (fun e s => (e = .ret ∨ e = .normal) ∧ EndOk P fn os.length rv ro r s) e st := by
        rcases he with rfl | rfl <;> exact hc
      obtain ⟨ι, F, st, rr, s, rfl, _, ho⟩ := this
      obtain ⟨c, ι', F', k1, k2, k3⟩ := ho.out E ι F a w' rr
      exact ⟨toSt s, rr.defers, c, k1, ι', F', k2, k3⟩
    refine wp_mono (hs.out E ι F _ w r1) fun e a w' hc => ?_
    cases e with
    | ret =>
      obtain ⟨_, d, c, k1, ι', F', k2, k3⟩ := fin _ _ _ (.inl rfl) hc
      exact ⟨d, c, k1, mkE rv r.1, ι', F', mkH os.length ro r.2, c, rfl, k2, k3, rfl, rfl⟩
    | normal =>
      obtain ⟨_, d, c, k1, ι', F', k2, k3⟩ := fin _ _ _ (.inr rfl) hc
      exact ⟨d, c, k1, mkE rv r.1, ι', F', mkH os.length ro r.2, c, rfl, k2, k3, rfl, rfl⟩
    | exit id => obtain ⟨ι, F, st, r, s, rfl, h, _⟩ := hc; rcases h with h | h <;> cases h
    | goto l => obtain ⟨ι, F, st, r, s, rfl, h, _⟩ := hc; rcases h with h | h <;> cases h
    | panic c => exact hc.elim
    | outgrown => exact hc.elim
  · cases h
end
end
end Go.Abs


set_option linter.unusedVariables false
set_option linter.unusedSimpArgs false
set_option linter.unusedSectionVars false
namespace Go.Abs
open Go
noncomputable section
section
variable [SU] [Codes] [Dats] [FFs] {P : Program}
def mkCtr [Tys P] [TyE P] [TyX P] [Mixed P] (f : FuncId) [k : FnOk P f] (fn : Func) (hf : P.funcs[f]? = some fn) (T : List (Ctr P)) (a : Ann) (ar : List (Nat × Sh)) (os : List OSh) (rv : Sh) (ro : List OSh)
    (F : DT ar → DO os → Option (rv.D × DO ro)) (h : ∀ x y r, F x y = some r → runF T fn a ar os rv ro x y = some r) : Ctr P :=
  ⟨f, k, ar, os, rv, ro, F, fun x y r e => CT.of hf (h x y r e)⟩
end
section
variable {ρ α : Type}
theorem grd_of {b : Bool} {x : Option ρ} (h : b = true) : grd b x = x := by rw [h]; rfl
@[simp] theorem grd_true {x : Option ρ} : grd true x = x := rfl
theorem grd_dec {p : Prop} {x : Option ρ} (h : p) : grd (okB p) x = x := grd_of (okB_of h)
theorem grd_blt {a b : Nat} {x : Option ρ} (h : a < b) : grd (Nat.blt a b) x = x := grd_of (by simpa using h)
@[simp] theorem callB_some {y : α} {K : α → Option ρ} : callB (some y) K = K y := rfl
@[simp] theorem callB_grd {b : Bool} {x : Option α} {K : α → Option ρ} : callB (grd b x) K = grd b (callB x K) := by cases b <;> rfl
@[simp] theorem jpO_eq {f : α → Option ρ} {g : (α → Option ρ) → Option ρ} : jpO f g = g f := rfl
@[simp] theorem bif_decide {p : Prop} [Decidable p] {β : Type} {x y : β} : (bif decide p then x else y) = if p then x else y := by by_cases h : p <;> simp [h]
theorem bif_not {b : Bool} {β : Type} {x y : β} : (bif !b then x else y) = bif b then y else x := by cases b <;> rfl
theorem getD_ok {β : Type} {by_ : Nat} {ok : β → Prop} {l : List β} (h : All by_ ok l) (d : β) {i : Nat} (hi : i < l.length) : ok (l.getD i d) := by
  have := h.2 l[i] (List.getElem_mem hi)
  simpa [List.getD_eq_getElem?_getD, hi] using this
theorem callB_of {x : Option α} {y : α} {K : α → Option ρ} {r : Option ρ} (h : x = some y) (k : K y = r) : callB x K = r := by rw [h]; exact k
section
variable {D X : Type} {f : D → Option (D ⊕ X)} {st : Nat → D}
theorem whileO_for {X0 : X} {y0 : D} (hy : y0 = st 0) (n : Nat) (G : Nat → Prop) (h0 : G 0) (hs : ∀ i, i < n → G i → (f (st i) = some (.inl (st (i + 1))) ∧ G (i + 1)) ∨ f (st i) = some (.inr X0)) (he : G n → f (st n) = some (.inr X0)) : whileO f y0 = some X0 := by
  subst hy
  have key : ∀ k i, i + k = n → G i → whileO f (st i) = some X0 := by
    intro k
    induction k with
    | zero => intro i hi hg; rw [whileO_eq, show i = n by omega, he (by rw [show n = i by omega]; exact hg)]
    | succ k ih =>
      intro i hi hg
      rw [whileO_eq]
      rcases hs i (by omega) hg with ⟨h1, h2⟩ | h1
      · rw [h1]; exact ih (i + 1) (by omega) h2
      · rw [h1]
  exact key n 0 (by omega) h0
theorem whileO_all {β : Type} {l : List β} {y0 : D} (hy : y0 = st 0) (z : β) (p : β → Bool) {A B : X} (h1 : ∀ i, i < l.length → p (l.getD i z) = true → f (st i) = some (.inl (st (i + 1)))) (h2 : ∀ i, i < l.length → p (l.getD i z) = false → f (st i) = some (.inr B))
    (h3 : l.all p = true → f (st l.length) = some (.inr A)) : whileO f y0 = some (if l.all p then A else B) := by
  refine whileO_for hy l.length (fun i => ∀ j, j < i → p (l.getD j z) = true) (fun j hj => absurd hj (Nat.not_lt_zero _)) (fun i hi hg => ?_) (fun hg => ?_)
  · cases hp : p (l.getD i z) with
    | true =>
      refine .inl ⟨h1 i hi hp, fun j hj => ?_⟩
      by_cases e : j = i
      · rw [e]; exact hp
      · exact hg j (by omega)
    | false =>
      right
      have : l.all p = false := by
        rw [List.all_eq_false]
        refine ⟨l[i], List.getElem_mem hi, ?_⟩
        have e : l.getD i z = l[i] := by simp [List.getD_eq_getElem?_getD, hi]
        rw [← e, hp]; simp
      rw [this]
      exact h2 i hi hp
  · have : l.all p = true := by
      rw [List.all_eq_true]
      intro x hx
      obtain ⟨i, hi, rfl⟩ := List.getElem_of_mem hx
      have e : l.getD i z = l[i] := by simp [List.getD_eq_getElem?_getD, hi]
      rw [← e]; exact hg i hi
    rw [h3 this, this]; rfl
theorem whileO_to {X0 : X} {y0 : D} (hy : y0 = st 0) (n : Nat) (h1 : ∀ i, i < n → f (st i) = some (.inl (st (i + 1)))) (h2 : f (st n) = some (.inr X0)) : whileO f y0 = some X0 :=
  whileO_for hy n (fun _ => True) trivial (fun i hi _ => .inl ⟨h1 i hi, trivial⟩) (fun _ => h2)
end
theorem grd_ok {p : Prop} {x : Option ρ} (h : p) : grd (okB p) x = x := grd_of (okB_of h)
theorem FE {run go : Option ρ} {s r : ρ} (hr : run = go) (ok : go = some s) (h : some s = some r) : run = some r := by rw [hr, ok, h]
theorem FO {p : Prop} {run go : Option ρ} {s r : ρ} (hr : run = go) (ok : p → go = some s) (h : grd (okB p) (some s) = some r) : run = some r := by
  cases hb : okB p with
  | false => rw [hb] at h; cases h
  | true =>
    rw [hb] at h
    rw [hr, ok (okB_out hb)]
    exact h
theorem lenVal : LEN = 281474976710656 := rfl
@[simp] theorem sumO_inl {A B : Type} {f : A → Option ρ} {g : B → Option ρ} {a : A} : sumO f g (.inl a) = f a := rfl
@[simp] theorem sumO_inr {A B : Type} {f : A → Option ρ} {g : B → Option ρ} {b : B} : sumO f g (.inr b) = g b := rfl
end
end
end Go.Abs


set_option linter.unusedVariables false
namespace Go.Abs
open Go Go.Proofs
def tyc1 : TyC := { agg := false, sz := 1, zero := some (.nilFunc) }
theorem tyc1_ok : TyC.Ok Try.prog 1 tyc1 := ⟨(fun h => inferInstance), (fun f off a s h => by cases h), (fun e s b h => by cases h), (fun x h => by cases h), (fun v h => by cases h; infer_instance)⟩
def tyc2 : TyC := { agg := false, sz := 1, desc := some (.int .i64), zero := some (.int .i64 0) }
theorem tyc2_ok : TyC.Ok Try.prog 2 tyc2 := ⟨(fun h => inferInstance), (fun f off a s h => by cases h), (fun e s b h => by cases h), (fun x h => by cases h; infer_instance), (fun v h => by cases h; infer_instance)⟩
def tyc3 : TyC := { agg := false, sz := 1, desc := some (.int .i64), zero := some (.int .i64 0) }
theorem tyc3_ok : TyC.Ok Try.prog 3 tyc3 := ⟨(fun h => inferInstance), (fun f off a s h => by cases h), (fun e s b h => by cases h), (fun x h => by cases h; infer_instance), (fun v h => by cases h; infer_instance)⟩
def tyc4 : TyC := { agg := false, sz := 1, desc := some .bool, zero := some (.bool false) }
theorem tyc4_ok : TyC.Ok Try.prog 4 tyc4 := ⟨(fun h => inferInstance), (fun f off a s h => by cases h), (fun e s b h => by cases h), (fun x h => by cases h; infer_instance), (fun v h => by cases h; infer_instance)⟩
def tyc5 : TyC := { agg := false, sz := 1, desc := some (.int .u8), zero := some (.int .u8 0) }
theorem tyc5_ok : TyC.Ok Try.prog 5 tyc5 := ⟨(fun h => inferInstance), (fun f off a s h => by cases h), (fun e s b h => by cases h), (fun x h => by cases h; infer_instance), (fun v h => by cases h; infer_instance)⟩
def tyc6 : TyC := { agg := false, sz := 1, desc := some (.int .u8), zero := some (.int .u8 0) }
theorem tyc6_ok : TyC.Ok Try.prog 6 tyc6 := ⟨(fun h => inferInstance), (fun f off a s h => by cases h), (fun e s b h => by cases h), (fun x h => by cases h; infer_instance), (fun v h => by cases h; infer_instance)⟩
def tyc7 : TyC := { agg := true, sz := 4, fields := [(0, false, 1), (1, false, 1), (2, false, 1), (3, false, 1)], zero := some (.agg #[.int .i64 0, .int .i64 0, .bool false, .int .u8 0]) }
theorem tyc7_ok : TyC.Ok Try.prog 7 tyc7 := ⟨(fun h => inferInstance), (fldAll ⟨(inferInstance : TyField Try.prog 7 0 0 false 1), (inferInstance : TyField Try.prog 7 1 1 false 1), (inferInstance : TyField Try.prog 7 2 2 false 1), (inferInstance : TyField Try.prog 7 3 3 false 1), trivial⟩), (fun e s b h => by cases h), (fun x h => by cases h), (fun v h => by cases h; infer_instance)⟩
def tyc8 : TyC := { agg := true, sz := 4, fields := [(0, false, 1), (1, false, 1), (2, false, 1), (3, false, 1)], zero := some (.agg #[.int .i64 0, .int .i64 0, .bool false, .int .u8 0]) }
theorem tyc8_ok : TyC.Ok Try.prog 8 tyc8 := ⟨(fun h => inferInstance), (fldAll ⟨(inferInstance : TyField Try.prog 8 0 0 false 1), (inferInstance : TyField Try.prog 8 1 1 false 1), (inferInstance : TyField Try.prog 8 2 2 false 1), (inferInstance : TyField Try.prog 8 3 3 false 1), trivial⟩), (fun e s b h => by cases h), (fun x h => by cases h), (fun v h => by cases h; infer_instance)⟩
def tyc9 : TyC := { agg := false, sz := 1, desc := some .string, zero := some (.string ByteArray.empty) }
theorem tyc9_ok : TyC.Ok Try.prog 9 tyc9 := ⟨(fun h => inferInstance), (fun f off a s h => by cases h), (fun e s b h => by cases h), (fun x h => by cases h; infer_instance), (fun v h => by cases h; infer_instance)⟩
def tyc10 : TyC := { agg := false, sz := 1, desc := some .string, zero := some (.string ByteArray.empty) }
theorem tyc10_ok : TyC.Ok Try.prog 10 tyc10 := ⟨(fun h => inferInstance), (fun f off a s h => by cases h), (fun e s b h => by cases h), (fun x h => by cases h; infer_instance), (fun v h => by cases h; infer_instance)⟩
def tyc11 : TyC := { agg := false, sz := 1, desc := some .string, zero := some (.string ByteArray.empty) }
theorem tyc11_ok : TyC.Ok Try.prog 11 tyc11 := ⟨(fun h => inferInstance), (fun f off a s h => by cases h), (fun e s b h => by cases h), (fun x h => by cases h; infer_instance), (fun v h => by cases h; infer_instance)⟩
def tyc12 : TyC := { agg := false, sz := 1, desc := some (.int .u64), zero := some (.int .u64 0) }
theorem tyc12_ok : TyC.Ok Try.prog 12 tyc12 := ⟨(fun h => inferInstance), (fun f off a s h => by cases h), (fun e s b h => by cases h), (fun x h => by cases h; infer_instance), (fun v h => by cases h; infer_instance)⟩
def tyc13 : TyC := { agg := true, sz := 2, fields := [(0, false, 1), (1, false, 1)], zero := some (.agg #[.string ByteArray.empty, .int .u64 0]) }
theorem tyc13_ok : TyC.Ok Try.prog 13 tyc13 := ⟨(fun h => inferInstance), (fldAll ⟨(inferInstance : TyField Try.prog 13 0 0 false 1), (inferInstance : TyField Try.prog 13 1 1 false 1), trivial⟩), (fun e s b h => by cases h), (fun x h => by cases h), (fun v h => by cases h; infer_instance)⟩
def tyc14 : TyC := { agg := true, sz := 2, fields := [(0, false, 1), (1, false, 1)], zero := some (.agg #[.string ByteArray.empty, .int .u64 0]) }
theorem tyc14_ok : TyC.Ok Try.prog 14 tyc14 := ⟨(fun h => inferInstance), (fldAll ⟨(inferInstance : TyField Try.prog 14 0 0 false 1), (inferInstance : TyField Try.prog 14 1 1 false 1), trivial⟩), (fun e s b h => by cases h), (fun x h => by cases h), (fun v h => by cases h; infer_instance)⟩
def tyc15 : TyC := { agg := false, sz := 1, zero := some (.pointer none) }
theorem tyc15_ok : TyC.Ok Try.prog 15 tyc15 := ⟨(fun h => inferInstance), (fun f off a s h => by cases h), (fun e s b h => by cases h), (fun x h => by cases h), (fun v h => by cases h; infer_instance)⟩
def tyc16 : TyC := { agg := false, sz := 1, zero := some (.pointer none) }
theorem tyc16_ok : TyC.Ok Try.prog 16 tyc16 := ⟨(fun h => inferInstance), (fun f off a s h => by cases h), (fun e s b h => by cases h), (fun x h => by cases h), (fun v h => by cases h; infer_instance)⟩
def tyc17 : TyC := { agg := false, sz := 1, zero := some (.pointer none) }
theorem tyc17_ok : TyC.Ok Try.prog 17 tyc17 := ⟨(fun h => inferInstance), (fun f off a s h => by cases h), (fun e s b h => by cases h), (fun x h => by cases h), (fun v h => by cases h; infer_instance)⟩
def tyc18 : TyC := { agg := true, sz := 1, fields := [(0, false, 1)], zero := some (.agg #[.pointer none]) }
theorem tyc18_ok : TyC.Ok Try.prog 18 tyc18 := ⟨(fun h => inferInstance), (fldAll ⟨(inferInstance : TyField Try.prog 18 0 0 false 1), trivial⟩), (fun e s b h => by cases h), (fun x h => by cases h), (fun v h => by cases h; infer_instance)⟩
def tyc19 : TyC := { agg := true, sz := 1, fields := [(0, false, 1)], zero := some (.agg #[.pointer none]) }
theorem tyc19_ok : TyC.Ok Try.prog 19 tyc19 := ⟨(fun h => inferInstance), (fldAll ⟨(inferInstance : TyField Try.prog 19 0 0 false 1), trivial⟩), (fun e s b h => by cases h), (fun x h => by cases h), (fun v h => by cases h; infer_instance)⟩
def tyc20 : TyC := { agg := false, sz := 1, zero := some (.nilIface) }
theorem tyc20_ok : TyC.Ok Try.prog 20 tyc20 := ⟨(fun h => inferInstance), (fun f off a s h => by cases h), (fun e s b h => by cases h), (fun x h => by cases h), (fun v h => by cases h; infer_instance)⟩
def tyc21 : TyC := { agg := false, sz := 1, desc := some (.int .i32), zero := some (.int .i32 0) }
theorem tyc21_ok : TyC.Ok Try.prog 21 tyc21 := ⟨(fun h => inferInstance), (fun f off a s h => by cases h), (fun e s b h => by cases h), (fun x h => by cases h; infer_instance), (fun v h => by cases h; infer_instance)⟩
def tyc22 : TyC := { agg := false, sz := 1, zero := some (.nilFunc) }
theorem tyc22_ok : TyC.Ok Try.prog 22 tyc22 := ⟨(fun h => inferInstance), (fun f off a s h => by cases h), (fun e s b h => by cases h), (fun x h => by cases h), (fun v h => by cases h; infer_instance)⟩
def tyc23 : TyC := { agg := false, sz := 1, zero := some (.nilFunc) }
theorem tyc23_ok : TyC.Ok Try.prog 23 tyc23 := ⟨(fun h => inferInstance), (fun f off a s h => by cases h), (fun e s b h => by cases h), (fun x h => by cases h), (fun v h => by cases h; infer_instance)⟩
def tyc24 : TyC := { agg := false, sz := 1, zero := some (.nilFunc) }
theorem tyc24_ok : TyC.Ok Try.prog 24 tyc24 := ⟨(fun h => inferInstance), (fun f off a s h => by cases h), (fun e s b h => by cases h), (fun x h => by cases h), (fun v h => by cases h; infer_instance)⟩
def tyc25 : TyC := { agg := false, sz := 1, sl := some (3, 1, 8), zero := some (.slice none 0 0) }
theorem tyc25_ok : TyC.Ok Try.prog 25 tyc25 := ⟨(fun h => inferInstance), (fun f off a s h => by cases h), (fun e s b h => by cases h; infer_instance), (fun x h => by cases h), (fun v h => by cases h; infer_instance)⟩
def tyc26 : TyC := { agg := false, sz := 1, sl := some (53, 5, 48), zero := some (.slice none 0 0) }
theorem tyc26_ok : TyC.Ok Try.prog 26 tyc26 := ⟨(fun h => inferInstance), (fun f off a s h => by cases h), (fun e s b h => by cases h; infer_instance), (fun x h => by cases h), (fun v h => by cases h; infer_instance)⟩
def tyc27 : TyC := { agg := false, sz := 1, sl := some (55, 3, 32), zero := some (.slice none 0 0) }
theorem tyc27_ok : TyC.Ok Try.prog 27 tyc27 := ⟨(fun h => inferInstance), (fun f off a s h => by cases h), (fun e s b h => by cases h; infer_instance), (fun x h => by cases h), (fun v h => by cases h; infer_instance)⟩
def tyc28 : TyC := { agg := false, sz := 1, sl := some (41, 9, 136), zero := some (.slice none 0 0) }
theorem tyc28_ok : TyC.Ok Try.prog 28 tyc28 := ⟨(fun h => inferInstance), (fun f off a s h => by cases h), (fun e s b h => by cases h; infer_instance), (fun x h => by cases h), (fun v h => by cases h; infer_instance)⟩
def tyc29 : TyC := { agg := true, sz := 6, fields := [(0, false, 1), (1, false, 1), (2, false, 1), (3, false, 1), (4, false, 1), (5, false, 1)], zero := some (.agg #[.string ByteArray.empty, .slice none 0 0, .slice none 0 0, .slice none 0 0, .slice none 0 0, .slice none 0 0]) }
theorem tyc29_ok : TyC.Ok Try.prog 29 tyc29 := ⟨(fun h => inferInstance), (fldAll ⟨(inferInstance : TyField Try.prog 29 0 0 false 1), (inferInstance : TyField Try.prog 29 1 1 false 1), (inferInstance : TyField Try.prog 29 2 2 false 1), (inferInstance : TyField Try.prog 29 3 3 false 1), (inferInstance : TyField Try.prog 29 4 4 false 1), (inferInstance : TyField Try.prog 29 5 5 false 1), trivial⟩), (fun e s b h => by cases h), (fun x h => by cases h), (fun v h => by cases h; infer_instance)⟩
def tyc30 : TyC := { agg := true, sz := 6, fields := [(0, false, 1), (1, false, 1), (2, false, 1), (3, false, 1), (4, false, 1), (5, false, 1)], zero := some (.agg #[.string ByteArray.empty, .slice none 0 0, .slice none 0 0, .slice none 0 0, .slice none 0 0, .slice none 0 0]) }
theorem tyc30_ok : TyC.Ok Try.prog 30 tyc30 := ⟨(fun h => inferInstance), (fldAll ⟨(inferInstance : TyField Try.prog 30 0 0 false 1), (inferInstance : TyField Try.prog 30 1 1 false 1), (inferInstance : TyField Try.prog 30 2 2 false 1), (inferInstance : TyField Try.prog 30 3 3 false 1), (inferInstance : TyField Try.prog 30 4 4 false 1), (inferInstance : TyField Try.prog 30 5 5 false 1), trivial⟩), (fun e s b h => by cases h), (fun x h => by cases h), (fun v h => by cases h; infer_instance)⟩
def tyc31 : TyC := { agg := false, sz := 1, zero := some (.nilFunc) }
theorem tyc31_ok : TyC.Ok Try.prog 31 tyc31 := ⟨(fun h => inferInstance), (fun f off a s h => by cases h), (fun e s b h => by cases h), (fun x h => by cases h), (fun v h => by cases h; infer_instance)⟩
def tyc33 : TyC := { agg := false, sz := 1, zero := some (.nilFunc) }
theorem tyc33_ok : TyC.Ok Try.prog 33 tyc33 := ⟨(fun h => inferInstance), (fun f off a s h => by cases h), (fun e s b h => by cases h), (fun x h => by cases h), (fun v h => by cases h; infer_instance)⟩
def tyc34 : TyC := { agg := false, sz := 1, zero := some (.nilFunc) }
theorem tyc34_ok : TyC.Ok Try.prog 34 tyc34 := ⟨(fun h => inferInstance), (fun f off a s h => by cases h), (fun e s b h => by cases h), (fun x h => by cases h), (fun v h => by cases h; infer_instance)⟩
def tyc35 : TyC := { agg := false, sz := 1, zero := some (.nilFunc) }
theorem tyc35_ok : TyC.Ok Try.prog 35 tyc35 := ⟨(fun h => inferInstance), (fun f off a s h => by cases h), (fun e s b h => by cases h), (fun x h => by cases h), (fun v h => by cases h; infer_instance)⟩
def tyc36 : TyC := { agg := false, sz := 1, sl := some (46, 5, 56), zero := some (.slice none 0 0) }
theorem tyc36_ok : TyC.Ok Try.prog 36 tyc36 := ⟨(fun h => inferInstance), (fun f off a s h => by cases h), (fun e s b h => by cases h; infer_instance), (fun x h => by cases h), (fun v h => by cases h; infer_instance)⟩
def tyc37 : TyC := { agg := false, sz := 1, sl := some (51, 2, 32), zero := some (.slice none 0 0) }
theorem tyc37_ok : TyC.Ok Try.prog 37 tyc37 := ⟨(fun h => inferInstance), (fun f off a s h => by cases h), (fun e s b h => by cases h; infer_instance), (fun x h => by cases h), (fun v h => by cases h; infer_instance)⟩
def tyc38 : TyC := { agg := true, sz := 4, fields := [(0, false, 1), (1, false, 1), (2, false, 1), (3, false, 1)], zero := some (.agg #[.int .i64 0, .int .i64 0, .slice none 0 0, .slice none 0 0]) }
theorem tyc38_ok : TyC.Ok Try.prog 38 tyc38 := ⟨(fun h => inferInstance), (fldAll ⟨(inferInstance : TyField Try.prog 38 0 0 false 1), (inferInstance : TyField Try.prog 38 1 1 false 1), (inferInstance : TyField Try.prog 38 2 2 false 1), (inferInstance : TyField Try.prog 38 3 3 false 1), trivial⟩), (fun e s b h => by cases h), (fun x h => by cases h), (fun v h => by cases h; infer_instance)⟩
def tyc39 : TyC := { agg := true, sz := 4, fields := [(0, false, 1), (1, false, 1), (2, false, 1), (3, false, 1)], zero := some (.agg #[.int .i64 0, .int .i64 0, .slice none 0 0, .slice none 0 0]) }
theorem tyc39_ok : TyC.Ok Try.prog 39 tyc39 := ⟨(fun h => inferInstance), (fldAll ⟨(inferInstance : TyField Try.prog 39 0 0 false 1), (inferInstance : TyField Try.prog 39 1 1 false 1), (inferInstance : TyField Try.prog 39 2 2 false 1), (inferInstance : TyField Try.prog 39 3 3 false 1), trivial⟩), (fun e s b h => by cases h), (fun x h => by cases h), (fun v h => by cases h; infer_instance)⟩
def tyc40 : TyC := { agg := true, sz := 9, fields := [(0, false, 1), (1, false, 1), (2, true, 4), (6, false, 1), (7, false, 1), (8, false, 1)], zero := some (.agg #[.slice none 0 0, .slice none 0 0, .int .i64 0, .int .i64 0, .slice none 0 0, .slice none 0 0, .int .i64 0, .int .i64 0, .int .i64 0]) }
theorem tyc40_ok : TyC.Ok Try.prog 40 tyc40 := ⟨(fun h => inferInstance), (fldAll ⟨(inferInstance : TyField Try.prog 40 0 0 false 1), (inferInstance : TyField Try.prog 40 1 1 false 1), (inferInstance : TyField Try.prog 40 2 2 true 4), (inferInstance : TyField Try.prog 40 3 6 false 1), (inferInstance : TyField Try.prog 40 4 7 false 1), (inferInstance : TyField Try.prog 40 5 8 false 1), trivial⟩), (fun e s b h => by cases h), (fun x h => by cases h), (fun v h => by cases h; infer_instance)⟩
def tyc41 : TyC := { agg := true, sz := 9, fields := [(0, false, 1), (1, false, 1), (2, true, 4), (6, false, 1), (7, false, 1), (8, false, 1)], zero := some (.agg #[.slice none 0 0, .slice none 0 0, .int .i64 0, .int .i64 0, .slice none 0 0, .slice none 0 0, .int .i64 0, .int .i64 0, .int .i64 0]) }
theorem tyc41_ok : TyC.Ok Try.prog 41 tyc41 := ⟨(fun h => inferInstance), (fldAll ⟨(inferInstance : TyField Try.prog 41 0 0 false 1), (inferInstance : TyField Try.prog 41 1 1 false 1), (inferInstance : TyField Try.prog 41 2 2 true 4), (inferInstance : TyField Try.prog 41 3 6 false 1), (inferInstance : TyField Try.prog 41 4 7 false 1), (inferInstance : TyField Try.prog 41 5 8 false 1), trivial⟩), (fun e s b h => by cases h), (fun x h => by cases h), (fun v h => by cases h; infer_instance)⟩
def tyc43 : TyC := { agg := false, sz := 1, zero := some (.nilFunc) }
theorem tyc43_ok : TyC.Ok Try.prog 43 tyc43 := ⟨(fun h => inferInstance), (fun f off a s h => by cases h), (fun e s b h => by cases h), (fun x h => by cases h), (fun v h => by cases h; infer_instance)⟩
def tyc44 : TyC := { agg := false, sz := 1, desc := some (.int .u64), zero := some (.int .u64 0) }
theorem tyc44_ok : TyC.Ok Try.prog 44 tyc44 := ⟨(fun h => inferInstance), (fun f off a s h => by cases h), (fun e s b h => by cases h), (fun x h => by cases h; infer_instance), (fun v h => by cases h; infer_instance)⟩
def tyc45 : TyC := { agg := true, sz := 5, fields := [(0, false, 1), (1, false, 1), (2, false, 1), (3, false, 1), (4, false, 1)], zero := some (.agg #[.int .i64 0, .int .i64 0, .slice none 0 0, .int .u64 0, .int .i64 0]) }
theorem tyc45_ok : TyC.Ok Try.prog 45 tyc45 := ⟨(fun h => inferInstance), (fldAll ⟨(inferInstance : TyField Try.prog 45 0 0 false 1), (inferInstance : TyField Try.prog 45 1 1 false 1), (inferInstance : TyField Try.prog 45 2 2 false 1), (inferInstance : TyField Try.prog 45 3 3 false 1), (inferInstance : TyField Try.prog 45 4 4 false 1), trivial⟩), (fun e s b h => by cases h), (fun x h => by cases h), (fun v h => by cases h; infer_instance)⟩
def tyc46 : TyC := { agg := true, sz := 5, fields := [(0, false, 1), (1, false, 1), (2, false, 1), (3, false, 1), (4, false, 1)], zero := some (.agg #[.int .i64 0, .int .i64 0, .slice none 0 0, .int .u64 0, .int .i64 0]) }
theorem tyc46_ok : TyC.Ok Try.prog 46 tyc46 := ⟨(fun h => inferInstance), (fldAll ⟨(inferInstance : TyField Try.prog 46 0 0 false 1), (inferInstance : TyField Try.prog 46 1 1 false 1), (inferInstance : TyField Try.prog 46 2 2 false 1), (inferInstance : TyField Try.prog 46 3 3 false 1), (inferInstance : TyField Try.prog 46 4 4 false 1), trivial⟩), (fun e s b h => by cases h), (fun x h => by cases h), (fun v h => by cases h; infer_instance)⟩
def tyc47 : TyC := { agg := false, sz := 1, zero := some (.nilFunc) }
theorem tyc47_ok : TyC.Ok Try.prog 47 tyc47 := ⟨(fun h => inferInstance), (fun f off a s h => by cases h), (fun e s b h => by cases h), (fun x h => by cases h), (fun v h => by cases h; infer_instance)⟩
def tyc48 : TyC := { agg := false, sz := 1, zero := some (.nilFunc) }
theorem tyc48_ok : TyC.Ok Try.prog 48 tyc48 := ⟨(fun h => inferInstance), (fun f off a s h => by cases h), (fun e s b h => by cases h), (fun x h => by cases h), (fun v h => by cases h; infer_instance)⟩
def tyc49 : TyC := { agg := false, sz := 1, zero := some (.nilFunc) }
theorem tyc49_ok : TyC.Ok Try.prog 49 tyc49 := ⟨(fun h => inferInstance), (fun f off a s h => by cases h), (fun e s b h => by cases h), (fun x h => by cases h), (fun v h => by cases h; infer_instance)⟩
def tyc50 : TyC := { agg := true, sz := 2, fields := [(0, false, 1), (1, false, 1)], zero := some (.agg #[.int .i64 0, .slice none 0 0]) }
theorem tyc50_ok : TyC.Ok Try.prog 50 tyc50 := ⟨(fun h => inferInstance), (fldAll ⟨(inferInstance : TyField Try.prog 50 0 0 false 1), (inferInstance : TyField Try.prog 50 1 1 false 1), trivial⟩), (fun e s b h => by cases h), (fun x h => by cases h), (fun v h => by cases h; infer_instance)⟩
def tyc51 : TyC := { agg := true, sz := 2, fields := [(0, false, 1), (1, false, 1)], zero := some (.agg #[.int .i64 0, .slice none 0 0]) }
theorem tyc51_ok : TyC.Ok Try.prog 51 tyc51 := ⟨(fun h => inferInstance), (fldAll ⟨(inferInstance : TyField Try.prog 51 0 0 false 1), (inferInstance : TyField Try.prog 51 1 1 false 1), trivial⟩), (fun e s b h => by cases h), (fun x h => by cases h), (fun v h => by cases h; infer_instance)⟩
def tyc52 : TyC := { agg := true, sz := 5, fields := [(0, false, 1), (1, false, 1), (2, false, 1), (3, false, 1), (4, false, 1)], zero := some (.agg #[.string ByteArray.empty, .int .i64 0, .int .i64 0, .int .i64 0, .int .i64 0]) }
theorem tyc52_ok : TyC.Ok Try.prog 52 tyc52 := ⟨(fun h => inferInstance), (fldAll ⟨(inferInstance : TyField Try.prog 52 0 0 false 1), (inferInstance : TyField Try.prog 52 1 1 false 1), (inferInstance : TyField Try.prog 52 2 2 false 1), (inferInstance : TyField Try.prog 52 3 3 false 1), (inferInstance : TyField Try.prog 52 4 4 false 1), trivial⟩), (fun e s b h => by cases h), (fun x h => by cases h), (fun v h => by cases h; infer_instance)⟩
def tyc53 : TyC := { agg := true, sz := 5, fields := [(0, false, 1), (1, false, 1), (2, false, 1), (3, false, 1), (4, false, 1)], zero := some (.agg #[.string ByteArray.empty, .int .i64 0, .int .i64 0, .int .i64 0, .int .i64 0]) }
theorem tyc53_ok : TyC.Ok Try.prog 53 tyc53 := ⟨(fun h => inferInstance), (fldAll ⟨(inferInstance : TyField Try.prog 53 0 0 false 1), (inferInstance : TyField Try.prog 53 1 1 false 1), (inferInstance : TyField Try.prog 53 2 2 false 1), (inferInstance : TyField Try.prog 53 3 3 false 1), (inferInstance : TyField Try.prog 53 4 4 false 1), trivial⟩), (fun e s b h => by cases h), (fun x h => by cases h), (fun v h => by cases h; infer_instance)⟩
def tyc54 : TyC := { agg := true, sz := 3, fields := [(0, false, 1), (1, false, 1), (2, false, 1)], zero := some (.agg #[.string ByteArray.empty, .int .i64 0, .bool false]) }
theorem tyc54_ok : TyC.Ok Try.prog 54 tyc54 := ⟨(fun h => inferInstance), (fldAll ⟨(inferInstance : TyField Try.prog 54 0 0 false 1), (inferInstance : TyField Try.prog 54 1 1 false 1), (inferInstance : TyField Try.prog 54 2 2 false 1), trivial⟩), (fun e s b h => by cases h), (fun x h => by cases h), (fun v h => by cases h; infer_instance)⟩
def tyc55 : TyC := { agg := true, sz := 3, fields := [(0, false, 1), (1, false, 1), (2, false, 1)], zero := some (.agg #[.string ByteArray.empty, .int .i64 0, .bool false]) }
theorem tyc55_ok : TyC.Ok Try.prog 55 tyc55 := ⟨(fun h => inferInstance), (fldAll ⟨(inferInstance : TyField Try.prog 55 0 0 false 1), (inferInstance : TyField Try.prog 55 1 1 false 1), (inferInstance : TyField Try.prog 55 2 2 false 1), trivial⟩), (fun e s b h => by cases h), (fun x h => by cases h), (fun v h => by cases h; infer_instance)⟩
def tyc56 : TyC := { agg := true, sz := 2, fields := [(0, false, 1), (1, false, 1)], zero := some (.agg #[.int .i64 0, .bool false]) }
theorem tyc56_ok : TyC.Ok Try.prog 56 tyc56 := ⟨(fun h => inferInstance), (fldAll ⟨(inferInstance : TyField Try.prog 56 0 0 false 1), (inferInstance : TyField Try.prog 56 1 1 false 1), trivial⟩), (fun e s b h => by cases h), (fun x h => by cases h), (fun v h => by cases h; infer_instance)⟩
def tyc57 : TyC := { agg := true, sz := 2, fields := [(0, false, 1), (1, false, 1)], zero := some (.agg #[.int .i64 0, .bool false]) }
theorem tyc57_ok : TyC.Ok Try.prog 57 tyc57 := ⟨(fun h => inferInstance), (fldAll ⟨(inferInstance : TyField Try.prog 57 0 0 false 1), (inferInstance : TyField Try.prog 57 1 1 false 1), trivial⟩), (fun e s b h => by cases h), (fun x h => by cases h), (fun v h => by cases h; infer_instance)⟩
def tyc58 : TyC := { agg := true, sz := 4, zero := some (.agg #[.int .i64 0, .bool false, .int .i64 0, .bool false]) }
theorem tyc58_ok : TyC.Ok Try.prog 58 tyc58 := ⟨(fun h => inferInstance), (fun f off a s h => by cases h), (fun e s b h => by cases h), (fun x h => by cases h), (fun v h => by cases h; infer_instance)⟩
def tyc59 : TyC := { agg := true, sz := 2, zero := some (.agg #[.int .u64 0, .int .u64 0]) }
theorem tyc59_ok : TyC.Ok Try.prog 59 tyc59 := ⟨(fun h => inferInstance), (fun f off a s h => by cases h), (fun e s b h => by cases h), (fun x h => by cases h), (fun v h => by cases h; infer_instance)⟩
def tyc60 : TyC := { agg := false, sz := 1, zero := some (.nilFunc) }
theorem tyc60_ok : TyC.Ok Try.prog 60 tyc60 := ⟨(fun h => inferInstance), (fun f off a s h => by cases h), (fun e s b h => by cases h), (fun x h => by cases h), (fun v h => by cases h; infer_instance)⟩
def tyc61 : TyC := { agg := false, sz := 1, zero := some (.nilFunc) }
theorem tyc61_ok : TyC.Ok Try.prog 61 tyc61 := ⟨(fun h => inferInstance), (fun f off a s h => by cases h), (fun e s b h => by cases h), (fun x h => by cases h), (fun v h => by cases h; infer_instance)⟩
def tyc62 : TyC := { agg := false, sz := 1, zero := some (.nilFunc) }
theorem tyc62_ok : TyC.Ok Try.prog 62 tyc62 := ⟨(fun h => inferInstance), (fun f off a s h => by cases h), (fun e s b h => by cases h), (fun x h => by cases h), (fun v h => by cases h; infer_instance)⟩
def tyc63 : TyC := { agg := false, sz := 1, zero := some (.nilFunc) }
theorem tyc63_ok : TyC.Ok Try.prog 63 tyc63 := ⟨(fun h => inferInstance), (fun f off a s h => by cases h), (fun e s b h => by cases h), (fun x h => by cases h), (fun v h => by cases h; infer_instance)⟩
def tyc64 : TyC := { agg := true, sz := 2, zero := some (.agg #[.int .u8 0, .int .u8 0]) }
theorem tyc64_ok : TyC.Ok Try.prog 64 tyc64 := ⟨(fun h => inferInstance), (fun f off a s h => by cases h), (fun e s b h => by cases h), (fun x h => by cases h), (fun v h => by cases h; infer_instance)⟩
def tyc65 : TyC := { agg := false, sz := 1, zero := some (.nilFunc) }
theorem tyc65_ok : TyC.Ok Try.prog 65 tyc65 := ⟨(fun h => inferInstance), (fun f off a s h => by cases h), (fun e s b h => by cases h), (fun x h => by cases h), (fun v h => by cases h; infer_instance)⟩
def tyc66 : TyC := { agg := false, sz := 1, zero := some (.nilFunc) }
theorem tyc66_ok : TyC.Ok Try.prog 66 tyc66 := ⟨(fun h => inferInstance), (fun f off a s h => by cases h), (fun e s b h => by cases h), (fun x h => by cases h), (fun v h => by cases h; infer_instance)⟩
def tyc67 : TyC := { agg := false, sz := 1, sl := some (25, 1, 24), zero := some (.slice none 0 0) }
theorem tyc67_ok : TyC.Ok Try.prog 67 tyc67 := ⟨(fun h => inferInstance), (fun f off a s h => by cases h), (fun e s b h => by cases h; infer_instance), (fun x h => by cases h), (fun v h => by cases h; infer_instance)⟩
def tyc68 : TyC := { agg := false, sz := 1, zero := some (.nilFunc) }
theorem tyc68_ok : TyC.Ok Try.prog 68 tyc68 := ⟨(fun h => inferInstance), (fun f off a s h => by cases h), (fun e s b h => by cases h), (fun x h => by cases h), (fun v h => by cases h; infer_instance)⟩
def tyc69 : TyC := { agg := false, sz := 1, sl := some (4, 1, 1), zero := some (.slice none 0 0) }
theorem tyc69_ok : TyC.Ok Try.prog 69 tyc69 := ⟨(fun h => inferInstance), (fun f off a s h => by cases h), (fun e s b h => by cases h; infer_instance), (fun x h => by cases h), (fun v h => by cases h; infer_instance)⟩
def tyc70 : TyC := { agg := false, sz := 1, zero := some (.nilFunc) }
theorem tyc70_ok : TyC.Ok Try.prog 70 tyc70 := ⟨(fun h => inferInstance), (fun f off a s h => by cases h), (fun e s b h => by cases h), (fun x h => by cases h), (fun v h => by cases h; infer_instance)⟩
def tyc71 : TyC := { agg := false, sz := 1, zero := some (.nilFunc) }
theorem tyc71_ok : TyC.Ok Try.prog 71 tyc71 := ⟨(fun h => inferInstance), (fun f off a s h => by cases h), (fun e s b h => by cases h), (fun x h => by cases h), (fun v h => by cases h; infer_instance)⟩
def tyc72 : TyC := { agg := false, sz := 1, zero := some (.nilFunc) }
theorem tyc72_ok : TyC.Ok Try.prog 72 tyc72 := ⟨(fun h => inferInstance), (fun f off a s h => by cases h), (fun e s b h => by cases h), (fun x h => by cases h), (fun v h => by cases h; infer_instance)⟩
def tyc73 : TyC := { agg := false, sz := 1, zero := some (.nilFunc) }
theorem tyc73_ok : TyC.Ok Try.prog 73 tyc73 := ⟨(fun h => inferInstance), (fun f off a s h => by cases h), (fun e s b h => by cases h), (fun x h => by cases h), (fun v h => by cases h; infer_instance)⟩
def tyc74 : TyC := { agg := false, sz := 1, zero := some (.nilFunc) }
theorem tyc74_ok : TyC.Ok Try.prog 74 tyc74 := ⟨(fun h => inferInstance), (fun f off a s h => by cases h), (fun e s b h => by cases h), (fun x h => by cases h), (fun v h => by cases h; infer_instance)⟩
def tyc75 : TyC := { agg := false, sz := 1, zero := some (.nilFunc) }
theorem tyc75_ok : TyC.Ok Try.prog 75 tyc75 := ⟨(fun h => inferInstance), (fun f off a s h => by cases h), (fun e s b h => by cases h), (fun x h => by cases h), (fun v h => by cases h; infer_instance)⟩
def tyc76 : TyC := { agg := false, sz := 1, zero := some (.nilFunc) }
theorem tyc76_ok : TyC.Ok Try.prog 76 tyc76 := ⟨(fun h => inferInstance), (fun f off a s h => by cases h), (fun e s b h => by cases h), (fun x h => by cases h), (fun v h => by cases h; infer_instance)⟩
def tyc77 : TyC := { agg := false, sz := 1, zero := some (.nilFunc) }
theorem tyc77_ok : TyC.Ok Try.prog 77 tyc77 := ⟨(fun h => inferInstance), (fun f off a s h => by cases h), (fun e s b h => by cases h), (fun x h => by cases h), (fun v h => by cases h; infer_instance)⟩
def tyc78 : TyC := { agg := false, sz := 1, zero := some (.nilFunc) }
theorem tyc78_ok : TyC.Ok Try.prog 78 tyc78 := ⟨(fun h => inferInstance), (fun f off a s h => by cases h), (fun e s b h => by cases h), (fun x h => by cases h), (fun v h => by cases h; infer_instance)⟩
def tyc79 : TyC := { agg := false, sz := 1, zero := some (.nilFunc) }
theorem tyc79_ok : TyC.Ok Try.prog 79 tyc79 := ⟨(fun h => inferInstance), (fun f off a s h => by cases h), (fun e s b h => by cases h), (fun x h => by cases h), (fun v h => by cases h; infer_instance)⟩
def tyc80 : TyC := { agg := false, sz := 1, zero := some (.nilFunc) }
theorem tyc80_ok : TyC.Ok Try.prog 80 tyc80 := ⟨(fun h => inferInstance), (fun f off a s h => by cases h), (fun e s b h => by cases h), (fun x h => by cases h), (fun v h => by cases h; infer_instance)⟩
def tyc81 : TyC := { agg := false, sz := 1, zero := some (.nilFunc) }
theorem tyc81_ok : TyC.Ok Try.prog 81 tyc81 := ⟨(fun h => inferInstance), (fun f off a s h => by cases h), (fun e s b h => by cases h), (fun x h => by cases h), (fun v h => by cases h; infer_instance)⟩
def tyc82 : TyC := { agg := false, sz := 1, zero := some (.nilFunc) }
theorem tyc82_ok : TyC.Ok Try.prog 82 tyc82 := ⟨(fun h => inferInstance), (fun f off a s h => by cases h), (fun e s b h => by cases h), (fun x h => by cases h), (fun v h => by cases h; infer_instance)⟩
def tyc83 : TyC := { agg := false, sz := 1, zero := some (.nilFunc) }
theorem tyc83_ok : TyC.Ok Try.prog 83 tyc83 := ⟨(fun h => inferInstance), (fun f off a s h => by cases h), (fun e s b h => by cases h), (fun x h => by cases h), (fun v h => by cases h; infer_instance)⟩
def tyc84 : TyC := { agg := false, sz := 1, zero := some (.nilFunc) }
theorem tyc84_ok : TyC.Ok Try.prog 84 tyc84 := ⟨(fun h => inferInstance), (fun f off a s h => by cases h), (fun e s b h => by cases h), (fun x h => by cases h), (fun v h => by cases h; infer_instance)⟩
def tyc85 : TyC := { agg := false, sz := 1, zero := some (.nilFunc) }
theorem tyc85_ok : TyC.Ok Try.prog 85 tyc85 := ⟨(fun h => inferInstance), (fun f off a s h => by cases h), (fun e s b h => by cases h), (fun x h => by cases h), (fun v h => by cases h; infer_instance)⟩
def tyc86 : TyC := { agg := false, sz := 1, zero := some (.nilFunc) }
theorem tyc86_ok : TyC.Ok Try.prog 86 tyc86 := ⟨(fun h => inferInstance), (fun f off a s h => by cases h), (fun e s b h => by cases h), (fun x h => by cases h), (fun v h => by cases h; infer_instance)⟩
def tyc87 : TyC := { agg := false, sz := 1, zero := some (.pointer none) }
theorem tyc87_ok : TyC.Ok Try.prog 87 tyc87 := ⟨(fun h => inferInstance), (fun f off a s h => by cases h), (fun e s b h => by cases h), (fun x h => by cases h), (fun v h => by cases h; infer_instance)⟩
def tyc88 : TyC := { agg := false, sz := 1, zero := some (.nilFunc) }
theorem tyc88_ok : TyC.Ok Try.prog 88 tyc88 := ⟨(fun h => inferInstance), (fun f off a s h => by cases h), (fun e s b h => by cases h), (fun x h => by cases h), (fun v h => by cases h; infer_instance)⟩
def tyc89 : TyC := { agg := false, sz := 1, zero := some (.nilFunc) }
theorem tyc89_ok : TyC.Ok Try.prog 89 tyc89 := ⟨(fun h => inferInstance), (fun f off a s h => by cases h), (fun e s b h => by cases h), (fun x h => by cases h), (fun v h => by cases h; infer_instance)⟩
def tyc90 : TyC := { agg := false, sz := 1, zero := some (.nilFunc) }
theorem tyc90_ok : TyC.Ok Try.prog 90 tyc90 := ⟨(fun h => inferInstance), (fun f off a s h => by cases h), (fun e s b h => by cases h), (fun x h => by cases h), (fun v h => by cases h; infer_instance)⟩
def tyc91 : TyC := { agg := false, sz := 1, desc := some (.map 3 3), zero := some (.map none) }
theorem tyc91_ok : TyC.Ok Try.prog 91 tyc91 := ⟨(fun h => inferInstance), (fun f off a s h => by cases h), (fun e s b h => by cases h), (fun x h => by cases h; infer_instance), (fun v h => by cases h; infer_instance)⟩
def tyc92 : TyC := { agg := false, sz := 1, zero := some (.nilFunc) }
theorem tyc92_ok : TyC.Ok Try.prog 92 tyc92 := ⟨(fun h => inferInstance), (fun f off a s h => by cases h), (fun e s b h => by cases h), (fun x h => by cases h), (fun v h => by cases h; infer_instance)⟩
def tyc93 : TyC := { agg := false, sz := 1, zero := some (.nilFunc) }
theorem tyc93_ok : TyC.Ok Try.prog 93 tyc93 := ⟨(fun h => inferInstance), (fun f off a s h => by cases h), (fun e s b h => by cases h), (fun x h => by cases h), (fun v h => by cases h; infer_instance)⟩
def tyc94 : TyC := { agg := false, sz := 1, zero := some (.nilFunc) }
theorem tyc94_ok : TyC.Ok Try.prog 94 tyc94 := ⟨(fun h => inferInstance), (fun f off a s h => by cases h), (fun e s b h => by cases h), (fun x h => by cases h), (fun v h => by cases h; infer_instance)⟩
def tyc95 : TyC := { agg := false, sz := 1, zero := some (.nilFunc) }
theorem tyc95_ok : TyC.Ok Try.prog 95 tyc95 := ⟨(fun h => inferInstance), (fun f off a s h => by cases h), (fun e s b h => by cases h), (fun x h => by cases h), (fun v h => by cases h; infer_instance)⟩
def tyc96 : TyC := { agg := false, sz := 1, desc := some (.int .i64), zero := some (.int .i64 0) }
theorem tyc96_ok : TyC.Ok Try.prog 96 tyc96 := ⟨(fun h => inferInstance), (fun f off a s h => by cases h), (fun e s b h => by cases h), (fun x h => by cases h; infer_instance), (fun v h => by cases h; infer_instance)⟩
def tyc98 : TyC := { agg := false, sz := 1, zero := some (.nilFunc) }
theorem tyc98_ok : TyC.Ok Try.prog 98 tyc98 := ⟨(fun h => inferInstance), (fun f off a s h => by cases h), (fun e s b h => by cases h), (fun x h => by cases h), (fun v h => by cases h; infer_instance)⟩
def tyc99 : TyC := { agg := false, sz := 1, zero := some (.nilFunc) }
theorem tyc99_ok : TyC.Ok Try.prog 99 tyc99 := ⟨(fun h => inferInstance), (fun f off a s h => by cases h), (fun e s b h => by cases h), (fun x h => by cases h), (fun v h => by cases h; infer_instance)⟩
def tyc100 : TyC := { agg := false, sz := 1, zero := some (.nilFunc) }
theorem tyc100_ok : TyC.Ok Try.prog 100 tyc100 := ⟨(fun h => inferInstance), (fun f off a s h => by cases h), (fun e s b h => by cases h), (fun x h => by cases h), (fun v h => by cases h; infer_instance)⟩
def tyc101 : TyC := { agg := false, sz := 1, zero := some (.nilFunc) }
theorem tyc101_ok : TyC.Ok Try.prog 101 tyc101 := ⟨(fun h => inferInstance), (fun f off a s h => by cases h), (fun e s b h => by cases h), (fun x h => by cases h), (fun v h => by cases h; infer_instance)⟩
def tyc102 : TyC := { agg := false, sz := 1, zero := some (.nilFunc) }
theorem tyc102_ok : TyC.Ok Try.prog 102 tyc102 := ⟨(fun h => inferInstance), (fun f off a s h => by cases h), (fun e s b h => by cases h), (fun x h => by cases h), (fun v h => by cases h; infer_instance)⟩
def tyc103 : TyC := { agg := false, sz := 1, zero := some (.nilFunc) }
theorem tyc103_ok : TyC.Ok Try.prog 103 tyc103 := ⟨(fun h => inferInstance), (fun f off a s h => by cases h), (fun e s b h => by cases h), (fun x h => by cases h), (fun v h => by cases h; infer_instance)⟩
def tyc104 : TyC := { agg := false, sz := 1, zero := some (.nilFunc) }
theorem tyc104_ok : TyC.Ok Try.prog 104 tyc104 := ⟨(fun h => inferInstance), (fun f off a s h => by cases h), (fun e s b h => by cases h), (fun x h => by cases h), (fun v h => by cases h; infer_instance)⟩
def tyc105 : TyC := { agg := false, sz := 1, zero := some (.pointer none) }
theorem tyc105_ok : TyC.Ok Try.prog 105 tyc105 := ⟨(fun h => inferInstance), (fun f off a s h => by cases h), (fun e s b h => by cases h), (fun x h => by cases h), (fun v h => by cases h; infer_instance)⟩
def tyc106 : TyC := { agg := true, sz := 8, fields := [(0, true, 6), (6, false, 1), (7, false, 1)], zero := some (.agg #[.string ByteArray.empty, .slice none 0 0, .slice none 0 0, .slice none 0 0, .slice none 0 0, .slice none 0 0, .slice none 0 0, .slice none 0 0]) }
theorem tyc106_ok : TyC.Ok Try.prog 106 tyc106 := ⟨(fun h => inferInstance), (fldAll ⟨(inferInstance : TyField Try.prog 106 0 0 true 6), (inferInstance : TyField Try.prog 106 1 6 false 1), (inferInstance : TyField Try.prog 106 2 7 false 1), trivial⟩), (fun e s b h => by cases h), (fun x h => by cases h), (fun v h => by cases h; infer_instance)⟩
def tyc107 : TyC := { agg := true, sz := 8, fields := [(0, true, 6), (6, false, 1), (7, false, 1)], zero := some (.agg #[.string ByteArray.empty, .slice none 0 0, .slice none 0 0, .slice none 0 0, .slice none 0 0, .slice none 0 0, .slice none 0 0, .slice none 0 0]) }
theorem tyc107_ok : TyC.Ok Try.prog 107 tyc107 := ⟨(fun h => inferInstance), (fldAll ⟨(inferInstance : TyField Try.prog 107 0 0 true 6), (inferInstance : TyField Try.prog 107 1 6 false 1), (inferInstance : TyField Try.prog 107 2 7 false 1), trivial⟩), (fun e s b h => by cases h), (fun x h => by cases h), (fun v h => by cases h; infer_instance)⟩
def tyc108 : TyC := { agg := false, sz := 1, zero := some (.nilFunc) }
theorem tyc108_ok : TyC.Ok Try.prog 108 tyc108 := ⟨(fun h => inferInstance), (fun f off a s h => by cases h), (fun e s b h => by cases h), (fun x h => by cases h), (fun v h => by cases h; infer_instance)⟩
def tyc109 : TyC := { agg := false, sz := 1, zero := some (.nilFunc) }
theorem tyc109_ok : TyC.Ok Try.prog 109 tyc109 := ⟨(fun h => inferInstance), (fun f off a s h => by cases h), (fun e s b h => by cases h), (fun x h => by cases h), (fun v h => by cases h; infer_instance)⟩
def tyc110 : TyC := { agg := false, sz := 1, zero := some (.nilFunc) }
theorem tyc110_ok : TyC.Ok Try.prog 110 tyc110 := ⟨(fun h => inferInstance), (fun f off a s h => by cases h), (fun e s b h => by cases h), (fun x h => by cases h), (fun v h => by cases h; infer_instance)⟩
def tyc111 : TyC := { agg := false, sz := 1, zero := some (.nilFunc) }
theorem tyc111_ok : TyC.Ok Try.prog 111 tyc111 := ⟨(fun h => inferInstance), (fun f off a s h => by cases h), (fun e s b h => by cases h), (fun x h => by cases h), (fun v h => by cases h; infer_instance)⟩
def tyc112 : TyC := { agg := false, sz := 1, zero := some (.nilFunc) }
theorem tyc112_ok : TyC.Ok Try.prog 112 tyc112 := ⟨(fun h => inferInstance), (fun f off a s h => by cases h), (fun e s b h => by cases h), (fun x h => by cases h), (fun v h => by cases h; infer_instance)⟩
def tyc113 : TyC := { agg := false, sz := 1, sl := some (9, 1, 16), zero := some (.slice none 0 0) }
theorem tyc113_ok : TyC.Ok Try.prog 113 tyc113 := ⟨(fun h => inferInstance), (fun f off a s h => by cases h), (fun e s b h => by cases h; infer_instance), (fun x h => by cases h), (fun v h => by cases h; infer_instance)⟩
def tyc114 : TyC := { agg := false, sz := 1, zero := some (.nilFunc) }
theorem tyc114_ok : TyC.Ok Try.prog 114 tyc114 := ⟨(fun h => inferInstance), (fun f off a s h => by cases h), (fun e s b h => by cases h), (fun x h => by cases h), (fun v h => by cases h; infer_instance)⟩
def tyc115 : TyC := { agg := false, sz := 1, zero := some (.nilFunc) }
theorem tyc115_ok : TyC.Ok Try.prog 115 tyc115 := ⟨(fun h => inferInstance), (fun f off a s h => by cases h), (fun e s b h => by cases h), (fun x h => by cases h), (fun v h => by cases h; infer_instance)⟩
def tyc116 : TyC := { agg := false, sz := 1, zero := some (.nilFunc) }
theorem tyc116_ok : TyC.Ok Try.prog 116 tyc116 := ⟨(fun h => inferInstance), (fun f off a s h => by cases h), (fun e s b h => by cases h), (fun x h => by cases h), (fun v h => by cases h; infer_instance)⟩
def tyc117 : TyC := { agg := false, sz := 1, zero := some (.nilFunc) }
theorem tyc117_ok : TyC.Ok Try.prog 117 tyc117 := ⟨(fun h => inferInstance), (fun f off a s h => by cases h), (fun e s b h => by cases h), (fun x h => by cases h), (fun v h => by cases h; infer_instance)⟩
def tyc118 : TyC := { agg := false, sz := 1, zero := some (.nilFunc) }
theorem tyc118_ok : TyC.Ok Try.prog 118 tyc118 := ⟨(fun h => inferInstance), (fun f off a s h => by cases h), (fun e s b h => by cases h), (fun x h => by cases h), (fun v h => by cases h; infer_instance)⟩
def tyc119 : TyC := { agg := false, sz := 1, zero := some (.nilFunc) }
theorem tyc119_ok : TyC.Ok Try.prog 119 tyc119 := ⟨(fun h => inferInstance), (fun f off a s h => by cases h), (fun e s b h => by cases h), (fun x h => by cases h), (fun v h => by cases h; infer_instance)⟩
def tyc120 : TyC := { agg := false, sz := 1, zero := some (.nilFunc) }
theorem tyc120_ok : TyC.Ok Try.prog 120 tyc120 := ⟨(fun h => inferInstance), (fun f off a s h => by cases h), (fun e s b h => by cases h), (fun x h => by cases h), (fun v h => by cases h; infer_instance)⟩
def tyc121 : TyC := { agg := false, sz := 1, zero := some (.nilFunc) }
theorem tyc121_ok : TyC.Ok Try.prog 121 tyc121 := ⟨(fun h => inferInstance), (fun f off a s h => by cases h), (fun e s b h => by cases h), (fun x h => by cases h), (fun v h => by cases h; infer_instance)⟩
def tyc122 : TyC := { agg := false, sz := 1, zero := some (.nilFunc) }
theorem tyc122_ok : TyC.Ok Try.prog 122 tyc122 := ⟨(fun h => inferInstance), (fun f off a s h => by cases h), (fun e s b h => by cases h), (fun x h => by cases h), (fun v h => by cases h; infer_instance)⟩
def tyc123 : TyC := { agg := false, sz := 1, zero := some (.nilFunc) }
theorem tyc123_ok : TyC.Ok Try.prog 123 tyc123 := ⟨(fun h => inferInstance), (fun f off a s h => by cases h), (fun e s b h => by cases h), (fun x h => by cases h), (fun v h => by cases h; infer_instance)⟩
def tyc124 : TyC := { agg := false, sz := 1, zero := some (.nilFunc) }
theorem tyc124_ok : TyC.Ok Try.prog 124 tyc124 := ⟨(fun h => inferInstance), (fun f off a s h => by cases h), (fun e s b h => by cases h), (fun x h => by cases h), (fun v h => by cases h; infer_instance)⟩
def tyc125 : TyC := { agg := false, sz := 1, zero := some (.nilFunc) }
theorem tyc125_ok : TyC.Ok Try.prog 125 tyc125 := ⟨(fun h => inferInstance), (fun f off a s h => by cases h), (fun e s b h => by cases h), (fun x h => by cases h), (fun v h => by cases h; infer_instance)⟩
def tyc126 : TyC := { agg := false, sz := 1, zero := some (.nilFunc) }
theorem tyc126_ok : TyC.Ok Try.prog 126 tyc126 := ⟨(fun h => inferInstance), (fun f off a s h => by cases h), (fun e s b h => by cases h), (fun x h => by cases h), (fun v h => by cases h; infer_instance)⟩
def tyc127 : TyC := { agg := false, sz := 1, zero := some (.nilFunc) }
theorem tyc127_ok : TyC.Ok Try.prog 127 tyc127 := ⟨(fun h => inferInstance), (fun f off a s h => by cases h), (fun e s b h => by cases h), (fun x h => by cases h), (fun v h => by cases h; infer_instance)⟩
def tyc128 : TyC := { agg := false, sz := 1, zero := some (.nilFunc) }
theorem tyc128_ok : TyC.Ok Try.prog 128 tyc128 := ⟨(fun h => inferInstance), (fun f off a s h => by cases h), (fun e s b h => by cases h), (fun x h => by cases h), (fun v h => by cases h; infer_instance)⟩
def tyc129 : TyC := { agg := false, sz := 1, zero := some (.nilFunc) }
theorem tyc129_ok : TyC.Ok Try.prog 129 tyc129 := ⟨(fun h => inferInstance), (fun f off a s h => by cases h), (fun e s b h => by cases h), (fun x h => by cases h), (fun v h => by cases h; infer_instance)⟩
def tyc131 : TyC := { agg := false, sz := 1, zero := some (.nilFunc) }
theorem tyc131_ok : TyC.Ok Try.prog 131 tyc131 := ⟨(fun h => inferInstance), (fun f off a s h => by cases h), (fun e s b h => by cases h), (fun x h => by cases h), (fun v h => by cases h; infer_instance)⟩
def tyc132 : TyC := { agg := false, sz := 1, zero := some (.nilFunc) }
theorem tyc132_ok : TyC.Ok Try.prog 132 tyc132 := ⟨(fun h => inferInstance), (fun f off a s h => by cases h), (fun e s b h => by cases h), (fun x h => by cases h), (fun v h => by cases h; infer_instance)⟩
def tyc133 : TyC := { agg := false, sz := 1, sl := some (5, 1, 1), zero := some (.slice none 0 0) }
theorem tyc133_ok : TyC.Ok Try.prog 133 tyc133 := ⟨(fun h => inferInstance), (fun f off a s h => by cases h), (fun e s b h => by cases h; infer_instance), (fun x h => by cases h), (fun v h => by cases h; infer_instance)⟩
def tyc134 : TyC := { agg := false, sz := 1, desc := some (.map 9 4), zero := some (.map none) }
theorem tyc134_ok : TyC.Ok Try.prog 134 tyc134 := ⟨(fun h => inferInstance), (fun f off a s h => by cases h), (fun e s b h => by cases h), (fun x h => by cases h; infer_instance), (fun v h => by cases h; infer_instance)⟩
def tyc135 : TyC := { agg := false, sz := 1, zero := some (.nilFunc) }
theorem tyc135_ok : TyC.Ok Try.prog 135 tyc135 := ⟨(fun h => inferInstance), (fun f off a s h => by cases h), (fun e s b h => by cases h), (fun x h => by cases h), (fun v h => by cases h; infer_instance)⟩
def tyc136 : TyC := { agg := false, sz := 1, zero := some (.nilFunc) }
theorem tyc136_ok : TyC.Ok Try.prog 136 tyc136 := ⟨(fun h => inferInstance), (fun f off a s h => by cases h), (fun e s b h => by cases h), (fun x h => by cases h), (fun v h => by cases h; infer_instance)⟩
def tyc137 : TyC := { agg := false, sz := 1, zero := some (.nilFunc) }
theorem tyc137_ok : TyC.Ok Try.prog 137 tyc137 := ⟨(fun h => inferInstance), (fun f off a s h => by cases h), (fun e s b h => by cases h), (fun x h => by cases h), (fun v h => by cases h; infer_instance)⟩
def tyc138 : TyC := { agg := false, sz := 1, zero := some (.nilFunc) }
theorem tyc138_ok : TyC.Ok Try.prog 138 tyc138 := ⟨(fun h => inferInstance), (fun f off a s h => by cases h), (fun e s b h => by cases h), (fun x h => by cases h), (fun v h => by cases h; infer_instance)⟩
def tyc139 : TyC := { agg := false, sz := 1, zero := some (.nilFunc) }
theorem tyc139_ok : TyC.Ok Try.prog 139 tyc139 := ⟨(fun h => inferInstance), (fun f off a s h => by cases h), (fun e s b h => by cases h), (fun x h => by cases h), (fun v h => by cases h; infer_instance)⟩
def tyc140 : TyC := { agg := false, sz := 1, zero := some (.nilFunc) }
theorem tyc140_ok : TyC.Ok Try.prog 140 tyc140 := ⟨(fun h => inferInstance), (fun f off a s h => by cases h), (fun e s b h => by cases h), (fun x h => by cases h), (fun v h => by cases h; infer_instance)⟩
def tyc141 : TyC := { agg := false, sz := 1, zero := some (.nilFunc) }
theorem tyc141_ok : TyC.Ok Try.prog 141 tyc141 := ⟨(fun h => inferInstance), (fun f off a s h => by cases h), (fun e s b h => by cases h), (fun x h => by cases h), (fun v h => by cases h; infer_instance)⟩
def tyc142 : TyC := { agg := false, sz := 1, desc := some (.int .u64), zero := some (.int .u64 0) }
theorem tyc142_ok : TyC.Ok Try.prog 142 tyc142 := ⟨(fun h => inferInstance), (fun f off a s h => by cases h), (fun e s b h => by cases h), (fun x h => by cases h; infer_instance), (fun v h => by cases h; infer_instance)⟩
def tyc143 : TyC := { agg := false, sz := 1, zero := some (.nilFunc) }
theorem tyc143_ok : TyC.Ok Try.prog 143 tyc143 := ⟨(fun h => inferInstance), (fun f off a s h => by cases h), (fun e s b h => by cases h), (fun x h => by cases h), (fun v h => by cases h; infer_instance)⟩
def tyc144 : TyC := { agg := true, sz := 3, zero := some (.agg #[.int .i64 0, .int .i64 0, .int .i64 0]) }
theorem tyc144_ok : TyC.Ok Try.prog 144 tyc144 := ⟨(fun h => inferInstance), (fun f off a s h => by cases h), (fun e s b h => by cases h), (fun x h => by cases h), (fun v h => by cases h; infer_instance)⟩
def tyc145 : TyC := { agg := false, sz := 1, zero := some (.nilFunc) }
theorem tyc145_ok : TyC.Ok Try.prog 145 tyc145 := ⟨(fun h => inferInstance), (fun f off a s h => by cases h), (fun e s b h => by cases h), (fun x h => by cases h), (fun v h => by cases h; infer_instance)⟩
def tyc146 : TyC := { agg := false, sz := 1, zero := some (.nilFunc) }
theorem tyc146_ok : TyC.Ok Try.prog 146 tyc146 := ⟨(fun h => inferInstance), (fun f off a s h => by cases h), (fun e s b h => by cases h), (fun x h => by cases h), (fun v h => by cases h; infer_instance)⟩
def tyc147 : TyC := { agg := false, sz := 1, zero := some (.nilFunc) }
theorem tyc147_ok : TyC.Ok Try.prog 147 tyc147 := ⟨(fun h => inferInstance), (fun f off a s h => by cases h), (fun e s b h => by cases h), (fun x h => by cases h), (fun v h => by cases h; infer_instance)⟩
def tyc148 : TyC := { agg := false, sz := 1, desc := some (.int .i64), zero := some (.int .i64 0) }
theorem tyc148_ok : TyC.Ok Try.prog 148 tyc148 := ⟨(fun h => inferInstance), (fun f off a s h => by cases h), (fun e s b h => by cases h), (fun x h => by cases h; infer_instance), (fun v h => by cases h; infer_instance)⟩
def tyc150 : TyC := { agg := false, sz := 1, zero := some (.nilFunc) }
theorem tyc150_ok : TyC.Ok Try.prog 150 tyc150 := ⟨(fun h => inferInstance), (fun f off a s h => by cases h), (fun e s b h => by cases h), (fun x h => by cases h), (fun v h => by cases h; infer_instance)⟩
def tyc151 : TyC := { agg := false, sz := 1, zero := some (.nilFunc) }
theorem tyc151_ok : TyC.Ok Try.prog 151 tyc151 := ⟨(fun h => inferInstance), (fun f off a s h => by cases h), (fun e s b h => by cases h), (fun x h => by cases h), (fun v h => by cases h; infer_instance)⟩
def tyc152 : TyC := { agg := false, sz := 1, zero := some (.nilFunc) }
theorem tyc152_ok : TyC.Ok Try.prog 152 tyc152 := ⟨(fun h => inferInstance), (fun f off a s h => by cases h), (fun e s b h => by cases h), (fun x h => by cases h), (fun v h => by cases h; infer_instance)⟩
def tyc153 : TyC := { agg := false, sz := 1, zero := some (.nilFunc) }
theorem tyc153_ok : TyC.Ok Try.prog 153 tyc153 := ⟨(fun h => inferInstance), (fun f off a s h => by cases h), (fun e s b h => by cases h), (fun x h => by cases h), (fun v h => by cases h; infer_instance)⟩
def tyc154 : TyC := { agg := false, sz := 1, zero := some (.nilFunc) }
theorem tyc154_ok : TyC.Ok Try.prog 154 tyc154 := ⟨(fun h => inferInstance), (fun f off a s h => by cases h), (fun e s b h => by cases h), (fun x h => by cases h), (fun v h => by cases h; infer_instance)⟩
def tyc155 : TyC := { agg := false, sz := 1, desc := some (.int .u32), zero := some (.int .u32 0) }
theorem tyc155_ok : TyC.Ok Try.prog 155 tyc155 := ⟨(fun h => inferInstance), (fun f off a s h => by cases h), (fun e s b h => by cases h), (fun x h => by cases h; infer_instance), (fun v h => by cases h; infer_instance)⟩
def tyc156 : TyC := { agg := false, sz := 1, zero := some (.nilFunc) }
theorem tyc156_ok : TyC.Ok Try.prog 156 tyc156 := ⟨(fun h => inferInstance), (fun f off a s h => by cases h), (fun e s b h => by cases h), (fun x h => by cases h), (fun v h => by cases h; infer_instance)⟩
def tyc157 : TyC := { agg := false, sz := 1, desc := some (.int .u64), zero := some (.int .u64 0) }
theorem tyc157_ok : TyC.Ok Try.prog 157 tyc157 := ⟨(fun h => inferInstance), (fun f off a s h => by cases h), (fun e s b h => by cases h), (fun x h => by cases h; infer_instance), (fun v h => by cases h; infer_instance)⟩
def tyc158 : TyC := { agg := false, sz := 1, zero := some (.nilFunc) }
theorem tyc158_ok : TyC.Ok Try.prog 158 tyc158 := ⟨(fun h => inferInstance), (fun f off a s h => by cases h), (fun e s b h => by cases h), (fun x h => by cases h), (fun v h => by cases h; infer_instance)⟩
def tyc159 : TyC := { agg := false, sz := 1, zero := some (.nilFunc) }
theorem tyc159_ok : TyC.Ok Try.prog 159 tyc159 := ⟨(fun h => inferInstance), (fun f off a s h => by cases h), (fun e s b h => by cases h), (fun x h => by cases h), (fun v h => by cases h; infer_instance)⟩
def tyc160 : TyC := { agg := false, sz := 1, zero := some (.nilFunc) }
theorem tyc160_ok : TyC.Ok Try.prog 160 tyc160 := ⟨(fun h => inferInstance), (fun f off a s h => by cases h), (fun e s b h => by cases h), (fun x h => by cases h), (fun v h => by cases h; infer_instance)⟩
def tyc161 : TyC := { agg := false, sz := 1, zero := some (.pointer none) }
theorem tyc161_ok : TyC.Ok Try.prog 161 tyc161 := ⟨(fun h => inferInstance), (fun f off a s h => by cases h), (fun e s b h => by cases h), (fun x h => by cases h), (fun v h => by cases h; infer_instance)⟩
def tyc162 : TyC := { agg := false, sz := 1, zero := some (.nilFunc) }
theorem tyc162_ok : TyC.Ok Try.prog 162 tyc162 := ⟨(fun h => inferInstance), (fun f off a s h => by cases h), (fun e s b h => by cases h), (fun x h => by cases h), (fun v h => by cases h; infer_instance)⟩
def tyc163 : TyC := { agg := false, sz := 1, zero := some (.pointer none) }
theorem tyc163_ok : TyC.Ok Try.prog 163 tyc163 := ⟨(fun h => inferInstance), (fun f off a s h => by cases h), (fun e s b h => by cases h), (fun x h => by cases h), (fun v h => by cases h; infer_instance)⟩
def tyc165 : TyC := { agg := false, sz := 1, zero := some (.nilFunc) }
theorem tyc165_ok : TyC.Ok Try.prog 165 tyc165 := ⟨(fun h => inferInstance), (fun f off a s h => by cases h), (fun e s b h => by cases h), (fun x h => by cases h), (fun v h => by cases h; infer_instance)⟩
def tyc166 : TyC := { agg := false, sz := 1, zero := some (.nilFunc) }
theorem tyc166_ok : TyC.Ok Try.prog 166 tyc166 := ⟨(fun h => inferInstance), (fun f off a s h => by cases h), (fun e s b h => by cases h), (fun x h => by cases h), (fun v h => by cases h; infer_instance)⟩
def tyc167 : TyC := { agg := true, sz := 4, fields := [(0, false, 1), (1, false, 1), (2, false, 1), (3, false, 1)], zero := some (.agg #[.pointer none, .pointer none, .pointer none, .string ByteArray.empty]) }
theorem tyc167_ok : TyC.Ok Try.prog 167 tyc167 := ⟨(fun h => inferInstance), (fldAll ⟨(inferInstance : TyField Try.prog 167 0 0 false 1), (inferInstance : TyField Try.prog 167 1 1 false 1), (inferInstance : TyField Try.prog 167 2 2 false 1), (inferInstance : TyField Try.prog 167 3 3 false 1), trivial⟩), (fun e s b h => by cases h), (fun x h => by cases h), (fun v h => by cases h; infer_instance)⟩
def tyc168 : TyC := { agg := true, sz := 4, fields := [(0, false, 1), (1, false, 1), (2, false, 1), (3, false, 1)], zero := some (.agg #[.pointer none, .pointer none, .pointer none, .string ByteArray.empty]) }
theorem tyc168_ok : TyC.Ok Try.prog 168 tyc168 := ⟨(fun h => inferInstance), (fldAll ⟨(inferInstance : TyField Try.prog 168 0 0 false 1), (inferInstance : TyField Try.prog 168 1 1 false 1), (inferInstance : TyField Try.prog 168 2 2 false 1), (inferInstance : TyField Try.prog 168 3 3 false 1), trivial⟩), (fun e s b h => by cases h), (fun x h => by cases h), (fun v h => by cases h; infer_instance)⟩
def tyc169 : TyC := { agg := true, sz := 0, zero := some (.agg #[]) }
theorem tyc169_ok : TyC.Ok Try.prog 169 tyc169 := ⟨(fun h => by cases h), (fun f off a s h => by cases h), (fun e s b h => by cases h), (fun x h => by cases h), (fun v h => by cases h; infer_instance)⟩
def tyc170 : TyC := { agg := true, sz := 0, zero := some (.agg #[]) }
theorem tyc170_ok : TyC.Ok Try.prog 170 tyc170 := ⟨(fun h => by cases h), (fun f off a s h => by cases h), (fun e s b h => by cases h), (fun x h => by cases h), (fun v h => by cases h; infer_instance)⟩
def tyc171 : TyC := { agg := true, sz := 0, zero := some (.agg #[]) }
theorem tyc171_ok : TyC.Ok Try.prog 171 tyc171 := ⟨(fun h => by cases h), (fun f off a s h => by cases h), (fun e s b h => by cases h), (fun x h => by cases h), (fun v h => by cases h; infer_instance)⟩
def tyc172 : TyC := { agg := false, sz := 1, zero := some (.nilFunc) }
theorem tyc172_ok : TyC.Ok Try.prog 172 tyc172 := ⟨(fun h => inferInstance), (fun f off a s h => by cases h), (fun e s b h => by cases h), (fun x h => by cases h), (fun v h => by cases h; infer_instance)⟩
def tyc173 : TyC := { agg := false, sz := 1, desc := some (.int .u8), zero := some (.int .u8 0) }
theorem tyc173_ok : TyC.Ok Try.prog 173 tyc173 := ⟨(fun h => inferInstance), (fun f off a s h => by cases h), (fun e s b h => by cases h), (fun x h => by cases h; infer_instance), (fun v h => by cases h; infer_instance)⟩
def tyc174 : TyC := { agg := false, sz := 1, desc := some (.int .u8), zero := some (.int .u8 0) }
theorem tyc174_ok : TyC.Ok Try.prog 174 tyc174 := ⟨(fun h => inferInstance), (fun f off a s h => by cases h), (fun e s b h => by cases h), (fun x h => by cases h; infer_instance), (fun v h => by cases h; infer_instance)⟩
def tyc175 : TyC := { agg := false, sz := 1, zero := some (.nilFunc) }
theorem tyc175_ok : TyC.Ok Try.prog 175 tyc175 := ⟨(fun h => inferInstance), (fun f off a s h => by cases h), (fun e s b h => by cases h), (fun x h => by cases h), (fun v h => by cases h; infer_instance)⟩
def tyc176 : TyC := { agg := false, sz := 1, zero := some (.pointer none) }
theorem tyc176_ok : TyC.Ok Try.prog 176 tyc176 := ⟨(fun h => inferInstance), (fun f off a s h => by cases h), (fun e s b h => by cases h), (fun x h => by cases h), (fun v h => by cases h; infer_instance)⟩
def tyc177 : TyC := { agg := false, sz := 1, desc := some (.int .i32), zero := some (.int .i32 0) }
theorem tyc177_ok : TyC.Ok Try.prog 177 tyc177 := ⟨(fun h => inferInstance), (fun f off a s h => by cases h), (fun e s b h => by cases h), (fun x h => by cases h; infer_instance), (fun v h => by cases h; infer_instance)⟩
def tyc178 : TyC := { agg := false, sz := 1, desc := some (.int .i32), zero := some (.int .i32 0) }
theorem tyc178_ok : TyC.Ok Try.prog 178 tyc178 := ⟨(fun h => inferInstance), (fun f off a s h => by cases h), (fun e s b h => by cases h), (fun x h => by cases h; infer_instance), (fun v h => by cases h; infer_instance)⟩
def tyc179 : TyC := { agg := true, sz := 11, fields := [(0, false, 1), (1, false, 1), (2, false, 1), (3, false, 1), (4, false, 1), (5, false, 1), (6, false, 1), (7, false, 1), (8, false, 1), (9, false, 1), (10, false, 1)], zero := some (.agg #[.int .u64 0, .int .u64 0, .int .u32 0, .int .u8 0, .int .u8 0, .int .u8 0, .int .u8 0, .nilFunc, .pointer none, .int .i32 0, .int .i32 0]) }
theorem tyc179_ok : TyC.Ok Try.prog 179 tyc179 := ⟨(fun h => inferInstance), (fldAll ⟨(inferInstance : TyField Try.prog 179 0 0 false 1), (inferInstance : TyField Try.prog 179 1 1 false 1), (inferInstance : TyField Try.prog 179 2 2 false 1), (inferInstance : TyField Try.prog 179 3 3 false 1), (inferInstance : TyField Try.prog 179 4 4 false 1), (inferInstance : TyField Try.prog 179 5 5 false 1), (inferInstance : TyField Try.prog 179 6 6 false 1), (inferInstance : TyField Try.prog 179 7 7 false 1), (inferInstance : TyField Try.prog 179 8 8 false 1), (inferInstance : TyField Try.prog 179 9 9 false 1), (inferInstance : TyField Try.prog 179 10 10 false 1), trivial⟩), (fun e s b h => by cases h), (fun x h => by cases h), (fun v h => by cases h; infer_instance)⟩
def tyc180 : TyC := { agg := true, sz := 11, fields := [(0, false, 1), (1, false, 1), (2, false, 1), (3, false, 1), (4, false, 1), (5, false, 1), (6, false, 1), (7, false, 1), (8, false, 1), (9, false, 1), (10, false, 1)], zero := some (.agg #[.int .u64 0, .int .u64 0, .int .u32 0, .int .u8 0, .int .u8 0, .int .u8 0, .int .u8 0, .nilFunc, .pointer none, .int .i32 0, .int .i32 0]) }
theorem tyc180_ok : TyC.Ok Try.prog 180 tyc180 := ⟨(fun h => inferInstance), (fldAll ⟨(inferInstance : TyField Try.prog 180 0 0 false 1), (inferInstance : TyField Try.prog 180 1 1 false 1), (inferInstance : TyField Try.prog 180 2 2 false 1), (inferInstance : TyField Try.prog 180 3 3 false 1), (inferInstance : TyField Try.prog 180 4 4 false 1), (inferInstance : TyField Try.prog 180 5 5 false 1), (inferInstance : TyField Try.prog 180 6 6 false 1), (inferInstance : TyField Try.prog 180 7 7 false 1), (inferInstance : TyField Try.prog 180 8 8 false 1), (inferInstance : TyField Try.prog 180 9 9 false 1), (inferInstance : TyField Try.prog 180 10 10 false 1), trivial⟩), (fun e s b h => by cases h), (fun x h => by cases h), (fun v h => by cases h; infer_instance)⟩
def tycs (t : TypeId) : TyC := (bif Nat.blt t 90 then (bif Nat.blt t 46 then (bif Nat.blt t 22 then (bif Nat.blt t 11 then (bif Nat.blt t 6 then (bif Nat.blt t 3 then (bif Nat.blt t 2 then (bif Nat.beq t 1 then tyc1 else {}) else (bif Nat.beq t 2 then tyc2 else {})) else (bif Nat.blt t 4 then (bif Nat.beq t 3 then tyc3 else {}) else (bif Nat.blt t 5 then (bif Nat.beq t 4 then tyc4 else {}) else (bif Nat.beq t 5 then tyc5 else {})))) else (bif Nat.blt t 8 then (bif Nat.blt t 7 then (bif Nat.beq t 6 then tyc6 else {}) else (bif Nat.beq t 7 then tyc7 else {})) else (bif Nat.blt t 9 then (bif Nat.beq t 8 then tyc8 else {}) else (bif Nat.blt t 10 then (bif Nat.beq t 9 then tyc9 else {}) else (bif Nat.beq t 10 then tyc10 else {}))))) else (bif Nat.blt t 16 then (bif Nat.blt t 13 then (bif Nat.blt t 12 then (bif Nat.beq t 11 then tyc11 else {}) else (bif Nat.beq t 12 then tyc12 else {})) else (bif Nat.blt t 14 then (bif Nat.beq t 13 then tyc13 else {}) else (bif Nat.blt t 15 then (bif Nat.beq t 14 then tyc14 else {}) else (bif Nat.beq t 15 then tyc15 else {})))) else (bif Nat.blt t 19 then (bif Nat.blt t 17 then (bif Nat.beq t 16 then tyc16 else {}) else (bif Nat.blt t 18 then (bif Nat.beq t 17 then tyc17 else {}) else (bif Nat.beq t 18 then tyc18 else {}))) else (bif Nat.blt t 20 then (bif Nat.beq t 19 then tyc19 else {}) else (bif Nat.blt t 21 then (bif Nat.beq t 20 then tyc20 else {}) else (bif Nat.beq t 21 then tyc21 else {})))))) else (bif Nat.blt t 34 then (bif Nat.blt t 27 then (bif Nat.blt t 24 then (bif Nat.blt t 23 then (bif Nat.beq t 22 then tyc22 else {}) else (bif Nat.beq t 23 then tyc23 else {})) else (bif Nat.blt t 25 then (bif Nat.beq t 24 then tyc24 else {}) else (bif Nat.blt t 26 then (bif Nat.beq t 25 then tyc25 else {}) else (bif Nat.beq t 26 then tyc26 else {})))) else (bif Nat.blt t 30 then (bif Nat.blt t 28 then (bif Nat.beq t 27 then tyc27 else {}) else (bif Nat.blt t 29 then (bif Nat.beq t 28 then tyc28 else {}) else (bif Nat.beq t 29 then tyc29 else {}))) else (bif Nat.blt t 31 then (bif Nat.beq t 30 then tyc30 else {}) else (bif Nat.blt t 33 then (bif Nat.beq t 31 then tyc31 else {}) else (bif Nat.beq t 33 then tyc33 else {}))))) else (bif Nat.blt t 39 then (bif Nat.blt t 36 then (bif Nat.blt t 35 then (bif Nat.beq t 34 then tyc34 else {}) else (bif Nat.beq t 35 then tyc35 else {})) else (bif Nat.blt t 37 then (bif Nat.beq t 36 then tyc36 else {}) else (bif Nat.blt t 38 then (bif Nat.beq t 37 then tyc37 else {}) else (bif Nat.beq t 38 then tyc38 else {})))) else (bif Nat.blt t 43 then (bif Nat.blt t 40 then (bif Nat.beq t 39 then tyc39 else {}) else (bif Nat.blt t 41 then (bif Nat.beq t 40 then tyc40 else {}) else (bif Nat.beq t 41 then tyc41 else {}))) else (bif Nat.blt t 44 then (bif Nat.beq t 43 then tyc43 else {}) else (bif Nat.blt t 45 then (bif Nat.beq t 44 then tyc44 else {}) else (bif Nat.beq t 45 then tyc45 else {}))))))) else (bif Nat.blt t 68 then (bif Nat.blt t 57 then (bif Nat.blt t 51 then (bif Nat.blt t 48 then (bif Nat.blt t 47 then (bif Nat.beq t 46 then tyc46 else {}) else (bif Nat.beq t 47 then tyc47 else {})) else (bif Nat.blt t 49 then (bif Nat.beq t 48 then tyc48 else {}) else (bif Nat.blt t 50 then (bif Nat.beq t 49 then tyc49 else {}) else (bif Nat.beq t 50 then tyc50 else {})))) else (bif Nat.blt t 54 then (bif Nat.blt t 52 then (bif Nat.beq t 51 then tyc51 else {}) else (bif Nat.blt t 53 then (bif Nat.beq t 52 then tyc52 else {}) else (bif Nat.beq t 53 then tyc53 else {}))) else (bif Nat.blt t 55 then (bif Nat.beq t 54 then tyc54 else {}) else (bif Nat.blt t 56 then (bif Nat.beq t 55 then tyc55 else {}) else (bif Nat.beq t 56 then tyc56 else {}))))) else (bif Nat.blt t 62 then (bif Nat.blt t 59 then (bif Nat.blt t 58 then (bif Nat.beq t 57 then tyc57 else {}) else (bif Nat.beq t 58 then tyc58 else {})) else (bif Nat.blt t 60 then (bif Nat.beq t 59 then tyc59 else {}) else (bif Nat.blt t 61 then (bif Nat.beq t 60 then tyc60 else {}) else (bif Nat.beq t 61 then tyc61 else {})))) else (bif Nat.blt t 65 then (bif Nat.blt t 63 then (bif Nat.beq t 62 then tyc62 else {}) else (bif Nat.blt t 64 then (bif Nat.beq t 63 then tyc63 else {}) else (bif Nat.beq t 64 then tyc64 else {}))) else (bif Nat.blt t 66 then (bif Nat.beq t 65 then tyc65 else {}) else (bif Nat.blt t 67 then (bif Nat.beq t 66 then tyc66 else {}) else (bif Nat.beq t 67 then tyc67 else {})))))) else (bif Nat.blt t 79 then (bif Nat.blt t 73 then (bif Nat.blt t 70 then (bif Nat.blt t 69 then (bif Nat.beq t 68 then tyc68 else {}) else (bif Nat.beq t 69 then tyc69 else {})) else (bif Nat.blt t 71 then (bif Nat.beq t 70 then tyc70 else {}) else (bif Nat.blt t 72 then (bif Nat.beq t 71 then tyc71 else {}) else (bif Nat.beq t 72 then tyc72 else {})))) else (bif Nat.blt t 76 then (bif Nat.blt t 74 then (bif Nat.beq t 73 then tyc73 else {}) else (bif Nat.blt t 75 then (bif Nat.beq t 74 then tyc74 else {}) else (bif Nat.beq t 75 then tyc75 else {}))) else (bif Nat.blt t 77 then (bif Nat.beq t 76 then tyc76 else {}) else (bif Nat.blt t 78 then (bif Nat.beq t 77 then tyc77 else {}) else (bif Nat.beq t 78 then tyc78 else {}))))) else (bif Nat.blt t 84 then (bif Nat.blt t 81 then (bif Nat.blt t 80 then (bif Nat.beq t 79 then tyc79 else {}) else (bif Nat.beq t 80 then tyc80 else {})) else (bif Nat.blt t 82 then (bif Nat.beq t 81 then tyc81 else {}) else (bif Nat.blt t 83 then (bif Nat.beq t 82 then tyc82 else {}) else (bif Nat.beq t 83 then tyc83 else {})))) else (bif Nat.blt t 87 then (bif Nat.blt t 85 then (bif Nat.beq t 84 then tyc84 else {}) else (bif Nat.blt t 86 then (bif Nat.beq t 85 then tyc85 else {}) else (bif Nat.beq t 86 then tyc86 else {}))) else (bif Nat.blt t 88 then (bif Nat.beq t 87 then tyc87 else {}) else (bif Nat.blt t 89 then (bif Nat.beq t 88 then tyc88 else {}) else (bif Nat.beq t 89 then tyc89 else {})))))))) else (bif Nat.blt t 135 then (bif Nat.blt t 112 then (bif Nat.blt t 101 then (bif Nat.blt t 95 then (bif Nat.blt t 92 then (bif Nat.blt t 91 then (bif Nat.beq t 90 then tyc90 else {}) else (bif Nat.beq t 91 then tyc91 else {})) else (bif Nat.blt t 93 then (bif Nat.beq t 92 then tyc92 else {}) else (bif Nat.blt t 94 then (bif Nat.beq t 93 then tyc93 else {}) else (bif Nat.beq t 94 then tyc94 else {})))) else (bif Nat.blt t 98 then (bif Nat.blt t 96 then (bif Nat.beq t 95 then tyc95 else {}) else (bif Nat.beq t 96 then tyc96 else {})) else (bif Nat.blt t 99 then (bif Nat.beq t 98 then tyc98 else {}) else (bif Nat.blt t 100 then (bif Nat.beq t 99 then tyc99 else {}) else (bif Nat.beq t 100 then tyc100 else {}))))) else (bif Nat.blt t 106 then (bif Nat.blt t 103 then (bif Nat.blt t 102 then (bif Nat.beq t 101 then tyc101 else {}) else (bif Nat.beq t 102 then tyc102 else {})) else (bif Nat.blt t 104 then (bif Nat.beq t 103 then tyc103 else {}) else (bif Nat.blt t 105 then (bif Nat.beq t 104 then tyc104 else {}) else (bif Nat.beq t 105 then tyc105 else {})))) else (bif Nat.blt t 109 then (bif Nat.blt t 107 then (bif Nat.beq t 106 then tyc106 else {}) else (bif Nat.blt t 108 then (bif Nat.beq t 107 then tyc107 else {}) else (bif Nat.beq t 108 then tyc108 else {}))) else (bif Nat.blt t 110 then (bif Nat.beq t 109 then tyc109 else {}) else (bif Nat.blt t 111 then (bif Nat.beq t 110 then tyc110 else {}) else (bif Nat.beq t 111 then tyc111 else {})))))) else (bif Nat.blt t 123 then (bif Nat.blt t 117 then (bif Nat.blt t 114 then (bif Nat.blt t 113 then (bif Nat.beq t 112 then tyc112 else {}) else (bif Nat.beq t 113 then tyc113 else {})) else (bif Nat.blt t 115 then (bif Nat.beq t 114 then tyc114 else {}) else (bif Nat.blt t 116 then (bif Nat.beq t 115 then tyc115 else {}) else (bif Nat.beq t 116 then tyc116 else {})))) else (bif Nat.blt t 120 then (bif Nat.blt t 118 then (bif Nat.beq t 117 then tyc117 else {}) else (bif Nat.blt t 119 then (bif Nat.beq t 118 then tyc118 else {}) else (bif Nat.beq t 119 then tyc119 else {}))) else (bif Nat.blt t 121 then (bif Nat.beq t 120 then tyc120 else {}) else (bif Nat.blt t 122 then (bif Nat.beq t 121 then tyc121 else {}) else (bif Nat.beq t 122 then tyc122 else {}))))) else (bif Nat.blt t 128 then (bif Nat.blt t 125 then (bif Nat.blt t 124 then (bif Nat.beq t 123 then tyc123 else {}) else (bif Nat.beq t 124 then tyc124 else {})) else (bif Nat.blt t 126 then (bif Nat.beq t 125 then tyc125 else {}) else (bif Nat.blt t 127 then (bif Nat.beq t 126 then tyc126 else {}) else (bif Nat.beq t 127 then tyc127 else {})))) else (bif Nat.blt t 132 then (bif Nat.blt t 129 then (bif Nat.beq t 128 then tyc128 else {}) else (bif Nat.blt t 131 then (bif Nat.beq t 129 then tyc129 else {}) else (bif Nat.beq t 131 then tyc131 else {}))) else (bif Nat.blt t 133 then (bif Nat.beq t 132 then tyc132 else {}) else (bif Nat.blt t 134 then (bif Nat.beq t 133 then tyc133 else {}) else (bif Nat.beq t 134 then tyc134 else {}))))))) else (bif Nat.blt t 158 then (bif Nat.blt t 146 then (bif Nat.blt t 140 then (bif Nat.blt t 137 then (bif Nat.blt t 136 then (bif Nat.beq t 135 then tyc135 else {}) else (bif Nat.beq t 136 then tyc136 else {})) else (bif Nat.blt t 138 then (bif Nat.beq t 137 then tyc137 else {}) else (bif Nat.blt t 139 then (bif Nat.beq t 138 then tyc138 else {}) else (bif Nat.beq t 139 then tyc139 else {})))) else (bif Nat.blt t 143 then (bif Nat.blt t 141 then (bif Nat.beq t 140 then tyc140 else {}) else (bif Nat.blt t 142 then (bif Nat.beq t 141 then tyc141 else {}) else (bif Nat.beq t 142 then tyc142 else {}))) else (bif Nat.blt t 144 then (bif Nat.beq t 143 then tyc143 else {}) else (bif Nat.blt t 145 then (bif Nat.beq t 144 then tyc144 else {}) else (bif Nat.beq t 145 then tyc145 else {}))))) else (bif Nat.blt t 152 then (bif Nat.blt t 148 then (bif Nat.blt t 147 then (bif Nat.beq t 146 then tyc146 else {}) else (bif Nat.beq t 147 then tyc147 else {})) else (bif Nat.blt t 150 then (bif Nat.beq t 148 then tyc148 else {}) else (bif Nat.blt t 151 then (bif Nat.beq t 150 then tyc150 else {}) else (bif Nat.beq t 151 then tyc151 else {})))) else (bif Nat.blt t 155 then (bif Nat.blt t 153 then (bif Nat.beq t 152 then tyc152 else {}) else (bif Nat.blt t 154 then (bif Nat.beq t 153 then tyc153 else {}) else (bif Nat.beq t 154 then tyc154 else {}))) else (bif Nat.blt t 156 then (bif Nat.beq t 155 then tyc155 else {}) else (bif Nat.blt t 157 then (bif Nat.beq t 156 then tyc156 else {}) else (bif Nat.beq t 157 then tyc157 else {})))))) else (bif Nat.blt t 170 then (bif Nat.blt t 163 then (bif Nat.blt t 160 then (bif Nat.blt t 159 then (bif Nat.beq t 158 then tyc158 else {}) else (bif Nat.beq t 159 then tyc159 else {})) else (bif Nat.blt t 161 then (bif Nat.beq t 160 then tyc160 else {}) else (bif Nat.blt t 162 then (bif Nat.beq t 161 then tyc161 else {}) else (bif Nat.beq t 162 then tyc162 else {})))) else (bif Nat.blt t 167 then (bif Nat.blt t 165 then (bif Nat.beq t 163 then tyc163 else {}) else (bif Nat.blt t 166 then (bif Nat.beq t 165 then tyc165 else {}) else (bif Nat.beq t 166 then tyc166 else {}))) else (bif Nat.blt t 168 then (bif Nat.beq t 167 then tyc167 else {}) else (bif Nat.blt t 169 then (bif Nat.beq t 168 then tyc168 else {}) else (bif Nat.beq t 169 then tyc169 else {}))))) else (bif Nat.blt t 175 then (bif Nat.blt t 172 then (bif Nat.blt t 171 then (bif Nat.beq t 170 then tyc170 else {}) else (bif Nat.beq t 171 then tyc171 else {})) else (bif Nat.blt t 173 then (bif Nat.beq t 172 then tyc172 else {}) else (bif Nat.blt t 174 then (bif Nat.beq t 173 then tyc173 else {}) else (bif Nat.beq t 174 then tyc174 else {})))) else (bif Nat.blt t 178 then (bif Nat.blt t 176 then (bif Nat.beq t 175 then tyc175 else {}) else (bif Nat.blt t 177 then (bif Nat.beq t 176 then tyc176 else {}) else (bif Nat.beq t 177 then tyc177 else {}))) else (bif Nat.blt t 179 then (bif Nat.beq t 178 then tyc178 else {}) else (bif Nat.blt t 180 then (bif Nat.beq t 179 then tyc179 else {}) else (bif Nat.beq t 180 then tyc180 else {})))))))))
theorem tycs_ok (t : TypeId) : TyC.Ok Try.prog t (tycs t) := (okNode (okNode (okNode (okNode (okNode (okNode (okNode (okLeaf tyc1_ok) (okLeaf tyc2_ok)) (okNode (okLeaf tyc3_ok) (okNode (okLeaf tyc4_ok) (okLeaf tyc5_ok)))) (okNode (okNode (okLeaf tyc6_ok) (okLeaf tyc7_ok)) (okNode (okLeaf tyc8_ok) (okNode (okLeaf tyc9_ok) (okLeaf tyc10_ok))))) (okNode (okNode (okNode (okLeaf tyc11_ok) (okLeaf tyc12_ok)) (okNode (okLeaf tyc13_ok) (okNode (okLeaf tyc14_ok) (okLeaf tyc15_ok)))) (okNode (okNode (okLeaf tyc16_ok) (okNode (okLeaf tyc17_ok) (okLeaf tyc18_ok))) (okNode (okLeaf tyc19_ok) (okNode (okLeaf tyc20_ok) (okLeaf tyc21_ok)))))) (okNode (okNode (okNode (okNode (okLeaf tyc22_ok) (okLeaf tyc23_ok)) (okNode (okLeaf tyc24_ok) (okNode (okLeaf tyc25_ok) (okLeaf tyc26_ok)))) (okNode (okNode (okLeaf tyc27_ok) (okNode (okLeaf tyc28_ok) (okLeaf tyc29_ok))) (okNode (okLeaf tyc30_ok) (okNode (okLeaf tyc31_ok) (okLeaf tyc33_ok))))) (okNode (okNode (okNode (okLeaf tyc34_ok) (okLeaf tyc35_ok)) (okNode (okLeaf tyc36_ok) (okNode (okLeaf tyc37_ok) (okLeaf tyc38_ok)))) (okNode (okNode (okLeaf tyc39_ok) (okNode (okLeaf tyc40_ok) (okLeaf tyc41_ok))) (okNode (okLeaf tyc43_ok) (okNode (okLeaf tyc44_ok) (okLeaf tyc45_ok))))))) (okNode (okNode (okNode (okNode (okNode (okLeaf tyc46_ok) (okLeaf tyc47_ok)) (okNode (okLeaf tyc48_ok) (okNode (okLeaf tyc49_ok) (okLeaf tyc50_ok)))) (okNode (okNode (okLeaf tyc51_ok) (okNode (okLeaf tyc52_ok) (okLeaf tyc53_ok))) (okNode (okLeaf tyc54_ok) (okNode (okLeaf tyc55_ok) (okLeaf tyc56_ok))))) (okNode (okNode (okNode (okLeaf tyc57_ok) (okLeaf tyc58_ok)) (okNode (okLeaf tyc59_ok) (okNode (okLeaf tyc60_ok) (okLeaf tyc61_ok)))) (okNode (okNode (okLeaf tyc62_ok) (okNode (okLeaf tyc63_ok) (okLeaf tyc64_ok))) (okNode (okLeaf tyc65_ok) (okNode (okLeaf tyc66_ok) (okLeaf tyc67_ok)))))) (okNode (okNode (okNode (okNode (okLeaf tyc68_ok) (okLeaf tyc69_ok)) (okNode (okLeaf tyc70_ok) (okNode (okLeaf tyc71_ok) (okLeaf tyc72_ok)))) (okNode (okNode (okLeaf tyc73_ok) (okNode (okLeaf tyc74_ok) (okLeaf tyc75_ok))) (okNode (okLeaf tyc76_ok) (okNode (okLeaf tyc77_ok) (okLeaf tyc78_ok))))) (okNode (okNode (okNode (okLeaf tyc79_ok) (okLeaf tyc80_ok)) (okNode (okLeaf tyc81_ok) (okNode (okLeaf tyc82_ok) (okLeaf tyc83_ok)))) (okNode (okNode (okLeaf tyc84_ok) (okNode (okLeaf tyc85_ok) (okLeaf tyc86_ok))) (okNode (okLeaf tyc87_ok) (okNode (okLeaf tyc88_ok) (okLeaf tyc89_ok)))))))) (okNode (okNode (okNode (okNode (okNode (okNode (okLeaf tyc90_ok) (okLeaf tyc91_ok)) (okNode (okLeaf tyc92_ok) (okNode (okLeaf tyc93_ok) (okLeaf tyc94_ok)))) (okNode (okNode (okLeaf tyc95_ok) (okLeaf tyc96_ok)) (okNode (okLeaf tyc98_ok) (okNode (okLeaf tyc99_ok) (okLeaf tyc100_ok))))) (okNode (okNode (okNode (okLeaf tyc101_ok) (okLeaf tyc102_ok)) (okNode (okLeaf tyc103_ok) (okNode (okLeaf tyc104_ok) (okLeaf tyc105_ok)))) (okNode (okNode (okLeaf tyc106_ok) (okNode (okLeaf tyc107_ok) (okLeaf tyc108_ok))) (okNode (okLeaf tyc109_ok) (okNode (okLeaf tyc110_ok) (okLeaf tyc111_ok)))))) (okNode (okNode (okNode (okNode (okLeaf tyc112_ok) (okLeaf tyc113_ok)) (okNode (okLeaf tyc114_ok) (okNode (okLeaf tyc115_ok) (okLeaf tyc116_ok)))) (okNode (okNode (okLeaf tyc117_ok) (okNode (okLeaf tyc118_ok) (okLeaf tyc119_ok))) (okNode (okLeaf tyc120_ok) (okNode (okLeaf tyc121_ok) (okLeaf tyc122_ok))))) (okNode (okNode (okNode (okLeaf tyc123_ok) (okLeaf tyc124_ok)) (okNode (okLeaf tyc125_ok) (okNode (okLeaf tyc126_ok) (okLeaf tyc127_ok)))) (okNode (okNode (okLeaf tyc128_ok) (okNode (okLeaf tyc129_ok) (okLeaf tyc131_ok))) (okNode (okLeaf tyc132_ok) (okNode (okLeaf tyc133_ok) (okLeaf tyc134_ok))))))) (okNode (okNode (okNode (okNode (okNode (okLeaf tyc135_ok) (okLeaf tyc136_ok)) (okNode (okLeaf tyc137_ok) (okNode (okLeaf tyc138_ok) (okLeaf tyc139_ok)))) (okNode (okNode (okLeaf tyc140_ok) (okNode (okLeaf tyc141_ok) (okLeaf tyc142_ok))) (okNode (okLeaf tyc143_ok) (okNode (okLeaf tyc144_ok) (okLeaf tyc145_ok))))) (okNode (okNode (okNode (okLeaf tyc146_ok) (okLeaf tyc147_ok)) (okNode (okLeaf tyc148_ok) (okNode (okLeaf tyc150_ok) (okLeaf tyc151_ok)))) (okNode (okNode (okLeaf tyc152_ok) (okNode (okLeaf tyc153_ok) (okLeaf tyc154_ok))) (okNode (okLeaf tyc155_ok) (okNode (okLeaf tyc156_ok) (okLeaf tyc157_ok)))))) (okNode (okNode (okNode (okNode (okLeaf tyc158_ok) (okLeaf tyc159_ok)) (okNode (okLeaf tyc160_ok) (okNode (okLeaf tyc161_ok) (okLeaf tyc162_ok)))) (okNode (okNode (okLeaf tyc163_ok) (okNode (okLeaf tyc165_ok) (okLeaf tyc166_ok))) (okNode (okLeaf tyc167_ok) (okNode (okLeaf tyc168_ok) (okLeaf tyc169_ok))))) (okNode (okNode (okNode (okLeaf tyc170_ok) (okLeaf tyc171_ok)) (okNode (okLeaf tyc172_ok) (okNode (okLeaf tyc173_ok) (okLeaf tyc174_ok)))) (okNode (okNode (okLeaf tyc175_ok) (okNode (okLeaf tyc176_ok) (okLeaf tyc177_ok))) (okNode (okLeaf tyc178_ok) (okNode (okLeaf tyc179_ok) (okLeaf tyc180_ok)))))))))
instance : Tys Try.prog := ⟨tycs, tycs_ok⟩
instance : Mixed Try.prog := ⟨by kernel_rfl⟩
end Go.Abs

