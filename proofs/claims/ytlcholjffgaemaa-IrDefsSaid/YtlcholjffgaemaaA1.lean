/-
Abstract states over the machine: values, the relation to memory, and what a step may do to it.
No statement of the program is proved here: these are words and laws that the proofs use.
-/
import Derived.Calls
import Derived.Orders
import Derived.Deep.MidRow
import Derived.Laws.OwnMore
import Derived.Laws.MakeOwn
import Derived.Below
set_option linter.unusedVariables false
set_option linter.unusedSimpArgs false
namespace Go.Abs
open Go

/-- Data that is only read. -/
inductive T where
  | any
  | bool (b : Bool)
  | int (k : IntKind) (n : Int)
  | str (s : ByteArray)
  | sl (sz n : Nat) (get : Nat → Nat → T)
  | nilI
  | ifc (t : TypeId) (v : T)

/-- The name of an object: a root, and the way into it (cell, row, cell, row ..). -/
structure Id where
  k : Nat
  p : List Nat
deriving DecidableEq
instance {n : Nat} : OfNat Id n := ⟨⟨n, []⟩⟩
def evens : List Nat → List Nat
  | [] => []
  | [a] => [a]
  | a :: _ :: l => a :: evens l
def odds : List Nat → List Nat
  | [] => []
  | [_] => []
  | _ :: b :: l => b :: odds l
def lbeq : List Nat → List Nat → Bool
  | [], [] => true
  | a :: l, b :: m => bif Nat.beq a b then lbeq l m else false
  | _, _ => false
def Id.beq (a b : Id) : Bool := bif Nat.beq a.k b.k then (bif lbeq (evens a.p) (evens b.p) then lbeq (odds a.p) (odds b.p) else false) else false
theorem lbeq_iff : ∀ {a b : List Nat}, lbeq a b = true ↔ a = b
  | [], [] => by simp [lbeq]
  | [], _ :: _ => by simp [lbeq]
  | _ :: _, [] => by simp [lbeq]
  | a :: l, b :: m => by
    simp only [lbeq, List.cons.injEq, ← lbeq_iff (a := l)]
    cases h : Nat.beq a b with
    | true => simp [Nat.eq_of_beq_eq_true h]
    | false => simp; intro e; subst e; simp at h
theorem halves : ∀ {a b : List Nat}, evens a = evens b → odds a = odds b → a = b
  | [], [], _, _ => rfl
  | [], [_], h, _ => by simp [evens] at h
  | [], _ :: _ :: _, h, _ => by simp [evens] at h
  | [_], [], h, _ => by simp [evens] at h
  | [_], [_], h, _ => by simpa [evens] using h
  | [_], _ :: _ :: _, _, h => by simp [odds] at h
  | _ :: _ :: _, [], h, _ => by simp [evens] at h
  | _ :: _ :: _, [_], _, h => by simp [odds] at h
  | a :: b :: l, a' :: b' :: m, h, k => by
    simp only [evens, odds, List.cons.injEq] at h k
    rw [h.1, k.1, halves h.2 k.2]
theorem Id.beq_iff {a b : Id} : Id.beq a b = true ↔ a = b := by
  obtain ⟨k, p⟩ := a
  obtain ⟨k', p'⟩ := b
  simp only [Id.beq, Id.mk.injEq]
  cases h1 : Nat.beq k k' with
  | false => simp; intro e; subst e; simp at h1
  | true =>
    cases h2 : lbeq (evens p) (evens p') with
    | false => simp; rintro - e; subst e; rw [lbeq_iff.2 rfl] at h2; cases h2
    | true =>
      simp only [cond_true]
      constructor
      · exact fun h3 => ⟨Nat.eq_of_beq_eq_true h1, halves (lbeq_iff.1 h2) (lbeq_iff.1 h3)⟩
      · rintro ⟨-, rfl⟩; exact lbeq_iff.2 rfl
theorem Id.beq_refl (a : Id) : Id.beq a a = true := Id.beq_iff.2 rfl

/-- Values of an abstract state. -/
inductive V where
  | un
  | und
  | t (x : T)
  | nils
  | nilp
  | nilm
  | nilf
  | ptr (id : Id) (ver r c : Nat)
  | fp (m : Nat) (get : Nat → T)
  | sref (id : Id) (ver r len : Nat)
  | mref (id : Id)
  | fn (f : FuncId) (n : Nat) (cap : Nat → V)
  | agg (n : Nat) (get : Nat → V)
  | tup (n : Nat) (get : Nat → V)

inductive MKey where
  | i (n : Int)
  | s (b : ByteArray)

structure AObj where
  elem : TypeId
  sz : Nat
  ver : Nat
  n : Nat
  get : Nat → Nat → V

inductive Slot where
  | unborn
  | dead
  | live (o : AObj)
  | mp (str : Bool) (get : MKey → Option V)

structure Heap where
  next : Nat
  slot : Id → Slot
  lo : Nat

structure St where
  nt : Nat
  env : Nat → V
  heap : Heap

def LEN : Nat := 281474976710656

def Reads (F : Nat → Prop) (w : World) : T → Value → Prop
  | .any, v => v.oneCell' = true
  | .bool b, v => v = .bool b
  | .int k n, v => v = .int k n
  | .str s, v => v = .string s ∧ s.size ≤ 9223372036854775807
  | .sl sz n get, v => ∃ A cap, v = .slice A n cap ∧ n ≤ cap ∧ n ≤ LEN ∧
      (0 < n → ∃ b o, A = some ⟨b, o, none⟩ ∧ F b ∧ ∀ i, i < n → ∀ j, j < sz → ∃ c, w.cell? ⟨b, o + (i * sz + j), none⟩ = some c ∧ Reads F w (get i j) c)
  | .nilI, v => v = .nilIface
  | .ifc t x, v => ∃ c, v = .iface t c ∧ Reads F w x c

theorem Reads.mono {F F' : Nat → Prop} {w w' : World} (hF : ∀ b, F b → F' b) (hw : ∀ b, F b → w'.heap[b]? = w.heap[b]?) :
    ∀ (x : T) (v : Value), Reads F w x v → Reads F' w' x v := by
  intro x
  induction x with
  | any => exact fun v h => h
  | bool b => exact fun v h => h
  | int k n => exact fun v h => h
  | str s => exact fun v h => h
  | nilI => exact fun v h => h
  | ifc t x ih => rintro v ⟨c, h1, h2⟩; exact ⟨c, h1, ih _ h2⟩
  | sl sz n get ih =>
    rintro v ⟨A, cap, h1, h2, h3, h4⟩
    refine ⟨A, cap, h1, h2, h3, fun hn => ?_⟩
    obtain ⟨b, o, hA, hb, hc⟩ := h4 hn
    refine ⟨b, o, hA, hF b hb, fun i hi j hj => ?_⟩
    obtain ⟨c, hc1, hc2⟩ := hc i hi j hj
    refine ⟨c, ?_, ih i j _ hc2⟩
    unfold World.cell? at hc1 ⊢
    simp only at hc1 ⊢
    rw [hw b hb]
    exact hc1

theorem Reads.plain {F : Nat → Prop} {w : World} {x : T} {v : Value} (h : Reads F w x v) : v.oneCell' = true := by
  cases x with
  | any => exact h
  | bool b => obtain rfl := h; rfl
  | int k n => obtain rfl := h; rfl
  | str s => obtain ⟨rfl, _⟩ := h; rfl
  | nilI => obtain rfl := h; rfl
  | ifc t x => obtain ⟨c, rfl, _⟩ := h; rfl
  | sl sz n get => obtain ⟨A, cap, rfl, _⟩ := h; rfl

def VRel (H : Heap) (ι : Id → Option Nat) (F : Nat → Prop) (w : World) : V → Value → Prop
  | .un, _ => True
  | .und, v => v = undef
  | .t x, v => Reads F w x v
  | .nils, v => v = .slice none 0 0
  | .nilp, v => v = .pointer none
  | .nilm, v => v = .map none
  | .nilf, v => v = .nilFunc
  | .ptr id ver r c, v => v.oneCell' = true ∧ match H.slot id with
      | .unborn => False
      | .live o => ver ≤ o.ver ∧ (ver = o.ver → ∃ b, ι id = some b ∧ v = .pointer (some ⟨b, r * o.sz + c, none⟩))
      | _ => True
  | .fp m get, v => ∃ b o, v = .pointer (some ⟨b, o, none⟩) ∧ F b ∧ ∀ j, j < m → ∃ c, w.cell? ⟨b, o + j, none⟩ = some c ∧ Reads F w (get j) c
  | .sref id ver r len, v => v.oneCell' = true ∧ match H.slot id with
      | .unborn => False
      | .live o => ver ≤ o.ver ∧ (ver = o.ver → r + len ≤ o.n ∧ ∃ A cap, v = .slice A len cap ∧ len ≤ cap ∧
          (0 < cap → ∃ b cur, ι id = some b ∧ A = some ⟨b, r * o.sz, none⟩ ∧ w.heap[b]? = some (.cells cur o.elem (0, 0)) ∧ r * o.sz + cap * o.sz ≤ cur.size))
      | _ => True
  | .mref id, v => v.oneCell' = true ∧ match H.slot id with
      | .unborn => False
      | .mp _ _ => ∃ b, ι id = some b ∧ v = .map (some b)
      | _ => True
  | .fn f n cap, v => ∃ cs, v = .func (.func f) #[] cs ∧ cs.size = n ∧ ∀ j, j < n → ∃ c, cs[j]? = some c ∧ VRel H ι F w (cap j) c
  | .agg n get, v => ∃ cs, v = .agg cs ∧ cs.size = n ∧ ∀ j, j < n → ∃ c, cs[j]? = some c ∧ c.oneCell' = true ∧ VRel H ι F w (get j) c
  | .tup n get, v => ∃ cs, v = .tuple cs ∧ cs.size = n ∧ ∀ j, j < n → ∃ c, cs[j]? = some c ∧ VRel H ι F w (get j) c

/-- What a value was related to it still is. -/
def Ext (H : Heap) (ι : Id → Option Nat) (F : Nat → Prop) (w : World) (H' : Heap) (ι' : Id → Option Nat) (F' : Nat → Prop) (w' : World) : Prop :=
  ∀ u v, VRel H ι F w u v → VRel H' ι' F' w' u v

/-- What may become of a slot, so that old references stay right. -/
def SlotOk (id : Id) (H : Heap) (ι : Id → Option Nat) (w : World) (H' : Heap) (ι' : Id → Option Nat) (w' : World) : Prop :=
  match H.slot id with
  | .unborn => True
  | .dead => H'.slot id = .dead
  | .mp _ _ => H'.slot id = .dead ∨ ((∃ s g, H'.slot id = .mp s g) ∧ ι' id = ι id)
  | .live o => H'.slot id = .dead ∨ ∃ o', H'.slot id = .live o' ∧ o.ver ≤ o'.ver ∧ (o.ver = o'.ver → o'.sz = o.sz ∧ o'.elem = o.elem ∧ o.n ≤ o'.n ∧ ι' id = ι id ∧
      ∀ b cur, ι id = some b → w.heap[b]? = some (.cells cur o.elem (0, 0)) → ∃ cur', w'.heap[b]? = some (.cells cur' o.elem (0, 0)) ∧ cur'.size = cur.size)

theorem Ext.of {H : Heap} {ι : Id → Option Nat} {F : Nat → Prop} {w : World} {H' : Heap} {ι' : Id → Option Nat} {F' : Nat → Prop} {w' : World}
    (hF : ∀ b, F b → F' b) (hw : ∀ b, F b → w'.heap[b]? = w.heap[b]?) (hs : ∀ id, SlotOk id H ι w H' ι' w') : Ext H ι F w H' ι' F' w' := by
  intro u
  induction u with
  | un => exact fun _ _ => trivial
  | und => exact fun _ h => h
  | t x => exact fun v h => Reads.mono hF hw x v h
  | nils => exact fun _ h => h
  | nilp => exact fun _ h => h
  | nilm => exact fun _ h => h
  | nilf => exact fun _ h => h
  | ptr id ver r c =>
    rintro v ⟨h0, h⟩
    have hs := hs id
    refine ⟨h0, ?_⟩
    unfold SlotOk at hs
    cases hsl : H.slot id with
    | unborn => rw [hsl] at h; exact h.elim
    | dead => rw [hsl] at hs; simp only at hs; rw [hs]; trivial
    | mp s g =>
      rw [hsl] at hs; simp only at hs
      rcases hs with hs | ⟨⟨s, g, hs⟩, _⟩ <;> rw [hs] <;> trivial
    | live o =>
      rw [hsl] at hs h; simp only at hs h
      obtain ⟨hv, h⟩ := h
      rcases hs with hs | ⟨o', hs, hle, hk⟩
      · rw [hs]; trivial
      · rw [hs]
        refine ⟨by omega, fun he => ?_⟩
        have he' : o.ver = o'.ver := by omega
        obtain ⟨k1, k2, k3, k4, k5⟩ := hk he'
        obtain ⟨b, hb, hv⟩ := h (by omega)
        exact ⟨b, k4.trans hb, by rw [k1]; exact hv⟩
  | fp m get =>
    rintro v ⟨b, o, h1, h2, h3⟩
    refine ⟨b, o, h1, hF b h2, fun j hj => ?_⟩
    obtain ⟨c, hc1, hc2⟩ := h3 j hj
    refine ⟨c, ?_, Reads.mono hF hw _ _ hc2⟩
    unfold World.cell? at hc1 ⊢
    simp only at hc1 ⊢
    rw [hw b h2]
    exact hc1
  | sref id ver r len =>
    rintro v ⟨h0, h⟩
    have hs := hs id
    refine ⟨h0, ?_⟩
    unfold SlotOk at hs
    cases hsl : H.slot id with
    | unborn => rw [hsl] at h; exact h.elim
    | dead => rw [hsl] at hs; simp only at hs; rw [hs]; trivial
    | mp s g =>
      rw [hsl] at hs; simp only at hs
      rcases hs with hs | ⟨⟨s, g, hs⟩, _⟩ <;> rw [hs] <;> trivial
    | live o =>
      rw [hsl] at hs h; simp only at hs h
      obtain ⟨hv, h⟩ := h
      rcases hs with hs | ⟨o', hs, hle, hk⟩
      · rw [hs]; trivial
      · rw [hs]
        refine ⟨by omega, fun he => ?_⟩
        have he' : o.ver = o'.ver := by omega
        obtain ⟨k1, k2, k3, k4, k5⟩ := hk he'
        obtain ⟨hn, A, cap, hv, hlc, hx⟩ := h (by omega)
        refine ⟨by omega, A, cap, hv, hlc, fun hc => ?_⟩
        obtain ⟨b, cur, hb, hA, hh, hsz⟩ := hx hc
        obtain ⟨cur', hh', hcs⟩ := k5 b cur hb hh
        exact ⟨b, cur', k4.trans hb, by rw [k1]; exact hA, by rw [k2]; exact hh', by rw [k1, hcs]; exact hsz⟩
  | mref id =>
    rintro v ⟨h0, h⟩
    have hs := hs id
    refine ⟨h0, ?_⟩
    unfold SlotOk at hs
    cases hsl : H.slot id with
    | unborn => rw [hsl] at h; exact h.elim
    | dead => rw [hsl] at hs; simp only at hs; rw [hs]; trivial
    | mp s g =>
      rw [hsl] at hs h; simp only at hs h
      rcases hs with hs | ⟨⟨s, g, hs⟩, hi⟩
      · rw [hs]; trivial
      · rw [hs]; obtain ⟨b, hb, hv⟩ := h; exact ⟨b, hi.trans hb, hv⟩
    | live o =>
      rw [hsl] at hs; simp only at hs
      rcases hs with hs | ⟨o', hs, _⟩ <;> rw [hs] <;> trivial
  | fn f n cap ih => rintro v ⟨cs, h1, h2, h3⟩; exact ⟨cs, h1, h2, fun j hj => by obtain ⟨c, a, b⟩ := h3 j hj; exact ⟨c, a, ih j _ b⟩⟩
  | agg n get ih => rintro v ⟨cs, h1, h2, h3⟩; exact ⟨cs, h1, h2, fun j hj => by obtain ⟨c, a, p, b⟩ := h3 j hj; exact ⟨c, a, p, ih j _ b⟩⟩
  | tup n get ih => rintro v ⟨cs, h1, h2, h3⟩; exact ⟨cs, h1, h2, fun j hj => by obtain ⟨c, a, b⟩ := h3 j hj; exact ⟨c, a, ih j _ b⟩⟩

/-- Values that take one cell. -/
def V.one : V → Bool
  | .un => false
  | .und => false
  | .agg _ _ => false
  | .tup _ _ => false
  | _ => true

theorem V.one_plain {H : Heap} {ι : Id → Option Nat} {F : Nat → Prop} {w : World} {u : V} {v : Value} (h1 : u.one = true) (h : VRel H ι F w u v) : v.oneCell' = true := by
  cases u with
  | un => cases h1
  | und => cases h1
  | agg n get => cases h1
  | tup n get => cases h1
  | t x => exact h.plain
  | nils => rw [show v = _ from h]; rfl
  | nilp => rw [show v = _ from h]; rfl
  | nilm => rw [show v = _ from h]; rfl
  | nilf => rw [show v = _ from h]; rfl
  | ptr id ver r c => exact h.1
  | sref id ver r len => exact h.1
  | mref id => exact h.1
  | fp m get => obtain ⟨b, o, rfl, _⟩ := h; rfl
  | fn f n cap => obtain ⟨cs, rfl, _⟩ := h; rfl

/-- The cells of a value. -/
def V.row : V → Nat → V
  | .agg _ get, j => get j
  | u, _ => u
def V.rowOk : V → Nat → Bool
  | .agg n _, s => Nat.beq n s
  | u, s => u.one && Nat.beq s 1

theorem V.rowOk_cells {H : Heap} {ι : Id → Option Nat} {F : Nat → Prop} {w : World} {u : V} {v : Value} {s : Nat} (h1 : u.rowOk s = true) (h : VRel H ι F w u v) :
    v.cells.size = s ∧ ∀ j, j < s → ∃ c, v.cells[j]? = some c ∧ c.oneCell' = true ∧ VRel H ι F w (u.row j) c := by
  have key : u.one = true → Nat.beq s 1 = true → (∀ j, u.row j = u) → v.cells.size = s ∧ ∀ j, j < s → ∃ c, v.cells[j]? = some c ∧ c.oneCell' = true ∧ VRel H ι F w (u.row j) c := by
    intro ho hs hr
    obtain rfl := Nat.eq_of_beq_eq_true hs
    have hp := V.one_plain ho h
    have hc : v.cells = #[v] := by cases v <;> first | rfl | (simp [Value.oneCell'] at hp)
    refine ⟨by rw [hc]; rfl, fun j hj => ⟨v, ?_, hp, by rw [hr]; exact h⟩⟩
    have : j = 0 := by omega
    subst this; rw [hc]; rfl
  cases u with
  | agg n get =>
    obtain rfl := Nat.eq_of_beq_eq_true h1
    obtain ⟨cs, rfl, h2, h3⟩ := h
    exact ⟨h2, h3⟩
  | _ =>
    simp only [V.rowOk, Bool.and_eq_true] at h1
    exact key h1.1 h1.2 (fun _ => rfl)

theorem Ext.refl (H : Heap) (ι : Id → Option Nat) (F : Nat → Prop) (w : World) : Ext H ι F w H ι F w := fun _ _ h => h
theorem Ext.trans {H1 H2 H3 : Heap} {ι1 ι2 ι3 : Id → Option Nat} {F1 F2 F3 : Nat → Prop} {w1 w2 w3 : World}
    (h : Ext H1 ι1 F1 w1 H2 ι2 F2 w2) (k : Ext H2 ι2 F2 w2 H3 ι3 F3 w3) : Ext H1 ι1 F1 w1 H3 ι3 F3 w3 := fun u v hu => k u v (h u v hu)

def ORel (H : Heap) (ι : Id → Option Nat) (F : Nat → Prop) (w : World) (o : AObj) (id : Id) : Prop :=
  o.n ≤ LEN ∧ match ι id with
  | none => o.n = 0
  | some b => ∃ cur, w.heap[b]? = some (.cells cur o.elem (0, 0)) ∧ o.n * o.sz ≤ cur.size ∧
      ∀ i, i < o.n → ∀ j, j < o.sz → ∃ c, cur[i * o.sz + j]? = some c ∧ c.oneCell' = true ∧ VRel H ι F w (o.get i j) c

def MKey.val : MKey → Value
  | .i n => .int .i64 n
  | .s b => .string b
def MKey.isS : MKey → Bool
  | .i _ => false
  | .s _ => true

def MRel (H : Heap) (ι : Id → Option Nat) (F : Nat → Prop) (w : World) (str : Bool) (get : MKey → Option V) (id : Id) : Prop :=
  ∃ b es clock, ι id = some b ∧ w.heap[b]? = some (.map es clock) ∧ (∀ e ∈ es.toList, ∃ k : MKey, k.isS = str ∧ e.key = k.val) ∧
    ∀ k : MKey, k.isS = str → match get k with
      | none => ∀ e ∈ es.toList, e.key ≠ k.val
      | some u => ∃ (i : Nat) (e : MapEntry), es[i]? = some e ∧ e.key = k.val ∧ VRel H ι F w u e.val

structure Env where
  w0 : World
  W0 : Nat → Prop
  H0 : Heap
  ι0 : Id → Option Nat
  F0 : Nat → Prop

def Slot.is : Slot → Prop
  | .live _ => True
  | .mp _ _ => True
  | _ => False

structure RelH (E : Env) (ι : Id → Option Nat) (F : Nat → Prop) (H : Heap) (w : World) : Prop where
  os : w.os = E.w0.os
  tape : w.tape = E.w0.tape
  output : w.output = E.w0.output
  size : E.w0.heap.size ≤ w.heap.size
  kept : ∀ b, b < E.w0.heap.size → ¬ E.W0 b → w.heap[b]? = E.w0.heap[b]?
  obj : ∀ id o, H.slot id = .live o → ORel H ι F w o id
  mapo : ∀ id s g, H.slot id = .mp s g → MRel H ι F w s g id
  inj : ∀ id id' b, (H.slot id).is → (H.slot id').is → ι id = some b → ι id' = some b → id = id'
  nofr : ∀ id b, (H.slot id).is → ι id = some b → ¬ F b
  own : ∀ id b, (H.slot id).is → ι id = some b → E.W0 b ∨ E.w0.heap.size ≤ b
  lt : ∀ id b, (H.slot id).is → ι id = some b → b < w.heap.size
  frlt : ∀ b, F b → b < w.heap.size
  frin : ∀ b, F b → E.F0 b ∨ E.W0 b ∨ E.w0.heap.size ≤ b
  next : ∀ id : Id, H.next ≤ id.k → H.slot id = .unborn
  ext : Ext E.H0 E.ι0 E.F0 E.w0 H ι F w
  lo : ∀ id : Id, (H.lo ≤ id.k ∨ id.p ≠ []) → E.H0.slot id = .unborn

structure Rel (E : Env) (ι : Id → Option Nat) (F : Nat → Prop) (st : St) (a : Act) (w : World) : Prop where
  h : RelH E ι F st.heap w
  env : ∀ t, VRel st.heap ι F w (st.env t) (a.tmps.getD t undef)
  nt : a.tmps.size = st.nt
  defers : a.defers = []

def Holds (E : Env) (K : St → Prop) (a : Act) (w : World) : Prop := ∃ ι F st, Rel E ι F st a w ∧ K st

/-- A weaker state: whatever the first holds of, the second holds of. -/
def Weak (st st' : St) : Prop := ∀ E ι F a w, Rel E ι F st a w → ∃ ι' F', Rel E ι' F' st' a w

end Go.Abs
