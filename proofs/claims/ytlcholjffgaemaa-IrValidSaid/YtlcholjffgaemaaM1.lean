/-
Texts of the proof, part 1: A1 A2 A3 A4 A5 A6 D1 A9.
No statement of the program is proved here.
-/
import Derived.Calls
import Derived.Orders
import Derived.Deep.MidRow
import Derived.Laws.OwnMore
import Derived.Laws.MakeOwn
import Derived.Below
import Derived.Laws.Strings
import Derived.IntWalk
import Derived.ChangeArms
import Derived.ChangeShapes
import Derived.SizedLaws
import Derived.Carry
import Derived.WideShapes
set_option linter.unusedVariables false
set_option linter.unusedSimpArgs false
namespace Go.Abs
open Go
inductive T where
 | any
 | bool (b : Bool)
 | int (k : IntKind) (n : Int)
 | str (s : ByteArray)
 | sl (sz n : Nat) (get : Nat -> Nat -> T)
 | nilI
 | ifc (t : TypeId) (v : T)
structure Id where
 k : Nat
 p : List Nat
deriving DecidableEq
def evens : List Nat -> List Nat
 | [] => []
 | [a] => [a]
 | a :: _ :: l => a :: evens l
def odds : List Nat -> List Nat
 | [] => []
 | [_] => []
 | _ :: b :: l => b :: odds l
def lbeq : List Nat -> List Nat -> Bool
 | [], [] => true
 | a :: l, b :: m => bif Nat.beq a b then lbeq l m else false
 | _, _ => false
def Id.beq (a b : Id) : Bool := bif Nat.beq a.k b.k then (bif lbeq (evens a.p) (evens b.p) then lbeq (odds a.p) (odds b.p) else false) else false
theorem lbeq_iff : ∀ {a b : List Nat}, lbeq a b = true ↔ a = b
 | [], [] => by simp [lbeq]
 | [], _ :: _ => by simp [lbeq]
 | _ :: _, [] => by simp [lbeq]
 | a :: l, b :: m => by
  simp only [lbeq, List.cons.injEq, <- lbeq_iff (a := l)]
  cases h : Nat.beq a b with
  | true => simp [Nat.eq_of_beq_eq_true h]
  | false => simp; intro e; subst e; simp at h
theorem halves : ∀ {a b : List Nat}, evens a = evens b -> odds a = odds b -> a = b
 | [], [], _, _ => rfl
 | [], [_], h, _ => by simp [evens] at h
 | [], _ :: _ :: _, h, _ => by simp [evens] at h
 | [_], [], h, _ => by simp [evens] at h
 | [_], [_], h, _ => by simpa [evens] using h
 | [_], _ :: _ :: _, _, h => by simp [odds] at h
 | _ :: _ :: _, [], h, _ => by simp [evens] at h
 | _ :: _ :: _, [_], _, h => by simp [odds] at h
 | a :: b :: l, a' :: b' :: m, h, k => by
  simp only [evens, odds, List.cons.injEq] at h k
  rw [h.1, k.1, halves h.2 k.2]
theorem Id.beq_iff {a b : Id} : Id.beq a b = true ↔ a = b := by
 obtain ⟨k, p⟩ := a
 obtain ⟨k', p'⟩ := b
 simp only [Id.beq, Id.mk.injEq]
 cases h1 : Nat.beq k k' with
 | false => simp; intro e; subst e; simp at h1
 | true =>
  cases h2 : lbeq (evens p) (evens p') with
  | false => simp; rintro - e; subst e; rw [lbeq_iff.2 rfl] at h2; cases h2
  | true =>
   simp only [cond_true]
   constructor
   ·exact fun h3 => ⟨Nat.eq_of_beq_eq_true h1, halves (lbeq_iff.1 h2) (lbeq_iff.1 h3)⟩
   ·rintro ⟨-, rfl⟩; exact lbeq_iff.2 rfl
theorem Id.beq_refl (a : Id) : Id.beq a a = true := Id.beq_iff.2 rfl
inductive V where
 | un
 | und
 | t (x : T)
 | nils
 | nilp
 | nilm
 | nilf
 | ptr (id : Id) (ver r c : Nat)
 | fp (m : Nat) (get : Nat -> T)
 | sref (id : Id) (ver r len : Nat)
 | mref (id : Id)
 | fn (f : FuncId) (n : Nat) (cap : Nat -> V)
 | agg (n : Nat) (get : Nat -> V)
 | tup (n : Nat) (get : Nat -> V)
inductive MKey where
 | i (n : Int)
 | s (b : ByteArray)
deriving DecidableEq
structure AObj where
 elem : TypeId
 sz : Nat
 ver : Nat
 n : Nat
 get : Nat -> Nat -> V
inductive Slot where
 | unborn
 | dead
 | live (o : AObj)
 | mp (str : Bool) (get : MKey -> Option V)
structure Heap where
 next : Nat
 slot : Id -> Slot
 lo : Nat
structure St where
 nt : Nat
 env : Nat -> V
 heap : Heap
def LEN : Nat := 281474976710656
def Reads (F : Nat -> Prop) (w : World) : T -> Value -> Prop
 | .any, v => v.oneCell' = true
 | .bool b, v => v = .bool b
 | .int k n, v => v = .int k n
 | .str s, v => v = .string s /\ s.size <= 9223372036854775807
 | .sl sz n get, v => ∃ A cap, v = .slice A n cap /\ n <= cap /\ n <= LEN /\
   (0 < n -> ∃ b o, A = some ⟨b, o, none⟩ /\ F b /\ ∀ i, i < n -> ∀ j, j < sz -> ∃ c, w.cell? ⟨b, o + (i * sz + j), none⟩ = some c /\ Reads F w (get i j) c)
 | .nilI, v => v = .nilIface
 | .ifc t x, v => ∃ c, v = .iface t c /\ Reads F w x c
theorem Reads.mono {F F' : Nat -> Prop} {w w' : World} (hF : ∀ b, F b -> F' b) (hw : ∀ b, F b -> w'.heap[b]? = w.heap[b]?) :
  ∀ (x : T) (v : Value), Reads F w x v -> Reads F' w' x v := by
 intro x
 induction x with
 | any => exact fun v h => h
 | bool b => exact fun v h => h
 | int k n => exact fun v h => h
 | str s => exact fun v h => h
 | nilI => exact fun v h => h
 | ifc t x ih => rintro v ⟨c, h1, h2⟩; exact ⟨c, h1, ih _ h2⟩
 | sl sz n get ih =>
  rintro v ⟨A, cap, h1, h2, h3, h4⟩
  refine ⟨A, cap, h1, h2, h3, fun hn => ?_⟩
  obtain ⟨b, o, hA, hb, hc⟩ := h4 hn
  refine ⟨b, o, hA, hF b hb, fun i hi j hj => ?_⟩
  obtain ⟨c, hc1, hc2⟩ := hc i hi j hj
  refine ⟨c, ?_, ih i j _ hc2⟩
  unfold World.cell? at hc1 ⊢
  simp only at hc1 ⊢
  rw [hw b hb]
  exact hc1
theorem Reads.plain {F : Nat -> Prop} {w : World} {x : T} {v : Value} (h : Reads F w x v) : v.oneCell' = true := by
 cases x with
 | any => exact h
 | bool b => obtain rfl := h; rfl
 | int k n => obtain rfl := h; rfl
 | str s => obtain ⟨rfl, _⟩ := h; rfl
 | nilI => obtain rfl := h; rfl
 | ifc t x => obtain ⟨c, rfl, _⟩ := h; rfl
 | sl sz n get => obtain ⟨A, cap, rfl, _⟩ := h; rfl
def VRel (H : Heap) (ι : Id -> Option Nat) (F : Nat -> Prop) (w : World) : V -> Value -> Prop
 | .un, _ => True
 | .und, v => v = undef
 | .t x, v => Reads F w x v
 | .nils, v => v = .slice none 0 0
 | .nilp, v => v = .pointer none
 | .nilm, v => v = .map none
 | .nilf, v => v = .nilFunc
 | .ptr id ver r c, v => v.oneCell' = true /\ match H.slot id with
   | .unborn => False
   | .live o => ver <= o.ver /\ (ver = o.ver -> ∃ b, ι id = some b /\ v = .pointer (some ⟨b, r * o.sz + c, none⟩))
   | _ => True
 | .fp m get, v => ∃ b o, v = .pointer (some ⟨b, o, none⟩) /\ F b /\ ∀ j, j < m -> ∃ c, w.cell? ⟨b, o + j, none⟩ = some c /\ Reads F w (get j) c
 | .sref id ver r len, v => v.oneCell' = true /\ match H.slot id with
   | .unborn => False
   | .live o => ver <= o.ver /\ (ver = o.ver -> r + len <= o.n /\ ∃ A cap, v = .slice A len cap /\ len <= cap /\
     (0 < cap -> ∃ b cur, ι id = some b /\ A = some ⟨b, r * o.sz, none⟩ /\ w.heap[b]? = some (.cells cur o.elem (0, 0)) /\ r * o.sz + cap * o.sz <= cur.size))
   | _ => True
 | .mref id, v => v.oneCell' = true /\ match H.slot id with
   | .unborn => False
   | .mp _ _ => ∃ b, ι id = some b /\ v = .map (some b)
   | _ => True
 | .fn f n cap, v => ∃ cs, v = .func (.func f) #[] cs /\ cs.size = n /\ ∀ j, j < n -> ∃ c, cs[j]? = some c /\ VRel H ι F w (cap j) c
 | .agg n get, v => ∃ cs, v = .agg cs /\ cs.size = n /\ ∀ j, j < n -> ∃ c, cs[j]? = some c /\ c.oneCell' = true /\ VRel H ι F w (get j) c
 | .tup n get, v => ∃ cs, v = .tuple cs /\ cs.size = n /\ ∀ j, j < n -> ∃ c, cs[j]? = some c /\ VRel H ι F w (get j) c
def Ext (H : Heap) (ι : Id -> Option Nat) (F : Nat -> Prop) (w : World) (H' : Heap) (ι' : Id -> Option Nat) (F' : Nat -> Prop) (w' : World) : Prop :=
 ∀ u v, VRel H ι F w u v -> VRel H' ι' F' w' u v
def SlotOk (id : Id) (H : Heap) (ι : Id -> Option Nat) (w : World) (H' : Heap) (ι' : Id -> Option Nat) (w' : World) : Prop :=
 match H.slot id with
 | .unborn => True
 | .dead => H'.slot id = .dead
 | .mp _ _ => H'.slot id = .dead \/ ((∃ s g, H'.slot id = .mp s g) /\ ι' id = ι id)
 | .live o => H'.slot id = .dead \/ ∃ o', H'.slot id = .live o' /\ o.ver <= o'.ver /\ (o.ver = o'.ver -> o'.sz = o.sz /\ o'.elem = o.elem /\ o.n <= o'.n /\ ι' id = ι id /\
   ∀ b cur, ι id = some b -> w.heap[b]? = some (.cells cur o.elem (0, 0)) -> ∃ cur', w'.heap[b]? = some (.cells cur' o.elem (0, 0)) /\ cur'.size = cur.size)
theorem Ext.of {H : Heap} {ι : Id -> Option Nat} {F : Nat -> Prop} {w : World} {H' : Heap} {ι' : Id -> Option Nat} {F' : Nat -> Prop} {w' : World}
  (hF : ∀ b, F b -> F' b) (hw : ∀ b, F b -> w'.heap[b]? = w.heap[b]?) (hs : ∀ id, SlotOk id H ι w H' ι' w') : Ext H ι F w H' ι' F' w' := by
 intro u
 induction u with
 | un => exact fun _ _ => trivial
 | und => exact fun _ h => h
 | t x => exact fun v h => Reads.mono hF hw x v h
 | nils => exact fun _ h => h
 | nilp => exact fun _ h => h
 | nilm => exact fun _ h => h
 | nilf => exact fun _ h => h
 | ptr id ver r c =>
  rintro v ⟨h0, h⟩
  have hs := hs id
  refine ⟨h0, ?_⟩
  unfold SlotOk at hs
  cases hsl : H.slot id with
  | unborn => rw [hsl] at h; exact h.elim
  | dead => rw [hsl] at hs; simp only at hs; rw [hs]; trivial
  | mp s g =>
   rw [hsl] at hs; simp only at hs
   rcases hs with hs | ⟨⟨s, g, hs⟩, _⟩ <;> rw [hs] <;> trivial
  | live o =>
   rw [hsl] at hs h; simp only at hs h
   obtain ⟨hv, h⟩ := h
   rcases hs with hs | ⟨o', hs, hle, hk⟩
   ·rw [hs]; trivial
   ·rw [hs]
    refine ⟨by omega, fun he => ?_⟩
    have he' : o.ver = o'.ver := by omega
    obtain ⟨k1, k2, k3, k4, k5⟩ := hk he'
    obtain ⟨b, hb, hv⟩ := h (by omega)
    exact ⟨b, k4.trans hb, by rw [k1]; exact hv⟩
 | fp m get =>
  rintro v ⟨b, o, h1, h2, h3⟩
  refine ⟨b, o, h1, hF b h2, fun j hj => ?_⟩
  obtain ⟨c, hc1, hc2⟩ := h3 j hj
  refine ⟨c, ?_, Reads.mono hF hw _ _ hc2⟩
  unfold World.cell? at hc1 ⊢
  simp only at hc1 ⊢
  rw [hw b h2]
  exact hc1
 | sref id ver r len =>
  rintro v ⟨h0, h⟩
  have hs := hs id
  refine ⟨h0, ?_⟩
  unfold SlotOk at hs
  cases hsl : H.slot id with
  | unborn => rw [hsl] at h; exact h.elim
  | dead => rw [hsl] at hs; simp only at hs; rw [hs]; trivial
  | mp s g =>
   rw [hsl] at hs; simp only at hs
   rcases hs with hs | ⟨⟨s, g, hs⟩, _⟩ <;> rw [hs] <;> trivial
  | live o =>
   rw [hsl] at hs h; simp only at hs h
   obtain ⟨hv, h⟩ := h
   rcases hs with hs | ⟨o', hs, hle, hk⟩
   ·rw [hs]; trivial
   ·rw [hs]
    refine ⟨by omega, fun he => ?_⟩
    have he' : o.ver = o'.ver := by omega
    obtain ⟨k1, k2, k3, k4, k5⟩ := hk he'
    obtain ⟨hn, A, cap, hv, hlc, hx⟩ := h (by omega)
    refine ⟨by omega, A, cap, hv, hlc, fun hc => ?_⟩
    obtain ⟨b, cur, hb, hA, hh, hsz⟩ := hx hc
    obtain ⟨cur', hh', hcs⟩ := k5 b cur hb hh
    exact ⟨b, cur', k4.trans hb, by rw [k1]; exact hA, by rw [k2]; exact hh', by rw [k1, hcs]; exact hsz⟩
 | mref id =>
  rintro v ⟨h0, h⟩
  have hs := hs id
  refine ⟨h0, ?_⟩
  unfold SlotOk at hs
  cases hsl : H.slot id with
  | unborn => rw [hsl] at h; exact h.elim
  | dead => rw [hsl] at hs; simp only at hs; rw [hs]; trivial
  | mp s g =>
   rw [hsl] at hs h; simp only at hs h
   rcases hs with hs | ⟨⟨s, g, hs⟩, hi⟩
   ·rw [hs]; trivial
   ·rw [hs]; obtain ⟨b, hb, hv⟩ := h; exact ⟨b, hi.trans hb, hv⟩
  | live o =>
   rw [hsl] at hs; simp only at hs
   rcases hs with hs | ⟨o', hs, _⟩ <;> rw [hs] <;> trivial
 | fn f n cap ih => rintro v ⟨cs, h1, h2, h3⟩; exact ⟨cs, h1, h2, fun j hj => by obtain ⟨c, a, b⟩ := h3 j hj; exact ⟨c, a, ih j _ b⟩⟩
 | agg n get ih => rintro v ⟨cs, h1, h2, h3⟩; exact ⟨cs, h1, h2, fun j hj => by obtain ⟨c, a, p, b⟩ := h3 j hj; exact ⟨c, a, p, ih j _ b⟩⟩
 | tup n get ih => rintro v ⟨cs, h1, h2, h3⟩; exact ⟨cs, h1, h2, fun j hj => by obtain ⟨c, a, b⟩ := h3 j hj; exact ⟨c, a, ih j _ b⟩⟩
def V.one : V -> Bool
 | .un => false
 | .und => false
 | .agg _ _ => false
 | .tup _ _ => false
 | _ => true
theorem V.one_plain {H : Heap} {ι : Id -> Option Nat} {F : Nat -> Prop} {w : World} {u : V} {v : Value} (h1 : u.one = true) (h : VRel H ι F w u v) : v.oneCell' = true := by
 cases u with
 | un => cases h1
 | und => cases h1
 | agg n get => cases h1
 | tup n get => cases h1
 | t x => exact h.plain
 | nils => rw [show v = _ from h]; rfl
 | nilp => rw [show v = _ from h]; rfl
 | nilm => rw [show v = _ from h]; rfl
 | nilf => rw [show v = _ from h]; rfl
 | ptr id ver r c => exact h.1
 | sref id ver r len => exact h.1
 | mref id => exact h.1
 | fp m get => obtain ⟨b, o, rfl, _⟩ := h; rfl
 | fn f n cap => obtain ⟨cs, rfl, _⟩ := h; rfl
def V.row : V -> Nat -> V
 | .agg _ get, j => get j
 | u, _ => u
def V.rowOk : V -> Nat -> Bool
 | .agg n _, s => Nat.beq n s
 | u, s => u.one && Nat.beq s 1
theorem V.rowOk_cells {H : Heap} {ι : Id -> Option Nat} {F : Nat -> Prop} {w : World} {u : V} {v : Value} {s : Nat} (h1 : u.rowOk s = true) (h : VRel H ι F w u v) :
  v.cells.size = s /\ ∀ j, j < s -> ∃ c, v.cells[j]? = some c /\ c.oneCell' = true /\ VRel H ι F w (u.row j) c := by
 have key : u.one = true -> Nat.beq s 1 = true -> (∀ j, u.row j = u) -> v.cells.size = s /\ ∀ j, j < s -> ∃ c, v.cells[j]? = some c /\ c.oneCell' = true /\ VRel H ι F w (u.row j) c := by
  intro ho hs hr
  obtain rfl := Nat.eq_of_beq_eq_true hs
  have hp := V.one_plain ho h
  have hc : v.cells = #[v] := by cases v <;> first | rfl | (simp [Value.oneCell'] at hp)
  refine ⟨by rw [hc]; rfl, fun j hj => ⟨v, ?_, hp, by rw [hr]; exact h⟩⟩
  have : j = 0 := by omega
  subst this; rw [hc]; rfl
 cases u with
 | agg n get =>
  obtain rfl := Nat.eq_of_beq_eq_true h1
  obtain ⟨cs, rfl, h2, h3⟩ := h
  exact ⟨h2, h3⟩
 | _ =>
  simp only [V.rowOk, Bool.and_eq_true] at h1
  exact key h1.1 h1.2 (fun _ => rfl)
theorem Ext.refl (H : Heap) (ι : Id -> Option Nat) (F : Nat -> Prop) (w : World) : Ext H ι F w H ι F w := fun _ _ h => h
theorem Ext.trans {H1 H2 H3 : Heap} {ι1 ι2 ι3 : Id -> Option Nat} {F1 F2 F3 : Nat -> Prop} {w1 w2 w3 : World}
  (h : Ext H1 ι1 F1 w1 H2 ι2 F2 w2) (k : Ext H2 ι2 F2 w2 H3 ι3 F3 w3) : Ext H1 ι1 F1 w1 H3 ι3 F3 w3 := fun u v hu => k u v (h u v hu)
def ORel (H : Heap) (ι : Id -> Option Nat) (F : Nat -> Prop) (w : World) (o : AObj) (id : Id) : Prop :=
 o.n <= LEN /\ match ι id with
 | none => o.n = 0
 | some b => ∃ cur, w.heap[b]? = some (.cells cur o.elem (0, 0)) /\ o.n * o.sz <= cur.size /\
   ∀ i, i < o.n -> ∀ j, j < o.sz -> ∃ c, cur[i * o.sz + j]? = some c /\ c.oneCell' = true /\ VRel H ι F w (o.get i j) c
def MKey.val : MKey -> Value
 | .i n => .int .i64 n
 | .s b => .string b
def MKey.isS : MKey -> Bool
 | .i _ => false
 | .s _ => true
def MRel (H : Heap) (ι : Id -> Option Nat) (F : Nat -> Prop) (w : World) (str : Bool) (get : MKey -> Option V) (id : Id) : Prop :=
 ∃ b es clock, ι id = some b /\ w.heap[b]? = some (.map es clock) /\ (∀ e ∈ es.toList, ∃ k : MKey, k.isS = str /\ e.key = k.val) /\
  ∀ k : MKey, k.isS = str -> match get k with
   | none => ∀ e ∈ es.toList, e.key ≠ k.val
   | some u => ∃ (i : Nat) (e : MapEntry), es[i]? = some e /\ (e.key = k.val /\ ∀ j, j < i -> ∀ e', es[j]? = some e' -> e'.key ≠ k.val) /\ VRel H ι F w u e.val
structure Env where
 w0 : World
 W0 : Nat -> Prop
 H0 : Heap
 ι0 : Id -> Option Nat
 F0 : Nat -> Prop
def Slot.is : Slot -> Prop
 | .live _ => True
 | .mp _ _ => True
 | _ => False
structure RelH (E : Env) (ι : Id -> Option Nat) (F : Nat -> Prop) (H : Heap) (w : World) : Prop where
 os : w.os = E.w0.os
 tape : w.tape = E.w0.tape
 output : w.output = E.w0.output
 size : E.w0.heap.size <= w.heap.size
 kept : ∀ b, b < E.w0.heap.size -> ¬ E.W0 b -> w.heap[b]? = E.w0.heap[b]?
 obj : ∀ id o, H.slot id = .live o -> ORel H ι F w o id
 mapo : ∀ id s g, H.slot id = .mp s g -> MRel H ι F w s g id
 inj : ∀ id id' b, (H.slot id).is -> (H.slot id').is -> ι id = some b -> ι id' = some b -> id = id'
 nofr : ∀ id b, (H.slot id).is -> ι id = some b -> ¬ F b
 own : ∀ id b, (H.slot id).is -> ι id = some b -> E.W0 b \/ E.w0.heap.size <= b
 lt : ∀ id b, (H.slot id).is -> ι id = some b -> b < w.heap.size
 frlt : ∀ b, F b -> b < w.heap.size
 frin : ∀ b, F b -> E.F0 b \/ E.W0 b \/ E.w0.heap.size <= b
 next : ∀ id : Id, H.next <= id.k -> H.slot id = .unborn
 ext : Ext E.H0 E.ι0 E.F0 E.w0 H ι F w
 lo : ∀ id : Id, (H.lo <= id.k \/ id.p ≠ []) -> E.H0.slot id = .unborn
structure Rel (E : Env) (ι : Id -> Option Nat) (F : Nat -> Prop) (st : St) (a : Act) (w : World) : Prop where
 h : RelH E ι F st.heap w
 env : ∀ t, VRel st.heap ι F w (st.env t) (a.tmps.getD t undef)
 nt : a.tmps.size = st.nt
 defers : a.defers = []
def Holds (E : Env) (K : St -> Prop) (a : Act) (w : World) : Prop := ∃ ι F st, Rel E ι F st a w /\ K st
def Weak (st st' : St) : Prop := ∀ E ι F a w, Rel E ι F st a w -> ∃ ι' F', Rel E ι' F' st' a w
end Go.Abs
namespace Go.Abs
open Go
def V.cell : Value -> V
 | .bool b => .t (.bool b)
 | .int k n => .t (.int k n)
 | .string s => bif Nat.ble s.size 9223372036854775807 then .t (.str s) else .un
 | .slice none 0 0 => .nils
 | .pointer none => .nilp
 | .map none => .nilm
 | .nilFunc => .nilf
 | .nilIface => .t .nilI
 | _ => .un
def V.ofValue : Value -> V
 | .agg cs => bif cs.all (·.oneCell') then .agg cs.size (fun j => V.cell (cs.getD j undef)) else .un
 | v => V.cell v
theorem V.cell_rel (H : Heap) (ι : Id -> Option Nat) (F : Nat -> Prop) (w : World) (v : Value) : VRel H ι F w (V.cell v) v := by
 unfold V.cell
 split
 ·rfl
 ·rfl
 ·rename_i s
  cases h : Nat.ble s.size 9223372036854775807
  ·exact trivial
  ·exact ⟨rfl, Nat.le_of_ble_eq_true h⟩
 all_goals first | rfl | exact trivial
theorem V.ofValue_rel (H : Heap) (ι : Id -> Option Nat) (F : Nat -> Prop) (w : World) (v : Value) : VRel H ι F w (V.ofValue v) v := by
 unfold V.ofValue
 split
 ·rename_i cs
  cases h : cs.all (·.oneCell')
  ·exact trivial
  ·refine ⟨cs, rfl, rfl, fun j hj => ⟨cs[j], Array.getElem?_eq_getElem hj, ?_, ?_⟩⟩
   ·exact Array.all_eq_true_iff_forall_mem.1 h _ (Array.getElem_mem hj)
   ·have : cs.getD j undef = cs[j] := by simp [Array.getD, hj]
    show VRel H ι F w (V.cell (cs.getD j undef)) cs[j]
    rw [this]
    exact V.cell_rel H ι F w _
 ·exact V.cell_rel H ι F w v
def St.eval (st : St) : Operand -> V
 | .tmp t => st.env t
 | .const v => V.ofValue v
 | .global _ => .un
 | .func f => .fn f 0 (fun _ => .un)
theorem Rel.eval {E : Env} {ι : Id -> Option Nat} {F : Nat -> Prop} {st : St} {a : Act} {w : World} (h : Rel E ι F st a w) (x : Operand) :
  VRel st.heap ι F w (st.eval x) (a.eval x) := by
 cases x with
 | tmp t => exact h.env t
 | const v => exact V.ofValue_rel _ _ _ _ _
 | global g => exact trivial
 | func f => exact ⟨#[], rfl, rfl, fun j hj => absurd hj (Nat.not_lt_zero _)⟩
def St.put (st : St) (d : Option Tmp) (v : V) : St :=
 match d with
 | none => st
 | some d => { st with env := fun t => bif Nat.beq t d then (bif Nat.blt d st.nt then v else .un) else st.env t }
def St.on (st : St) (H : Heap) : St := { st with heap := H }
theorem Rel.put {E : Env} {ι : Id -> Option Nat} {F : Nat -> Prop} {st : St} {a : Act} {w : World} {ι' : Id -> Option Nat} {F' : Nat -> Prop} {H' : Heap} {w' : World}
  (h : Rel E ι F st a w) (hH : RelH E ι' F' H' w') (he : Ext st.heap ι F w H' ι' F' w') (d : Option Tmp) {u : V} {v : Value} (hv : VRel H' ι' F' w' u v) :
  Rel E ι' F' ((st.on H').put d u) (a.put d v) w' := by
 refine ⟨?_, fun t => ?_, ?_, ?_⟩
 ·cases d <;> exact hH
 ·cases d with
  | none => exact he _ _ (h.env t)
  | some d =>
   simp only [St.put, St.on, Act.put]
   cases hb : Nat.beq t d with
   | true =>
    obtain rfl := Nat.eq_of_beq_eq_true hb
    cases hlt : Nat.blt t st.nt with
    | false => exact trivial
    | true =>
     have hlt' : t < a.tmps.size := by rw [h.nt]; exact Nat.le_of_ble_eq_true hlt
     simp only [cond_true, Array.getD_eq_getD_getElem?, Array.getElem?_setIfInBounds_self_of_lt hlt', Option.getD_some]
     exact hv
   | false =>
    have hne : d ≠ t := fun e => by subst e; simp at hb
    simp only [cond_false, Array.getD_eq_getD_getElem?, Array.getElem?_setIfInBounds_ne hne]
    have := h.env t
    rw [Array.getD_eq_getD_getElem?] at this
    exact he _ _ this
 ·cases d with
  | none => exact h.nt
  | some d => simp only [Act.put, St.put, St.on, Array.size_setIfInBounds]; exact h.nt
 ·cases d <;> exact h.defers
theorem Rel.put_same {E : Env} {ι : Id -> Option Nat} {F : Nat -> Prop} {st : St} {a : Act} {w : World}
  (h : Rel E ι F st a w) (d : Option Tmp) {u : V} {v : Value} (hv : VRel st.heap ι F w u v) : Rel E ι F (st.put d u) (a.put d v) w :=
 h.put h.h (Ext.refl _ _ _ _) d hv
def conc (E : Env) (Q : Exit -> St -> Prop) : Exit -> Act -> World -> Prop
 | .panic _, _, _ => False
 | .outgrown, _, _ => False
 | e, a, w => Holds E (Q e) a w
structure GOp where
 dst : Option Tmp
 op : Op
 type : TypeId
 g : Option (Option Tmp × Bool)
def GOp.oper (g : GOp) : Oper := { dst := g.dst, op := g.op, type := g.type, pos := "", after := #[], guard := none }
def GOp.wanted (g : GOp) (tmps : Array Value) : Bool :=
 match g.g with
 | none => true
 | some (none, _) => false
 | some (some t, want) => match tmps[t]? with
  | some (.bool b) => b == want
  | _ => false
def gtmp (all : List Oper) : Option (Nat × Bool) -> Option (Option Tmp × Bool)
 | none => none
 | some (j, w) => some ((all[j]?).bind (·.dst), w)
def Oper.gop (all : List Oper) (o : Oper) : GOp := ⟨o.dst, o.op, o.type, gtmp all o.guard⟩
def prepL (all : List Oper) : List Oper -> List GOp
 | [] => []
 | ⟨d, op, ty, _, _, g⟩ :: l => ⟨d, op, ty, gtmp all g⟩ :: prepL all l
theorem prepL_cons (all : List Oper) (o : Oper) (l : List Oper) : prepL all (o :: l) = Oper.gop all o :: prepL all l := by cases o; rfl
def prep (A : Array Oper) : List GOp := prepL A.toList A.toList
def lwp (P : Program) : List GOp -> (Exit -> Act -> World -> Prop) -> Act -> World -> Prop
 | [], Q, a, w => Q .normal a w
 | g :: L, Q, a, w => if g.wanted a.tmps then g.oper.wp P a w (lwp P L Q) Q else lwp P L Q (a.put g.dst undef) w
theorem wanted_prep (A : Array Oper) (o : Oper) (tmps : Array Value) : (Oper.gop A.toList o).wanted tmps = Region.wanted o (yielded A tmps) := by
 unfold GOp.wanted Region.wanted Oper.gop
 cases hg : o.guard with
 | none => rfl
 | some jw =>
  obtain ⟨j, want⟩ := jw
  simp only [yielded, gtmp, Array.getElem?_toList]
  cases hd : (A[j]?).bind (·.dst) with
  | none => simp
  | some t =>
   simp only [Option.bind_some]
   cases ht : tmps[t]? with
   | none => simp
   | some v => cases v <;> simp
theorem execOp_oper (o : Oper) (dst : Option Tmp) (p : String) (af : Array Edge) (gd : Option (Nat × Bool)) (ρ : Operand -> Value) :
  execOp ρ { dst := dst, op := o.op, type := o.type, pos := p, after := af, guard := gd } = execOp ρ o := by
 unfold execOp; rfl
theorem wp_oper (P : Program) (o : Oper) (gd : Option (Option Tmp × Bool)) (a : Act) (w : World) (K : Act -> World -> Prop) (Q : Exit -> Act -> World -> Prop)
  (h : (GOp.oper ⟨o.dst, o.op, o.type, gd⟩).wp P a w K Q) : o.wp P a w K Q := by
 unfold Oper.wp at h ⊢
 have e : execOp a.eval (GOp.oper ⟨o.dst, o.op, o.type, gd⟩) = execOp a.eval o := execOp_oper o _ _ _ _ _
 rw [e] at h
 generalize (execOp a.eval o).run P w = r at h ⊢
 cases r with
 | ok n w' => cases n <;> exact h
 | halt x w' => cases x <;> exact h
theorem lwp_opsL {P : Program} {A : Array Oper} {Q : Exit -> Act -> World -> Prop} : ∀ (l : List Oper) (k : Nat), A.toList.drop k = l -> k + l.length = A.size ->
  ∀ (a : Act) (w : World), lwp P (prepL A.toList l) Q a w -> wpOps P A Q (List.range' k l.length) a w
 | [], k, h, hk, a, w, hw => hw
 | o :: l, k, h, hk, a, w, hw => by
  have hlt : k < A.size := by simp at hk; omega
  have ho : A[k]? = some o := by
   have := congrArg (·[0]?) h
   simpa using this
  have hdrop : A.toList.drop (k + 1) = l := by
   have := congrArg (·.drop 1) h
   simpa [List.drop_drop, Nat.add_comm] using this
  have ih := lwp_opsL (P := P) (Q := Q) l (k + 1) hdrop (by simp at hk; omega)
  simp only [List.length_cons, List.range'_succ, wpOps, ho]
  rw [prepL_cons] at hw
  simp only [lwp, wanted_prep] at hw
  split
  ·rename_i hc
   rw [if_pos hc] at hw
   exact .inl (Oper.wp_mono (fun a w => ih a w) (wp_oper P o _ a w _ _ hw))
  ·rename_i hc
   rw [if_neg hc] at hw
   exact ih _ _ hw
theorem lwp_ops {P : Program} {A : Array Oper} {Q : Exit -> Act -> World -> Prop} (a : Act) (w : World) (h : lwp P (prep A) Q a w) : wpOps P A Q (List.range A.size) a w := by
 have := lwp_opsL (P := P) (A := A) (Q := Q) A.toList 0 rfl (by simp) a w h
 rw [List.range_eq_range']
 simpa using this
section
variable (P : Program)
structure SL (L : List GOp) (Q : Exit -> St -> Prop) (st : St) : Prop where
 mk :: (out : ∀ E ι F a w, Rel E ι F st a w -> lwp P L (conc E Q) a w)
structure SC (c : Code) (Q : Exit -> St -> Prop) (st : St) : Prop where
 mk :: (out : ∀ E ι F a w, Rel E ι F st a w -> c.wp P (conc E Q) a w)
end
def thenQ (K : St -> Prop) (Q : Exit -> St -> Prop) : Exit -> St -> Prop
 | .normal, st => K st
 | e, st => Q e st
def inQ (id : Nat) (Q : Exit -> St -> Prop) : Exit -> St -> Prop
 | .exit id', st => bif Nat.beq id' id then Q .normal st else Q (.exit id') st
 | e, st => Q e st
variable {P : Program} {Q : Exit -> St -> Prop} {st : St} {L : List GOp}
theorem SL.weak {st' : St} (h : Weak st st') (k : SL P L Q st') : SL P L Q st :=
 ⟨fun E ι F a w r => by obtain ⟨ι', F', r'⟩ := h E ι F a w r; exact k.out E ι' F' a w r'⟩
theorem SC.weak {c : Code} {st' : St} (h : Weak st st') (k : SC P c Q st') : SC P c Q st :=
 ⟨fun E ι F a w r => by obtain ⟨ι', F', r'⟩ := h E ι F a w r; exact k.out E ι' F' a w r'⟩
theorem SL.nil (h : Q .normal st) : SL P [] Q st := ⟨fun E ι F a w r => ⟨ι, F, st, r, h⟩⟩
theorem SC.region {id : Nat} {A : Array Oper} (h : SL P (prep A) Q st) : SC P (.region id A false) Q st :=
 ⟨fun E ι F a w r => wp_region (lwp_ops _ _ (h.out E ι F a w r))⟩
theorem SC.skip (h : Q .normal st) : SC P .skip Q st := ⟨fun E ι F a w r => wp_skip ⟨ι, F, st, r, h⟩⟩
theorem SC.exit {id : Nat} (h : Q (.exit id) st) : SC P (.exit id) Q st := ⟨fun E ι F a w r => wp_exit ⟨ι, F, st, r, h⟩⟩
theorem SC.ret (h : Q .ret st) : SC P .ret Q st := ⟨fun E ι F a w r => wp_ret ⟨ι, F, st, r, h⟩⟩
theorem conc_then {E : Env} {K : St -> Prop} {y : Code} (hK : ∀ st, K st -> SC P y Q st) (e : Exit) (a : Act) (w : World) (h : conc E (thenQ K Q) e a w) :
  Exit.then (y.wp P (conc E Q)) (conc E Q) e a w := by
 cases e with
 | normal => obtain ⟨ι, F, st, r, k⟩ := h; exact (hK st k).out E ι F a w r
 | exit id => exact h
 | goto l => exact h
 | ret => exact h
 | panic c => exact h
 | outgrown => exact h
theorem SC.seq {x y : Code} (h : ∀ K : St -> Prop, (∀ st, SC P y Q st -> K st) -> SC P x (thenQ K Q) st) : SC P (.seq x y) Q st :=
 ⟨fun E ι F a w r => wp_seq (wp_mono ((h (SC P y Q) (fun _ h => h)).out E ι F a w r) (conc_then fun _ h => h))⟩
theorem SC.seq' {x y : Code} (h : SC P x (thenQ (SC P y Q) Q) st) : SC P (.seq x y) Q st :=
 ⟨fun E ι F a w r => wp_seq (wp_mono (h.out E ι F a w r) (conc_then fun _ h => h))⟩
theorem SC.cond {c : Operand} {x y : Code} {b : Bool} (hc : st.eval c = .t (.bool b)) (h1 : b = true -> SC P x Q st) (h2 : b = false -> SC P y Q st) : SC P (.cond c x y) Q st :=
 ⟨fun E ι F a w r => by
  have hv := r.eval c
  rw [hc] at hv
  exact wp_cond_split (t := b) hv (fun hb => (h1 hb).out E ι F a w r) (fun hb => (h2 hb).out E ι F a w r)⟩
theorem SC.cond_true {c : Operand} {x y : Code} (hc : st.eval c = .t (.bool true)) (h : SC P x Q st) : SC P (.cond c x y) Q st :=
 SC.cond hc (fun _ => h) (fun e => by cases e)
theorem SC.cond_false {c : Operand} {x y : Code} (hc : st.eval c = .t (.bool false)) (h : SC P y Q st) : SC P (.cond c x y) Q st :=
 SC.cond hc (fun e => by cases e) (fun _ => h)
theorem SC.block {id : Nat} {c : Code} (h : SC P c (inQ id Q) st) : SC P (.block id c) Q st :=
 ⟨fun E ι F a w r => wp_block (wp_mono (h.out E ι F a w r) fun e a w he => by
  cases e with
  | exit id' =>
   obtain ⟨ι, F, st, r, k⟩ := he
   simp only [inQ] at k
   simp only [Exit.inBlock]
   cases hb : Nat.beq id' id with
   | true =>
    rw [hb] at k
    rw [if_pos (Nat.eq_of_beq_eq_true hb)]
    exact ⟨ι, F, st, r, k⟩
   | false =>
    rw [hb] at k
    rw [if_neg (fun e => by subst e; simp at hb)]
    exact ⟨ι, F, st, r, k⟩
  | normal => exact he
  | goto l => exact he
  | ret => exact he
  | panic c => exact he
  | outgrown => exact he)⟩
theorem SC.mono {c : Code} {Q' : Exit -> St -> Prop} (h : SC P c Q st) (hq : ∀ e st, Q e st -> Q' e st) : SC P c Q' st :=
 ⟨fun E ι F a w r => wp_mono (h.out E ι F a w r) fun e a w he => by
  cases e with
  | panic c => exact he
  | outgrown => exact he
  | normal => obtain ⟨ι, F, st, r, k⟩ := he; exact ⟨ι, F, st, r, hq _ _ k⟩
  | exit _ => obtain ⟨ι, F, st, r, k⟩ := he; exact ⟨ι, F, st, r, hq _ _ k⟩
  | goto _ => obtain ⟨ι, F, st, r, k⟩ := he; exact ⟨ι, F, st, r, hq _ _ k⟩
  | ret => obtain ⟨ι, F, st, r, k⟩ := he; exact ⟨ι, F, st, r, hq _ _ k⟩⟩
def AtHead (P : Program) (c : Code) (Q : Exit -> Act -> World -> Prop) (a : Act) (w : World) : Prop :=
 ∀ (b : Frame) (k : List Item) (cs : List Frame), ∃ e a' w', Q e a' w' /\ Arrives P (lone (b.at a (.inLoop c :: k)) cs w) b k cs e a' w'
theorem atHead_round {c : Code} {Q : Exit -> Act -> World -> Prop} {a : Act} {w : World} (h : c.wp P (Exit.then (AtHead P c Q) Q) a w) : AtHead P c Q a w := by
 intro b k cs
 obtain ⟨e, a₁, w₁, hq, harr⟩ := h b (.inLoop c :: k) cs
 cases e with
 | normal =>
  obtain ⟨e₂, a₂, w₂, hq₂, harr₂⟩ := hq b k cs
  exact ⟨e₂, a₂, w₂, hq₂, .of_steps (.head step_inLoop harr) harr₂⟩
 | exit id => exact ⟨_, a₁, w₁, hq, .of_steps (.one step_inLoop) (.pass (x := .inLoop c) rfl (fun _ _ => .inl (by simp)) harr)⟩
 | goto l => exact ⟨_, a₁, w₁, hq, .of_steps (.one step_inLoop) (.pass (x := .inLoop c) rfl (fun _ _ => .inl (by simp)) harr)⟩
 | ret => exact ⟨_, a₁, w₁, hq, .of_steps (.one step_inLoop) (.pass (x := .inLoop c) rfl (fun _ _ => .inl (by simp)) harr)⟩
 | panic ch => exact ⟨_, a₁, w₁, hq, .of_steps (.one step_inLoop) (.pass (x := .inLoop c) rfl (fun _ _ => .inl (by simp)) harr)⟩
 | outgrown => exact ⟨_, a₁, w₁, hq, .of_steps (.one step_inLoop) (.pass (x := .inLoop c) rfl (fun _ _ => .inl (by simp)) harr)⟩
theorem wp_of_atHead {c : Code} {Q : Exit -> Act -> World -> Prop} {a : Act} {w : World} (h : c.wp P (Exit.then (AtHead P c Q) Q) a w) : (Code.loop c).wp P Q a w := by
 intro b k cs
 obtain ⟨e, a₁, w₁, hq, harr⟩ := h b (.inLoop c :: k) cs
 cases e with
 | normal =>
  obtain ⟨e₂, a₂, w₂, hq₂, harr₂⟩ := hq b k cs
  exact ⟨e₂, a₂, w₂, hq₂, .of_steps (.head step_loop harr) harr₂⟩
 | exit id => exact ⟨_, a₁, w₁, hq, .of_steps (.one step_loop) (.pass (x := .inLoop c) rfl (fun _ _ => .inl (by simp)) harr)⟩
 | goto l => exact ⟨_, a₁, w₁, hq, .of_steps (.one step_loop) (.pass (x := .inLoop c) rfl (fun _ _ => .inl (by simp)) harr)⟩
 | ret => exact ⟨_, a₁, w₁, hq, .of_steps (.one step_loop) (.pass (x := .inLoop c) rfl (fun _ _ => .inl (by simp)) harr)⟩
 | panic ch => exact ⟨_, a₁, w₁, hq, .of_steps (.one step_loop) (.pass (x := .inLoop c) rfl (fun _ _ => .inl (by simp)) harr)⟩
 | outgrown => exact ⟨_, a₁, w₁, hq, .of_steps (.one step_loop) (.pass (x := .inLoop c) rfl (fun _ _ => .inl (by simp)) harr)⟩
theorem SC.loop {c : Code} (h : ∀ J : St -> Prop, (∀ st st', Weak st st' -> J st' -> J st) -> (∀ st, SC P c (thenQ J Q) st -> J st) -> J st) : SC P (.loop c) Q st := by
 have key := h (fun st => ∀ E ι F a w, Rel E ι F st a w -> c.wp P (Exit.then (AtHead P c (conc E Q)) (conc E Q)) a w)
  (fun st st' hw hj E ι F a w r => by obtain ⟨ι', F', r'⟩ := hw E ι F a w r; exact hj E ι' F' a w r')
  (fun st hs E ι F a w r => wp_mono (hs.out E ι F a w r) fun e a w he => by
   cases e with
   | normal => obtain ⟨ι, F, st, r, k⟩ := he; exact atHead_round (k E ι F a w r)
   | exit id => exact he
   | goto l => exact he
   | ret => exact he
   | panic c => exact he
   | outgrown => exact he)
 exact ⟨fun E ι F a w r => wp_of_atHead (key E ι F a w r)⟩
theorem SL.value {g : GOp} (hg : g.g = none) (h : ∀ E ι F a w, Rel E ι F st a w -> ∃ v w' ι' F' H' u, (execOp a.eval g.oper).run P w = .ok (.value v) w' /\
   RelH E ι' F' H' w' /\ Ext st.heap ι F w H' ι' F' w' /\ VRel H' ι' F' w' u v /\ SL P L Q ((st.on H').put g.dst u)) : SL P (g :: L) Q st :=
 ⟨fun E ι F a w r => by
  obtain ⟨v, w', ι', F', H', u, h1, h2, h3, h4, h5⟩ := h E ι F a w r
  have hw : g.wanted a.tmps = true := by unfold GOp.wanted; rw [hg]
  simp only [lwp, hw, if_true, Oper.wp, h1, Oper.upon]
  exact h5.out E ι' F' _ _ (r.put h2 h3 g.dst h4)⟩
theorem SL.gu {d : Option Tmp} {op : Op} {ty : TypeId} {t : Tmp} {want : Bool} (hb : st.env t = .und) (h : SL P L Q (st.put d .und)) : SL P (⟨d, op, ty, some (some t, want)⟩ :: L) Q st :=
 ⟨fun E ι F a w r => by
  have hv := r.env t
  rw [hb] at hv
  have hw : GOp.wanted ⟨d, op, ty, some (some t, want)⟩ a.tmps = false := by
   have hv : a.tmps.getD t undef = undef := hv
   simp only [GOp.wanted]
   rw [Array.getD_eq_getD_getElem?] at hv
   cases he : a.tmps[t]? with
   | none => rfl
   | some v =>
    rw [he, Option.getD_some] at hv
    subst hv; rfl
  simp only [lwp, hw, Bool.false_eq_true, if_false]
  exact h.out E ι F _ _ (r.put_same d (u := .und) (v := undef) rfl)⟩
theorem SL.guard {d : Option Tmp} {op : Op} {ty : TypeId} {t : Tmp} {want b : Bool} (hb : st.env t = .t (.bool b)) (hlt : Nat.blt t st.nt = true)
  (h1 : b = want -> SL P (⟨d, op, ty, none⟩ :: L) Q st) (h2 : b = !want -> SL P L Q (st.put d .und)) : SL P (⟨d, op, ty, some (some t, want)⟩ :: L) Q st :=
 ⟨fun E ι F a w r => by
  have hv := r.env t
  rw [hb] at hv
  have hlt' : t < a.tmps.size := by rw [r.nt]; exact Nat.le_of_ble_eq_true hlt
  have he : a.tmps[t]? = some (.bool b) := by
   have : a.tmps.getD t undef = .bool b := hv
   rw [Array.getD_eq_getD_getElem?, Array.getElem?_eq_getElem hlt', Option.getD_some] at this
   rw [Array.getElem?_eq_getElem hlt', this]
  have hw : GOp.wanted ⟨d, op, ty, some (some t, want)⟩ a.tmps = (b == want) := by simp only [GOp.wanted, he]
  by_cases hbw : b = want
  ·subst hbw
   have := (h1 rfl).out E ι F a w r
   have hw2 : GOp.wanted ⟨d, op, ty, none⟩ a.tmps = true := rfl
   simp only [lwp, hw2, if_true] at this
   simp only [lwp, hw, beq_self_eq_true, if_true]
   exact this
  ·have hb2 : b = !want := by cases b <;> cases want <;> simp_all
   have := (h2 hb2).out E ι F _ _ (r.put_same d (u := .und) (v := undef) rfl)
   have hw2 : (b == want) = false := by simpa using hbw
   simp only [lwp, hw, hw2, Bool.false_eq_true, if_false]
   exact this⟩
end Go.Abs
namespace Go.Abs
open Go
variable {P : Program} {st : St} {d : Option Tmp} {ty : TypeId}
def QV (P : Program) (g : GOp) (u : V) (st : St) : Prop := ∀ E ι F a w, Rel E ι F st a w -> ∃ v, (execOp a.eval g.oper).run P w = .ok (.value v) w /\ VRel st.heap ι F w u v
class TySz (P : Program) (t : TypeId) (agg : outParam Bool) (s : outParam Nat) : Prop where
 d : ∃ d, P.underlying t = some d /\ d.isRow = agg
 s : (P.info? t).map (·.size) = some s
class TyZero (P : Program) (t : TypeId) (v : outParam Value) : Prop where
 z : (P.info? t).map (·.zero) = some (some v)
 c : v.cells.all (·.oneCell') = true
class TyField (P : Program) (t f : Nat) (off : outParam Nat) (agg : outParam Bool) (s : outParam Nat) : Prop where
 d : ∃ fs fl, P.underlying t = some (.struct fs) /\ fs[f]? = some fl /\ fl.offset = off /\ TySz P fl.type agg s
 s : s ≠ 0
class TySlice (P : Program) (t : TypeId) (e : outParam TypeId) (s bytes : outParam Nat) : Prop where
 d : P.underlying t = some (.slice e)
 s : (P.info? e).map (fun i => (i.size, i.bytes)) = some (s, bytes)
class TyArr (P : Program) (t : TypeId) (n : outParam Nat) (e : outParam TypeId) (s : outParam Nat) : Prop where
 d : P.underlying t = some (.array n e)
 s : (P.info? e).map (·.size) = some s
class TyDesc (P : Program) (t : TypeId) (d : outParam TypeDesc) : Prop where
 d : P.underlying t = some d
theorem O.move {x : Operand} : QV P ⟨d, .move x, ty, none⟩ (st.eval x) st :=
 fun E ι F a w r => ⟨_, rfl, r.eval x⟩
theorem O.assign {x : Operand} : QV P ⟨d, .assign x, ty, none⟩ (st.eval x) st :=
 fun E ι F a w r => ⟨_, rfl, r.eval x⟩
theorem O.pick_true {c x y : Operand} (hc : st.eval c = .t (.bool true)) : QV P ⟨d, .pick c x y, ty, none⟩ (st.eval x) st := fun E ι F a w r => by
 have h := r.eval c
 rw [hc] at h
 have h' : a.eval c = .bool true := h
 exact ⟨a.eval x, by simp [execOp, GOp.oper, h', asBool], r.eval x⟩
theorem O.pick_false {c x y : Operand} (hc : st.eval c = .t (.bool false)) : QV P ⟨d, .pick c x y, ty, none⟩ (st.eval y) st := fun E ι F a w r => by
 have h := r.eval c
 rw [hc] at h
 have h' : a.eval c = .bool false := h
 exact ⟨a.eval y, by simp [execOp, GOp.oper, h', asBool], r.eval y⟩
theorem int_eval {E : Env} {ι : Id -> Option Nat} {F : Nat -> Prop} {a : Act} {w : World} (r : Rel E ι F st a w) {x : Operand} {k : IntKind} {n : Int}
  (h : st.eval x = .t (.int k n)) : a.eval x = .int k n := by
 have := r.eval x
 rw [h] at this
 exact this
theorem bool_eval {E : Env} {ι : Id -> Option Nat} {F : Nat -> Prop} {a : Act} {w : World} (r : Rel E ι F st a w) {x : Operand} {b : Bool}
  (h : st.eval x = .t (.bool b)) : a.eval x = .bool b := by
 have := r.eval x
 rw [h] at this
 exact this
theorem O.int2 {op : BinOp} {tx tY : TypeId} {x y : Operand} {k : IntKind} {m n : Int} (hx : st.eval x = .t (.int k m)) (hy : st.eval y = .t (.int k n)) (z : T)
  (hz : ∀ w, ∃ v, (binOp op tx (.int k m) (.int k n)).run P w = .ok v w /\ ∀ F w, Reads F w z v) : QV P ⟨d, .binOp op tx x y tY, ty, none⟩ (.t z) st :=
 fun E ι F a w r => by
  obtain ⟨v, h1, h2⟩ := hz w
  refine ⟨v, ?_, h2 F w⟩
  have hg : (eqGuard op tx x y (.int k m) (.int k n)).run P w = .ok () w := by
   unfold eqGuard; cases op <;> rfl
  simp [execOp, GOp.oper, int_eval r hx, int_eval r hy, hg, h1]
theorem O.add {tx tY : TypeId} {x y : Operand} {k : IntKind} {m n : Int} (hx : st.eval x = .t (.int k m)) (hy : st.eval y = .t (.int k n)) {z : Int} (hz : k.wrap (m + n) = z) : QV P ⟨d, .binOp .add tx x y tY, ty, none⟩ (.t (.int k z)) st :=
 O.int2 hx hy (.int k z) (fun w => ⟨.int k z, by simp [binOp, Op.intArith, hz], fun F w => rfl⟩)
theorem O.sub {tx tY : TypeId} {x y : Operand} {k : IntKind} {m n : Int} (hx : st.eval x = .t (.int k m)) (hy : st.eval y = .t (.int k n)) {z : Int} (hz : k.wrap (m - n) = z) : QV P ⟨d, .binOp .sub tx x y tY, ty, none⟩ (.t (.int k z)) st :=
 O.int2 hx hy (.int k z) (fun w => ⟨.int k z, by simp [binOp, Op.intArith, hz], fun F w => rfl⟩)
theorem O.mul {tx tY : TypeId} {x y : Operand} {k : IntKind} {m n : Int} (hx : st.eval x = .t (.int k m)) (hy : st.eval y = .t (.int k n)) {z : Int} (hz : k.wrap (m * n) = z) : QV P ⟨d, .binOp .mul tx x y tY, ty, none⟩ (.t (.int k z)) st :=
 O.int2 hx hy (.int k z) (fun w => ⟨.int k z, by simp [binOp, Op.intArith, hz], fun F w => rfl⟩)
theorem O.quo {tx tY : TypeId} {x y : Operand} {k : IntKind} {m n : Int} (hx : st.eval x = .t (.int k m)) (hy : st.eval y = .t (.int k n)) (hn : n ≠ 0) {z : Int} (hz : k.wrap (m.tdiv n) = z) : QV P ⟨d, .binOp .quo tx x y tY, ty, none⟩ (.t (.int k z)) st :=
 O.int2 hx hy (.int k z) (fun w => ⟨.int k z, by simp [binOp, Op.intDiv, hn, hz], fun F w => rfl⟩)
theorem O.rem {tx tY : TypeId} {x y : Operand} {k : IntKind} {m n : Int} (hx : st.eval x = .t (.int k m)) (hy : st.eval y = .t (.int k n)) (hn : n ≠ 0) : QV P ⟨d, .binOp .rem tx x y tY, ty, none⟩ (.t (.int k (m.tmod n))) st :=
 O.int2 hx hy (.int k (m.tmod n)) (fun w => ⟨.int k (m.tmod n), by simp [binOp, Op.intDiv, hn], fun F w => rfl⟩)
def bitOp (op : BinOp) (k : IntKind) (m n : Int) : Int :=
 let a := BitVec.ofInt k.bits m
 let b := BitVec.ofInt k.bits n
 k.wrap ((match op with | .and => a &&& b | .or => a ||| b | .xor => a ^^^ b | _ => a &&& ~~~b : BitVec k.bits).toNat : Int)
theorem O.bits {op : BinOp} {tx tY : TypeId} {x y : Operand} {k : IntKind} {m n : Int} (hx : st.eval x = .t (.int k m)) (hy : st.eval y = .t (.int k n))
  (ho : (match op with | .and | .or | .xor | .andNot => true | _ => false) = true) : QV P ⟨d, .binOp op tx x y tY, ty, none⟩ (.t (.int k (bitOp op k m n))) st :=
 O.int2 hx hy (.int k (bitOp op k m n)) (fun w => by
  cases op <;> first | (exfalso; revert ho; decide) | exact ⟨_, by simp only [binOp, Op.intBits, ne_eq, not_true_eq_false, if_false]; rfl, fun F w => rfl⟩)
theorem O.shl {tx tY : TypeId} {x y : Operand} {k k' : IntKind} {m n : Int} (hx : st.eval x = .t (.int k m)) (hy : st.eval y = .t (.int k' n)) (hn : 0 <= n) : QV P ⟨d, .binOp .shl tx x y tY, ty, none⟩ (.t (.int k (k.wrap (m * 2 ^ (min n.toNat k.bits))))) st :=
 fun E ι F a w r => by
  refine ⟨.int k (k.wrap (m * 2 ^ (min n.toNat k.bits))), ?_, rfl⟩
  have hg : (eqGuard .shl tx x y (.int k m) (.int k' n)).run P w = .ok () w := rfl
  have hn' : ¬ n < 0 := by omega
  simp [execOp, GOp.oper, int_eval r hx, int_eval r hy, hg, binOp, Op.shift, hn']
theorem O.shr {tx tY : TypeId} {x y : Operand} {k k' : IntKind} {m n : Int} (hx : st.eval x = .t (.int k m)) (hy : st.eval y = .t (.int k' n)) (hn : 0 <= n) : QV P ⟨d, .binOp .shr tx x y tY, ty, none⟩ (.t (.int k (m.fdiv (2 ^ (min n.toNat k.bits))))) st :=
 fun E ι F a w r => by
  refine ⟨.int k (m.fdiv (2 ^ (min n.toNat k.bits))), ?_, rfl⟩
  have hg : (eqGuard .shr tx x y (.int k m) (.int k' n)).run P w = .ok () w := rfl
  have hn' : ¬ n < 0 := by omega
  simp [execOp, GOp.oper, int_eval r hx, int_eval r hy, hg, binOp, Op.shift, hn']
theorem O.lss {tx tY : TypeId} {x y : Operand} {k : IntKind} {m n : Int} (hx : st.eval x = .t (.int k m)) (hy : st.eval y = .t (.int k n)) : QV P ⟨d, .binOp .lss tx x y tY, ty, none⟩ (.t (.bool (decide (m < n)))) st :=
 O.int2 hx hy (.bool (decide (m < n))) (fun w => ⟨.bool (decide (m < n)), by simp [binOp, Op.intCmp], fun F w => rfl⟩)
theorem O.leq {tx tY : TypeId} {x y : Operand} {k : IntKind} {m n : Int} (hx : st.eval x = .t (.int k m)) (hy : st.eval y = .t (.int k n)) : QV P ⟨d, .binOp .leq tx x y tY, ty, none⟩ (.t (.bool (decide (m <= n)))) st :=
 O.int2 hx hy (.bool (decide (m <= n))) (fun w => ⟨.bool (decide (m <= n)), by simp [binOp, Op.intCmp], fun F w => rfl⟩)
theorem O.gtr {tx tY : TypeId} {x y : Operand} {k : IntKind} {m n : Int} (hx : st.eval x = .t (.int k m)) (hy : st.eval y = .t (.int k n)) : QV P ⟨d, .binOp .gtr tx x y tY, ty, none⟩ (.t (.bool (decide (n < m)))) st :=
 O.int2 hx hy (.bool (decide (n < m))) (fun w => ⟨.bool (decide (n < m)), by simp [binOp, Op.intCmp], fun F w => rfl⟩)
theorem O.geq {tx tY : TypeId} {x y : Operand} {k : IntKind} {m n : Int} (hx : st.eval x = .t (.int k m)) (hy : st.eval y = .t (.int k n)) : QV P ⟨d, .binOp .geq tx x y tY, ty, none⟩ (.t (.bool (decide (n <= m)))) st :=
 O.int2 hx hy (.bool (decide (n <= m))) (fun w => ⟨.bool (decide (n <= m)), by simp [binOp, Op.intCmp], fun F w => rfl⟩)
theorem O.eql {tx tY : TypeId} {x y : Operand} {k : IntKind} {m n : Int} (hx : st.eval x = .t (.int k m)) (hy : st.eval y = .t (.int k n)) : QV P ⟨d, .binOp .eql tx x y tY, ty, none⟩ (.t (.bool (decide (m = n)))) st :=
 O.int2 hx hy (.bool (decide (m = n))) (fun w => ⟨.bool (decide (m = n)), by simp [binOp, Op.intCmp]; first | rfl | (congr 1; rw [Bool.eq_iff_iff]; simp), fun F w => rfl⟩)
theorem O.neq {tx tY : TypeId} {x y : Operand} {k : IntKind} {m n : Int} (hx : st.eval x = .t (.int k m)) (hy : st.eval y = .t (.int k n)) : QV P ⟨d, .binOp .neq tx x y tY, ty, none⟩ (.t (.bool (!decide (m = n)))) st :=
 O.int2 hx hy (.bool (!decide (m = n))) (fun w => ⟨.bool (!decide (m = n)), by simp [binOp, Op.intCmp]; first | rfl | (congr 1; rw [Bool.eq_iff_iff]; simp), fun F w => rfl⟩)
theorem O.not {t' : TypeId} {x : Operand} {b : Bool} (hx : st.eval x = .t (.bool b)) : QV P ⟨d, .unOp .not t' x, ty, none⟩ (.t (.bool (!b))) st :=
 fun E ι F a w r => ⟨.bool (!b), by simp [execOp, GOp.oper, bool_eval r hx, Op.unary], rfl⟩
theorem O.neg {t' : TypeId} {x : Operand} {k : IntKind} {n : Int} (hx : st.eval x = .t (.int k n)) {z : Int} (hz : k.wrap (0 - n) = z) : QV P ⟨d, .unOp .neg t' x, ty, none⟩ (.t (.int k z)) st :=
 fun E ι F a w r => ⟨.int k z, by simp [execOp, GOp.oper, int_eval r hx, Op.unary, Op.intArith, <- hz], rfl⟩
theorem O.compl {t' : TypeId} {x : Operand} {k : IntKind} {n : Int} (hx : st.eval x = .t (.int k n)) : QV P ⟨d, .unOp .xor t' x, ty, none⟩ (.t (.int k (bitOp .xor k (if k.signed then -1 else k.max) n))) st :=
 fun E ι F a w r => ⟨_, by simp [execOp, GOp.oper, int_eval r hx, Op.unary, Op.intBits]; rfl, rfl⟩
theorem run_underlying' {t : TypeId} {d : TypeDesc} (h : P.underlying t = some d) (w : World) : (underlying t).run P w = .ok d w := by
 simp [underlying, h]
theorem O.convInt {src dst : TypeId} {x : Operand} {k k' : IntKind} {n : Int} {sd : TypeDesc} [hs : TyDesc P src sd] [hd : TyDesc P dst (.int k')] (hx : st.eval x = .t (.int k n)) {z : Int} (hz : k'.wrap n = z) : QV P ⟨d, .convert src dst x, ty, none⟩ (.t (.int k' z)) st :=
 fun E ι F a w r => ⟨.int k' z, by
  simp [execOp, GOp.oper, int_eval r hx, convert, run_underlying' hs.d, run_underlying' hd.d, Conv.intToInt, hz], rfl⟩
theorem isAgg_run {t : TypeId} {agg : Bool} {s : Nat} [h : TySz P t agg s] (w : World) : (isAgg t).run P w = .ok agg w := by
 obtain ⟨d, hd, ha⟩ := h.d
 unfold isAgg
 rw [Sem.run_bind, run_underlying' hd]
 subst ha
 cases d <;> rfl
theorem sizeOf_run {t : TypeId} {agg : Bool} {s : Nat} [h : TySz P t agg s] (w : World) : (sizeOf t).run P w = .ok s w := by
 have hs := h.s
 cases hq : P.info? t with
 | none => simp [hq] at hs
 | some i => simp [hq] at hs; simp [sizeOf, typeInfo, hq, hs]
theorem load_cell_run {t : TypeId} {s : Nat} [h : TySz P t false s] {w : World} {b o : Nat} {c : Value} (hc : w.cell? ⟨b, o, none⟩ = some c) :
  (Instr.loadAt t (.pointer (some ⟨b, o, none⟩))).run P w = .ok c w := by
 simp [Instr.loadAt, Instr.sureAddr, loadVar, isAgg_run (P := P) (t := t), hc]
theorem load_agg_run {t : TypeId} {s : Nat} [h : TySz P t true s] {w : World} {b o : Nat} {cs : List Value} (hl : cs.length = s) (hc : ∀ j v, cs[j]? = some v -> w.cell? ⟨b, o + j, none⟩ = some v) :
  (Instr.loadAt t (.pointer (some ⟨b, o, none⟩))).run P w = .ok (.agg cs.toArray) w := by
 obtain ⟨d, hd, ha⟩ := h.d
 exact run_loadAt_mid w b o t cs d hc hd ha (by rw [hl]; exact h.s)
theorem gather {p : Nat -> Value -> Prop} : ∀ n, (∀ j, j < n -> ∃ c, p j c) -> ∃ cs : List Value, cs.length = n /\ ∀ j v, cs[j]? = some v -> p j v
 | 0, _ => ⟨[], rfl, fun j v h => by simp at h⟩
 | n + 1, h => by
  obtain ⟨cs, hl, hp⟩ := gather (p := p) n (fun j hj => h j (by omega))
  obtain ⟨c, hc⟩ := h n (by omega)
  refine ⟨cs ++ [c], by simp [hl], fun j v hv => ?_⟩
  by_cases hj : j < n
  ·rw [List.getElem?_append_left (by omega)] at hv
   exact hp j v hv
  ·rw [List.getElem?_append_right (by omega)] at hv
   have : j = n := by
    have := (List.getElem?_eq_some_iff.1 hv).1
    simp [hl] at this; omega
   subst this
   simp [hl] at hv
   subst hv; exact hc
theorem O.loadF {t : TypeId} {s : Nat} [TySz P t false s] {x : Operand} {m : Nat} {get : Nat -> T} (hx : st.eval x = .fp m get) (hm : Nat.blt 0 m = true) : QV P ⟨d, .load t x, ty, none⟩ (.t (get 0)) st :=
 fun E ι F a w r => by
  have h := r.eval x
  rw [hx] at h
  obtain ⟨b, o, h1, h2, h3⟩ := h
  obtain ⟨c, hc1, hc2⟩ := h3 0 (Nat.le_of_ble_eq_true hm)
  exact ⟨c, by simp only [execOp, GOp.oper, h1, Sem.run_bind, load_cell_run (P := P) (t := t) (by simpa using hc1), Result.andThen_ok]; rfl, hc2⟩
theorem O.loadFA {t : TypeId} {s : Nat} [TySz P t true s] {x : Operand} {m : Nat} {get : Nat -> T} (hx : st.eval x = .fp m get) (hm : Nat.ble s m = true) : QV P ⟨d, .load t x, ty, none⟩ (.agg s (fun j => .t (get j))) st :=
 fun E ι F a w r => by
  have h := r.eval x
  rw [hx] at h
  obtain ⟨b, o, h1, h2, h3⟩ := h
  have hm := Nat.le_of_ble_eq_true hm
  obtain ⟨cs, hl, hp⟩ := gather (p := fun j c => w.cell? ⟨b, o + j, none⟩ = some c /\ Reads F w (get j) c) s (fun j hj => h3 j (by omega))
  refine ⟨.agg cs.toArray, by simp only [execOp, GOp.oper, h1, Sem.run_bind, load_agg_run (P := P) (t := t) hl (fun j v hv => (hp j v hv).1), Result.andThen_ok]; rfl, cs.toArray, rfl, by simp [hl], fun j hj => ?_⟩
  have hj' : j < cs.length := by omega
  have hr := (hp j cs[j] (List.getElem?_eq_getElem hj')).2
  exact ⟨cs[j], by simp [hj'], hr.plain, hr⟩
theorem live_ptr {E : Env} {ι : Id -> Option Nat} {F : Nat -> Prop} {a : Act} {w : World} (r : Rel E ι F st a w) {x : Operand} {id : Id} {ver rr c : Nat} {o : AObj}
  (hx : st.eval x = .ptr id ver rr c) (ho : st.heap.slot id = .live o) (hv : ver = o.ver) :
  ∃ b, ι id = some b /\ a.eval x = .pointer (some ⟨b, rr * o.sz + c, none⟩) := by
 have h := r.eval x
 rw [hx] at h
 have h2 := h.2
 rw [ho] at h2
 exact h2.2 hv
theorem obj_cells {E : Env} {ι : Id -> Option Nat} {F : Nat -> Prop} {H : Heap} {w : World} (r : RelH E ι F H w) {id : Id} {b : Nat} {o : AObj} (ho : H.slot id = .live o) (hb : ι id = some b) :
  ∃ cur, w.heap[b]? = some (.cells cur o.elem (0, 0)) /\ o.n * o.sz <= cur.size /\ ∀ i, i < o.n -> ∀ j, j < o.sz -> ∃ c, w.cell? ⟨b, i * o.sz + j, none⟩ = some c /\ cur[i * o.sz + j]? = some c /\ c.oneCell' = true /\ VRel H ι F w (o.get i j) c := by
 have h := (r.obj id o ho).2
 rw [hb] at h
 obtain ⟨cur, h1, h2, h3⟩ := h
 refine ⟨cur, h1, h2, fun i hi j hj => ?_⟩
 obtain ⟨c, a, b, d⟩ := h3 i hi j hj
 exact ⟨c, by simp [World.cell?, h1, a], a, b, d⟩
theorem O.loadP {t : TypeId} {s : Nat} [TySz P t false s] {x : Operand} {id : Id} {ver rr c : Nat} {o : AObj} (hx : st.eval x = .ptr id ver rr c) (ho : st.heap.slot id = .live o)
  (hv : ver = o.ver) (hr : rr < o.n) (hc : c < o.sz) : QV P ⟨d, .load t x, ty, none⟩ (o.get rr c) st :=
 fun E ι F a w r => by
  obtain ⟨b, hb, he⟩ := live_ptr r hx ho hv
  obtain ⟨cur, h1, h2, h3⟩ := obj_cells r.h ho hb
  obtain ⟨u, hu1, hu2, hu3, hu4⟩ := h3 rr hr c hc
  exact ⟨u, by simp only [execOp, GOp.oper, he, Sem.run_bind, load_cell_run (P := P) (t := t) hu1, Result.andThen_ok]; rfl, hu4⟩
theorem O.loadPA {t : TypeId} {s : Nat} [TySz P t true s] {x : Operand} {id : Id} {ver rr c : Nat} {o : AObj} (hx : st.eval x = .ptr id ver rr c) (ho : st.heap.slot id = .live o)
  (hv : ver = o.ver) (hr : rr < o.n) (hc : c + s <= o.sz) : QV P ⟨d, .load t x, ty, none⟩ (.agg s (fun j => o.get rr (j + c))) st :=
 fun E ι F a w r => by
  obtain ⟨b, hb, he⟩ := live_ptr r hx ho hv
  obtain ⟨cur, h1, h2, h3⟩ := obj_cells r.h ho hb
  obtain ⟨cs, hl, hp⟩ := gather (p := fun j u => w.cell? ⟨b, rr * o.sz + c + j, none⟩ = some u /\ u.oneCell' = true /\ VRel st.heap ι F w (o.get rr (j + c)) u) s (fun j hj => by
   obtain ⟨u, hu1, hu2, hu3, hu4⟩ := h3 rr hr (j + c) (by omega)
   exact ⟨u, by rw [show rr * o.sz + c + j = rr * o.sz + (j + c) by omega]; exact hu1, hu3, hu4⟩)
  refine ⟨.agg cs.toArray, by simp only [execOp, GOp.oper, he, Sem.run_bind, load_agg_run (P := P) (t := t) hl (fun j v hv => (hp j v hv).1), Result.andThen_ok]; rfl, cs.toArray, rfl, by simp [hl], fun j hj => ?_⟩
  have hj' : j < cs.length := by omega
  have hr := hp j cs[j] (List.getElem?_eq_getElem hj')
  exact ⟨cs[j], by simp [hj'], hr.2.1, hr.2.2⟩
theorem addr_add (b o n : Nat) : (⟨b, o, none⟩ : Addr).add n = ⟨b, o + n, none⟩ := by unfold Addr.add; split <;> simp_all
theorem fieldAt_run {t f off s : Nat} {agg : Bool} [h : TyField P t f off agg s] {w : World} {b o : Nat} :
  (Instr.fieldAt t (.pointer (some ⟨b, o, none⟩)) f).run P w = .ok (.pointer (some ⟨b, o + off, none⟩)) w := by
 obtain ⟨fs, fl, h1, h2, h3, h4⟩ := h.d
 have hs := sizeOf_run (P := P) (t := fl.type) w
 have h0 := h.s
 simp [Instr.fieldAt, run_underlying' h1, h2, Instr.sureAddr, fieldPlace, hs, h0, h3, addr_add]
theorem O.fieldF {t f off s : Nat} {agg : Bool} [TyField P t f off agg s] {x : Operand} {m : Nat} {get : Nat -> T} (hx : st.eval x = .fp m get) : QV P ⟨d, .fieldAddr t x f, ty, none⟩ (.fp (m - off) (fun j => get (j + off))) st :=
 fun E ι F a w r => by
  have h := r.eval x
  rw [hx] at h
  obtain ⟨b, o, h1, h2, h3⟩ := h
  refine ⟨_, by simp only [execOp, GOp.oper, h1, Sem.run_bind, fieldAt_run (P := P) (t := t) (f := f), Result.andThen_ok]; rfl, b, o + off, rfl, h2, fun j hj => ?_⟩
  obtain ⟨c, hc1, hc2⟩ := h3 (j + off) (by omega)
  exact ⟨c, by rw [show o + off + j = o + (j + off) by omega]; exact hc1, hc2⟩
theorem O.fieldP {t f off s : Nat} {agg : Bool} [TyField P t f off agg s] {x : Operand} {id : Id} {ver rr c : Nat} {o : AObj} (hx : st.eval x = .ptr id ver rr c) (ho : st.heap.slot id = .live o) (hv : ver = o.ver) : QV P ⟨d, .fieldAddr t x f, ty, none⟩ (.ptr id ver rr (c + off)) st :=
 fun E ι F a w r => by
  obtain ⟨b, hb, he⟩ := live_ptr r hx ho hv
  refine ⟨_, by simp only [execOp, GOp.oper, he, Sem.run_bind, fieldAt_run (P := P) (t := t) (f := f), Result.andThen_ok]; rfl, rfl, ?_⟩
  rw [ho]
  exact ⟨by omega, fun _ => ⟨b, hb, by rw [Nat.add_assoc]⟩⟩
theorem sliceSz {t e : TypeId} {s by_ : Nat} [h : TySlice P t e s by_] (w : World) : (sizeOf e).run P w = .ok s w := by
 have hs := h.s
 cases hq : P.info? e with
 | none => simp [hq] at hs
 | some i => simp [hq] at hs; simp [sizeOf, typeInfo, hq, hs.1]
theorem indexAt_run {t e : TypeId} {s by_ : Nat} [h : TySlice P t e s by_] {w : World} {b o n cap : Nat} {k : IntKind} {i : Int} (h0 : 0 <= i) (h1 : i < n) :
  (Instr.indexAt t (.slice (some ⟨b, o, none⟩) n cap) (.int k i)).run P w = .ok (.pointer (some ⟨b, o + i.toNat * s, none⟩)) w := by
 simp [Instr.indexAt, asIntOf, run_underlying' h.d, h0, h1, sliceSz (P := P) (t := t), addr_add]
theorem O.indexF {t e : TypeId} {s by_ : Nat} [TySlice P t e s by_] {x y : Operand} {n : Nat} {get : Nat -> Nat -> T} {k : IntKind} {i : Int}
  (hx : st.eval x = .t (.sl s n get)) (hy : st.eval y = .t (.int k i)) (h0 : 0 <= i) (h1 : i < n) : QV P ⟨d, .indexAddr t x y, ty, none⟩ (.fp s (get i.toNat)) st :=
 fun E ι F a w r => by
  have h := r.eval x
  rw [hx] at h
  obtain ⟨A, cap, g1, g2, g3, g4⟩ := h
  obtain ⟨b, o, rfl, hb, hc⟩ := g4 (by omega)
  refine ⟨_, by simp only [execOp, GOp.oper, g1, int_eval r hy, Sem.run_bind, indexAt_run (P := P) (t := t) h0 h1, Result.andThen_ok]; rfl, b, _, rfl, hb, fun j hj => ?_⟩
  obtain ⟨c, hc1, hc2⟩ := hc i.toNat (by omega) j hj
  exact ⟨c, by rw [Nat.add_assoc]; exact hc1, hc2⟩
theorem live_sref {E : Env} {ι : Id -> Option Nat} {F : Nat -> Prop} {a : Act} {w : World} (r : Rel E ι F st a w) {x : Operand} {id : Id} {ver rr len : Nat} {o : AObj}
  (hx : st.eval x = .sref id ver rr len) (ho : st.heap.slot id = .live o) (hv : ver = o.ver) :
  rr + len <= o.n /\ ∃ A cap, a.eval x = .slice A len cap /\ len <= cap /\
     (0 < cap -> ∃ b cur, ι id = some b /\ A = some ⟨b, rr * o.sz, none⟩ /\ w.heap[b]? = some (.cells cur o.elem (0, 0)) /\ rr * o.sz + cap * o.sz <= cur.size) := by
 have h := r.eval x
 rw [hx] at h
 have h2 := h.2
 rw [ho] at h2
 exact h2.2 hv
theorem O.indexS {t e : TypeId} {s by_ : Nat} [TySlice P t e s by_] {x y : Operand} {id : Id} {ver rr len : Nat} {o : AObj} {k : IntKind} {i : Int}
  (hx : st.eval x = .sref id ver rr len) (ho : st.heap.slot id = .live o) (hv : ver = o.ver) (hs : o.sz = s) (hy : st.eval y = .t (.int k i)) (h0 : 0 <= i) (h1 : i < len) : QV P ⟨d, .indexAddr t x y, ty, none⟩ (.ptr id ver (i.toNat + rr) 0) st :=
 fun E ι F a w r => by
  obtain ⟨g0, A, cap, g1, g2, g4⟩ := live_sref r hx ho hv
  obtain ⟨b, cur, hb, rfl, hh, hsz⟩ := g4 (by omega)
  refine ⟨_, by simp only [execOp, GOp.oper, g1, int_eval r hy, Sem.run_bind, indexAt_run (P := P) (t := t) h0 h1, Result.andThen_ok]; rfl, rfl, ?_⟩
  rw [ho]
  refine ⟨by omega, fun _ => ⟨b, hb, ?_⟩⟩
  rw [hs, Nat.add_mul, Nat.add_zero, Nat.add_comm]
theorem O.indexStr {t : TypeId} [h : TyDesc P t .string] {x y : Operand} {s : ByteArray} {k : IntKind} {i : Int}
  (hx : st.eval x = .t (.str s)) (hy : st.eval y = .t (.int k i)) (h0 : 0 <= i) (h1 : i.toNat < s.size) : QV P ⟨d, .index t x y, ty, none⟩ (.t (.int .u8 ((s[i.toNat]'h1).toNat : Int))) st :=
 fun E ι F a w r => by
  have hr := r.eval x
  rw [hx] at hr
  have e : s[i.toNat]? = some (s[i.toNat]'h1) := by simp [h1]
  exact ⟨_, by simp [execOp, GOp.oper, hr.1, int_eval r hy, Instr.index, asIntOf, run_underlying' h.d, h0, e], rfl⟩
theorem O.lenF {t : TypeId} {e : TypeId} {s by_ : Nat} [h : TySlice P t e s by_] {x : Operand} {sz n : Nat} {get : Nat -> Nat -> T} (hx : st.eval x = .t (.sl sz n get)) :
  QV P ⟨d, .call { callee := .builtin .len, args := #[x], argTypes := #[t] }, ty, none⟩ (.t (.int .i64 n)) st := fun E ι F a w r => by
 have hr := r.eval x
 rw [hx] at hr
 obtain ⟨A, cap, g1, g2, g3, g4⟩ := hr
 exact ⟨_, by simp [execOp, GOp.oper, resolve, invoke, builtin, Builtin.len_, run_underlying' h.d, g1, goInt], rfl⟩
theorem O.lenN {t : TypeId} {e : TypeId} {s by_ : Nat} [h : TySlice P t e s by_] {x : Operand} (hx : st.eval x = .nils) :
  QV P ⟨d, .call { callee := .builtin .len, args := #[x], argTypes := #[t] }, ty, none⟩ (.t (.int .i64 0)) st := fun E ι F a w r => by
 have hr := r.eval x
 rw [hx] at hr
 have hr' : a.eval x = .slice none 0 0 := hr
 exact ⟨_, by simp [execOp, GOp.oper, resolve, invoke, builtin, Builtin.len_, run_underlying' h.d, hr', goInt], rfl⟩
theorem O.lenS {t : TypeId} {e : TypeId} {s by_ : Nat} [h : TySlice P t e s by_] {x : Operand} {id : Id} {ver rr len : Nat} {o : AObj} (hx : st.eval x = .sref id ver rr len) (ho : st.heap.slot id = .live o) (hv : ver = o.ver) :
  QV P ⟨d, .call { callee := .builtin .len, args := #[x], argTypes := #[t] }, ty, none⟩ (.t (.int .i64 len)) st := fun E ι F a w r => by
 obtain ⟨g0, A, cap, g1, g2, g4⟩ := live_sref r hx ho hv
 exact ⟨_, by simp [execOp, GOp.oper, resolve, invoke, builtin, Builtin.len_, run_underlying' h.d, g1, goInt], rfl⟩
theorem O.lenStr {t : TypeId} [h : TyDesc P t .string] {x : Operand} {s : ByteArray} (hx : st.eval x = .t (.str s)) :
  QV P ⟨d, .call { callee := .builtin .len, args := #[x], argTypes := #[t] }, ty, none⟩ (.t (.int .i64 s.size)) st := fun E ι F a w r => by
 have hr := r.eval x
 rw [hx] at hr
 exact ⟨_, by simp [execOp, GOp.oper, resolve, invoke, builtin, Builtin.len_, run_underlying' h.d, hr.1, goInt], rfl⟩
theorem O.extract {x : Operand} {i n : Nat} {get : Nat -> V} (hx : st.eval x = .tup n get) (hi : Nat.blt i n = true) : QV P ⟨d, .extract x i, ty, none⟩ (get i) st :=
 fun E ι F a w r => by
  have hr := r.eval x
  rw [hx] at hr
  obtain ⟨cs, h1, h2, h3⟩ := hr
  obtain ⟨c, hc1, hc2⟩ := h3 i (Nat.le_of_ble_eq_true hi)
  exact ⟨c, by simp [execOp, GOp.oper, h1, Instr.extract, hc1], hc2⟩
theorem O.nilCheckP {x : Operand} {id : Id} {ver rr c : Nat} {o : AObj} (hx : st.eval x = .ptr id ver rr c) (ho : st.heap.slot id = .live o) (hv : ver = o.ver) : QV P ⟨d, .nilCheck x, ty, none⟩ (.ptr id ver rr c) st :=
 fun E ι F a w r => by
  obtain ⟨b, hb, he⟩ := live_ptr r hx ho hv
  have hr := r.eval x
  rw [hx] at hr
  exact ⟨a.eval x, by simp [execOp, GOp.oper, he], hr⟩
theorem O.nilCheckF {x : Operand} {m : Nat} {get : Nat -> T} (hx : st.eval x = .fp m get) : QV P ⟨d, .nilCheck x, ty, none⟩ (.fp m get) st :=
 fun E ι F a w r => by
  have hr := r.eval x
  rw [hx] at hr
  have hr2 := hr
  obtain ⟨b, o, h1, h2, h3⟩ := hr
  exact ⟨a.eval x, by simp [execOp, GOp.oper, h1], hr2⟩
theorem O.field1 {t f off s : Nat} [h : TyField P t f off false s] {x : Operand} {n : Nat} {get : Nat -> V} (hx : st.eval x = .agg n get) (hn : Nat.blt off n = true) : QV P ⟨d, .field t x f, ty, none⟩ (get off) st :=
 fun E ι F a w r => by
  have hr := r.eval x
  rw [hx] at hr
  obtain ⟨cs, h1, h2, h3⟩ := hr
  obtain ⟨c, hc1, hc2, hc3⟩ := h3 off (Nat.le_of_ble_eq_true hn)
  obtain ⟨fs, fl, g1, g2, g3, g4⟩ := h.d
  exact ⟨c, by simp [execOp, GOp.oper, h1, Instr.field, run_underlying' g1, g2, g3, asAgg, part, isAgg_run (P := P) (t := fl.type), hc1], hc3⟩
end Go.Abs
namespace Go.Abs
open Go
variable {P : Program} {Q : Exit -> St -> Prop} {st : St} {L : List GOp} {d : Option Tmp} {ty : TypeId}
def Heap.add (H : Heap) (o : AObj) : Heap := { next := H.next + 1, slot := fun i => bif Id.beq i ⟨H.next, []⟩ then .live o else H.slot i, lo := H.lo }
def Heap.set (H : Heap) (id : Id) (o : AObj) : Heap := { H with slot := fun i => bif Id.beq i id then .live o else H.slot i }
def upd (ι : Id -> Option Nat) (id : Id) (b : Nat) : Id -> Option Nat := fun i => if i = id then some b else ι i
theorem beq_if (i id : Id) (x y : Slot) : (bif Id.beq i id then x else y) = if i = id then x else y := by
 by_cases h : i = id
 ·subst h; simp [Id.beq_refl]
 ·have : Id.beq i id = false := by
   cases hb : Id.beq i id with
   | false => rfl
   | true => exact absurd (Id.beq_iff.1 hb) h
  simp [this, h]
theorem RelH.step {E : Env} {ι : Id -> Option Nat} {F : Nat -> Prop} {H : Heap} {w : World} (r : RelH E ι F H w) (id : Id) (b : Nat) (o' : AObj) (cur' : Array Value) (w' : World) (H' : Heap)
  (hH : ∀ i, H'.slot i = if i = id then .live o' else H.slot i) (hn : ∀ i, H'.next <= i.k -> i ≠ id /\ H.next <= i.k) (hlo : H'.lo = H.lo)
  (hos : w'.os = w.os) (htape : w'.tape = w.tape) (hout : w'.output = w.output) (hsz : w.heap.size <= w'.heap.size) (hoth : ∀ k, k ≠ b -> k < w.heap.size -> w'.heap[k]? = w.heap[k]?)
  (hb' : w'.heap[b]? = some (.cells cur' o'.elem (0, 0)))
  (hfresh : b = w.heap.size \/ (ι id = some b /\ (H.slot id).is))
  (hlen : o'.n <= LEN) (hcs : o'.n * o'.sz <= cur'.size)
  (hcell : ∀ i, i < o'.n -> ∀ j, j < o'.sz -> ∃ c, cur'[i * o'.sz + j]? = some c /\ c.oneCell' = true /\ VRel H ι F w (o'.get i j) c)
  (hslot : match H.slot id with
   | .unborn => True
   | .live o => o.ver <= o'.ver /\ (o.ver = o'.ver -> o'.sz = o.sz /\ o'.elem = o.elem /\ o.n <= o'.n /\ ι id = some b /\ ∀ cur, w.heap[b]? = some (.cells cur o.elem (0, 0)) -> cur'.size = cur.size)
   | _ => False) :
  RelH E (upd ι id b) F H' w' /\ Ext H ι F w H' (upd ι id b) F w' := by
 have hbF : ¬ F b := by
  rcases hfresh with h | ⟨h1, h2⟩
  ·intro hf; have := r.frlt b hf; omega
  ·exact r.nofr id b h2 h1
 have hF : ∀ k, F k -> w'.heap[k]? = w.heap[k]? := fun k hk => hoth k (fun e => hbF (e ▸ hk)) (r.frlt k hk)
 have hne : ∀ i k, i ≠ id -> (H.slot i).is -> ι i = some k -> k ≠ b := by
  intro i k hi hl hk e
  subst e
  rcases hfresh with h | ⟨h1, h2⟩
  ·have := r.lt i k hl hk; omega
  ·exact hi (r.inj i id k hl h2 hk h1)
 have ho : ∀ i k, i ≠ id -> (H.slot i).is -> ι i = some k -> w'.heap[k]? = w.heap[k]? := fun i k hi hl hk => hoth k (hne i k hi hl hk) (r.lt i k hl hk)
 have hx : Ext H ι F w H' (upd ι id b) F w' := by
  refine Ext.of (fun _ h => h) hF fun i => ?_
  unfold SlotOk
  by_cases hi : i = id
  ·subst hi
   rw [hH, if_pos rfl]
   cases hs : H.slot i with
   | unborn => trivial
   | dead => rw [hs] at hslot; exact hslot.elim
   | mp _ _ => rw [hs] at hslot; exact hslot.elim
   | live o =>
    rw [hs] at hslot
    simp only at hslot ⊢
    refine .inr ⟨o', rfl, hslot.1, fun he => ?_⟩
    obtain ⟨k1, k2, k3, k4, k5⟩ := hslot.2 he
    refine ⟨k1, k2, k3, by simp [upd, k4], fun b0 cur hb0 hcur => ?_⟩
    have : b0 = b := by rw [k4] at hb0; exact (Option.some.inj hb0).symm
    subst this
    exact ⟨cur', by rw [<- k2]; exact hb', k5 cur hcur⟩
  ·rw [hH, if_neg hi]
   cases hs : H.slot i with
   | unborn => trivial
   | dead => rfl
   | mp s g => exact .inr ⟨⟨s, g, rfl⟩, by simp [upd, hi]⟩
   | live o =>
    refine .inr ⟨o, rfl, Nat.le_refl _, fun _ => ⟨rfl, rfl, Nat.le_refl _, by simp [upd, hi], fun b0 cur hb0 hcur => ⟨cur, ?_, rfl⟩⟩⟩
    rw [ho i b0 hi (by rw [hs]; trivial) hb0]; exact hcur
 have hid : (H'.slot id) = .live o' := by rw [hH, if_pos rfl]
 have hwas : ∀ i, i ≠ id -> (H'.slot i).is -> (H.slot i).is := fun i hi h => by rw [hH, if_neg hi] at h; exact h
 have hι : ∀ i, i ≠ id -> upd ι id b i = ι i := fun i hi => by simp [upd, hi]
 have hιd : upd ι id b id = some b := by simp [upd]
 have hblt : b < w'.heap.size := (Array.getElem?_eq_some_iff.1 hb').1
 refine ⟨⟨hos.trans r.os, htape.trans r.tape, hout.trans r.output, Nat.le_trans r.size hsz, fun k hk hW => ?_, fun i o hi => ?_, fun i s g hi => ?_, fun i i' k hi hi' hk hk' => ?_, fun i k hi hk => ?_,
  fun i k hi hk => ?_, fun i k hi hk => ?_, fun k hk => Nat.lt_of_lt_of_le (r.frlt k hk) hsz, r.frin, fun i hi => ?_, r.ext.trans hx, by rw [hlo]; exact r.lo⟩, hx⟩
 ·have hkb : k ≠ b := by
   intro e; subst e
   rcases hfresh with h | ⟨h1, h2⟩
   ·have := r.size; omega
   ·rcases r.own id k h2 h1 with h | h
    ·exact hW h
    ·omega
  rw [hoth k hkb (Nat.lt_of_lt_of_le hk r.size)]
  exact r.kept k hk hW
 ·by_cases h : i = id
  ·subst h
   rw [hid] at hi
   injection hi with hi
   subst hi
   refine ⟨hlen, ?_⟩
   rw [hιd]
   exact ⟨cur', hb', hcs, fun i hi j hj => by obtain ⟨c, a, b, d⟩ := hcell i hi j hj; exact ⟨c, a, b, hx _ _ d⟩⟩
  ·rw [hH, if_neg h] at hi
   obtain ⟨h1, h2⟩ := r.obj i o hi
   refine ⟨h1, ?_⟩
   rw [hι i h]
   cases hk : ι i with
   | none => rw [hk] at h2; exact h2
   | some k =>
    rw [hk] at h2
    obtain ⟨cur, g1, g2, g3⟩ := h2
    exact ⟨cur, by rw [ho i k h (by rw [hi]; trivial) hk]; exact g1, g2, fun i hi j hj => by obtain ⟨c, a, b, d⟩ := g3 i hi j hj; exact ⟨c, a, b, hx _ _ d⟩⟩
 ·have h : i ≠ id := fun e => by subst e; rw [hid] at hi; cases hi
  rw [hH, if_neg h] at hi
  obtain ⟨k, es, clock, g1, g2, g3, g4⟩ := r.mapo i s g hi
  refine ⟨k, es, clock, by rw [hι i h]; exact g1, by rw [ho i k h (by rw [hi]; trivial) g1]; exact g2, g3, fun key hkey => ?_⟩
  have := g4 key hkey
  cases hg : g key with
  | none => rw [hg] at this; exact this
  | some u => rw [hg] at this; obtain ⟨n, e, a, b, c⟩ := this; exact ⟨n, e, a, b, hx _ _ c⟩
 ·by_cases h : i = id
  ·by_cases h' : i' = id
   ·exact h.trans h'.symm
   ·subst h
    rw [hιd] at hk
    rw [hι i' h'] at hk'
    exact absurd (Option.some.inj hk).symm (hne i' k h' (hwas i' h' hi') hk')
  ·by_cases h' : i' = id
   ·subst h'
    rw [hιd] at hk'
    rw [hι i h] at hk
    exact absurd (Option.some.inj hk').symm (hne i k h (hwas i h hi) hk)
   ·rw [hι i h] at hk
    rw [hι i' h'] at hk'
    exact r.inj i i' k (hwas i h hi) (hwas i' h' hi') hk hk'
 ·by_cases h : i = id
  ·subst h; rw [hιd] at hk; rw [<- Option.some.inj hk]; exact hbF
  ·rw [hι i h] at hk; exact r.nofr i k (hwas i h hi) hk
 ·by_cases h : i = id
  ·subst h; rw [hιd] at hk
   rw [<- Option.some.inj hk]
   rcases hfresh with h | ⟨h1, h2⟩
   ·right; rw [h]; exact r.size
   ·exact r.own i b h2 h1
  ·rw [hι i h] at hk; exact r.own i k (hwas i h hi) hk
 ·by_cases h : i = id
  ·subst h; rw [hιd] at hk; rw [<- Option.some.inj hk]; exact hblt
  ·rw [hι i h] at hk; exact Nat.lt_of_lt_of_le (r.lt i k (hwas i h hi) hk) hsz
 ·obtain ⟨h1, h2⟩ := hn i hi
  rw [hH, if_neg h1]; exact r.next i h2
theorem RelH.same {E : Env} {ι : Id -> Option Nat} {F : Nat -> Prop} {H : Heap} {w w' : World} (r : RelH E ι F H w) (hos : w'.os = w.os) (htape : w'.tape = w.tape) (hout : w'.output = w.output) (hh : w'.heap = w.heap) :
  RelH E ι F H w' /\ Ext H ι F w H ι F w' := by
 have hx : Ext H ι F w H ι F w' := Ext.of (fun _ h => h) (fun b _ => by rw [hh]) fun i => by
  unfold SlotOk
  cases hs : H.slot i with
  | unborn => trivial
  | dead => rfl
  | mp s g => exact .inr ⟨⟨s, g, rfl⟩, rfl⟩
  | live o => exact .inr ⟨o, rfl, Nat.le_refl _, fun _ => ⟨rfl, rfl, Nat.le_refl _, rfl, fun b cur hb hc => ⟨cur, by rw [hh]; exact hc, rfl⟩⟩⟩
 refine ⟨⟨hos.trans r.os, htape.trans r.tape, hout.trans r.output, by rw [hh]; exact r.size, fun k hk hW => by rw [hh]; exact r.kept k hk hW, fun i o hi => ?_, fun i s g hi => ?_, r.inj, r.nofr, r.own, fun i k hi hk => by rw [hh]; exact r.lt i k hi hk,
  fun k hk => by rw [hh]; exact r.frlt k hk, r.frin, r.next, r.ext.trans hx, r.lo⟩, hx⟩
 ·obtain ⟨h1, h2⟩ := r.obj i o hi
  refine ⟨h1, ?_⟩
  cases hk : ι i with
  | none => rw [hk] at h2; exact h2
  | some k =>
   rw [hk] at h2
   obtain ⟨cur, g1, g2, g3⟩ := h2
   exact ⟨cur, by rw [hh]; exact g1, g2, fun i hi j hj => by obtain ⟨c, a, b, d⟩ := g3 i hi j hj; exact ⟨c, a, b, hx _ _ d⟩⟩
 ·obtain ⟨k, es, clock, g1, g2, g3, g4⟩ := r.mapo i s g hi
  refine ⟨k, es, clock, g1, by rw [hh]; exact g2, g3, fun key hkey => ?_⟩
  have := g4 key hkey
  cases hg : g key with
  | none => rw [hg] at this; exact this
  | some u => rw [hg] at this; obtain ⟨n, e, a, b, c⟩ := this; exact ⟨n, e, a, b, hx _ _ c⟩
theorem RelH.alloc {E : Env} {ι : Id -> Option Nat} {F : Nat -> Prop} {H : Heap} {w : World} (r : RelH E ι F H w) (o : AObj) (cs : Array Value)
  (hlen : o.n <= LEN) (hcs : o.n * o.sz <= cs.size) (hcell : ∀ i, i < o.n -> ∀ j, j < o.sz -> ∃ c, cs[i * o.sz + j]? = some c /\ c.oneCell' = true /\ VRel H ι F w (o.get i j) c) :
  RelH E (upd ι ⟨H.next, []⟩ w.heap.size) F (H.add o) (w.alloc (.cells cs o.elem)) /\ Ext H ι F w (H.add o) (upd ι ⟨H.next, []⟩ w.heap.size) F (w.alloc (.cells cs o.elem)) := by
 refine r.step ⟨H.next, []⟩ w.heap.size o cs _ _ (fun i => by simp only [Heap.add]; exact beq_if _ _ _ _) (fun i hi => ?_) rfl rfl rfl rfl (by simp) (fun k hk hlt => ?_) ?_ (.inl rfl) hlen hcs hcell ?_
 ·simp only [Heap.add] at hi; exact ⟨fun e => by subst e; simp at hi; omega, by omega⟩
 ·simp only [World.alloc, Array.getElem?_push]; rw [if_neg (by omega)]
 ·show (w.heap.push _)[w.heap.size]? = _; simp
 ·rw [r.next ⟨H.next, []⟩ (Nat.le_refl _)]; trivial
def V.boxed (elem : TypeId) (s : Nat) (get : Nat -> V) : AObj := { elem := elem, sz := s, ver := 0, n := 1, get := fun _ j => get j }
theorem upd_self (ι : Id -> Option Nat) (id : Id) (b : Nat) : upd ι id b id = some b := by simp [upd]
theorem Heap.add_self (H : Heap) (o : AObj) : (H.add o).slot ⟨H.next, []⟩ = .live o := by simp [Heap.add, Id.beq_refl]
theorem SL.boxA {e : TypeId} {x : Operand} {s : Nat} {get : Nat -> V} (hx : st.eval x = .agg s get)
  (hk : SL P L Q ((st.on (st.heap.add (V.boxed e s get))).put d (.ptr ⟨st.heap.next, []⟩ 0 0 0))) : SL P (⟨d, .box e x, ty, none⟩ :: L) Q st :=
 SL.value rfl fun E ι F a w r => by
  have hr := r.eval x
  rw [hx] at hr
  obtain ⟨cs, h1, h2, h3⟩ := hr
  obtain ⟨g1, g2⟩ := r.h.alloc (V.boxed e s get) cs (by simp [V.boxed, LEN]) (by simp [V.boxed, h2]) (fun i hi j hj => by
   have : i = 0 := by simp [V.boxed] at hi; exact hi
   subst this
   obtain ⟨c, a, b, d⟩ := h3 j hj
   exact ⟨c, by simpa using a, b, d⟩)
  refine ⟨_, _, _, F, _, .ptr ⟨st.heap.next, []⟩ 0 0 0, by simp only [execOp, GOp.oper, h1, Instr.box, newVar, newRow, Value.cells, Sem.run_bind, run_newObj, Result.andThen_ok, Sem.run_pure]; rfl, g1, g2, ⟨rfl, ?_⟩, hk⟩
  rw [Heap.add_self]
  exact ⟨Nat.le_refl _, fun _ => ⟨_, upd_self _ _ _, by simp⟩⟩
theorem SL.box1 {e : TypeId} {x : Operand} {u : V} (hx : st.eval x = u) (hp : u.one = true)
  (hk : SL P L Q ((st.on (st.heap.add (V.boxed e 1 (fun _ => u)))).put d (.ptr ⟨st.heap.next, []⟩ 0 0 0))) : SL P (⟨d, .box e x, ty, none⟩ :: L) Q st :=
 SL.value rfl fun E ι F a w r => by
  have hr := r.eval x
  rw [hx] at hr
  have h1 : (a.eval x).cells = #[a.eval x] := by
   have := V.one_plain hp hr
   cases hv : a.eval x <;> rw [hv] at this <;> first | rfl | (simp [Value.oneCell'] at this)
  obtain ⟨g1, g2⟩ := r.h.alloc (V.boxed e 1 (fun _ => u)) #[a.eval x] (by simp [V.boxed, LEN]) (by simp [V.boxed]) (fun i hi j hj => by
   have : i = 0 := by simp [V.boxed] at hi; exact hi
   subst this
   have : j = 0 := by simp [V.boxed] at hj; exact hj
   subst this
   exact ⟨a.eval x, by simp, V.one_plain hp hr, hr⟩)
  refine ⟨_, _, _, F, _, .ptr ⟨st.heap.next, []⟩ 0 0 0, by simp only [execOp, GOp.oper, Instr.box, newVar, newRow, h1, Sem.run_bind, run_newObj, Result.andThen_ok, Sem.run_pure]; rfl, g1, g2, ⟨rfl, ?_⟩, hk⟩
  rw [Heap.add_self]
  exact ⟨Nat.le_refl _, fun _ => ⟨_, upd_self _ _ _, by simp⟩⟩
theorem zero_run {t : TypeId} {v : Value} [h : TyZero P t v] (w : World) : (zeroValue t).run P w = .ok v w := by
 have hz := h.z
 cases hq : P.info? t with
 | none => simp [hq] at hz
 | some i => simp [hq] at hz; simp [zeroValue, typeInfo, hq, hz]
theorem SL.alloc {e : TypeId} {z : Value} [h : TyZero P e z] (hk : SL P L Q ((st.on (st.heap.add (V.boxed e z.cells.size (fun j => V.cell (z.cells.getD j undef))))).put d (.ptr ⟨st.heap.next, []⟩ 0 0 0))) :
  SL P (⟨d, .alloc e, ty, none⟩ :: L) Q st :=
 SL.value rfl fun E ι F a w r => by
  obtain ⟨g1, g2⟩ := r.h.alloc (V.boxed e z.cells.size (fun j => V.cell (z.cells.getD j undef))) z.cells (by simp [V.boxed, LEN]) (by simp [V.boxed]) (fun i hi j hj => by
   have : i = 0 := by simp [V.boxed] at hi; exact hi
   subst this
   have hj' : j < z.cells.size := hj
   refine ⟨z.cells[j], by simp, Array.all_eq_true_iff_forall_mem.1 h.c _ (Array.getElem_mem hj'), ?_⟩
   have e : z.cells.getD j undef = z.cells[j] := by simp [Array.getD, hj']
   show VRel _ _ _ _ (V.cell (z.cells.getD j undef)) _
   rw [e]; exact V.cell_rel _ _ _ _ _)
  refine ⟨_, _, _, F, _, .ptr ⟨st.heap.next, []⟩ 0 0 0, by simp only [execOp, GOp.oper, Instr.alloc, zero_run (P := P) (t := e), newVar, newRow, Sem.run_bind, run_newObj, Result.andThen_ok, Sem.run_pure]; rfl, g1, g2, ⟨rfl, ?_⟩, hk⟩
  rw [Heap.add_self]
  exact ⟨Nat.le_refl _, fun _ => ⟨_, upd_self _ _ _, by simp⟩⟩
def setArr (cur : Array Value) (o : Nat) : List Value -> Array Value
 | [] => cur
 | v :: r => setArr (cur.setIfInBounds o v) (o + 1) r
theorem setArr_size (cur : Array Value) (o : Nat) (vs : List Value) : (setArr cur o vs).size = cur.size := by
 induction vs generalizing cur o with
 | nil => rfl
 | cons v r ih => simp [setArr, ih]
theorem setArr_get (cur : Array Value) (o : Nat) (vs : List Value) (h : o + vs.length <= cur.size) (j : Nat) :
  (setArr cur o vs)[j]? = if o <= j /\ j < o + vs.length then vs[j - o]? else cur[j]? := by
 induction vs generalizing cur o with
 | nil => simp [setArr]; intro h1 h2; omega
 | cons v r ih =>
  simp only [List.length_cons] at h
  rw [setArr, ih _ _ (by simp; omega)]
  by_cases hj : o = j
  ·subst hj
   rw [if_neg (by omega), if_pos (by simp)]
   simp [show o < cur.size by omega]
  ·by_cases h1 : o + 1 <= j /\ j < o + 1 + r.length
   ·rw [if_pos h1, if_pos (by simp; omega)]
    rw [show j - o = (j - (o + 1)) + 1 by omega, List.getElem?_cons_succ]
   ·rw [if_neg h1, if_neg (by simp; omega), Array.getElem?_setIfInBounds_ne hj]
theorem setCells_heap {b : Nat} {e : TypeId} (vs : List Value) : ∀ (o : Nat) (w : World) (cur : Array Value), w.heap[b]? = some (.cells cur e (0, 0)) ->
  (w.setCells b o vs).heap[b]? = some (.cells (setArr cur o vs) e (0, 0)) := by
 induction vs with
 | nil => exact fun o w cur h => h
 | cons v r ih =>
  intro o w cur h
  rw [World.setCells, setArr]
  refine ih (o + 1) _ _ ?_
  simp [World.setCell, Array.getElem?_modify, h]
theorem setCells_other {b k : Nat} (hk : k ≠ b) (vs : List Value) : ∀ (o : Nat) (w : World), (w.setCells b o vs).heap[k]? = w.heap[k]? := by
 induction vs with
 | nil => exact fun o w => rfl
 | cons v r ih =>
  intro o w
  rw [World.setCells, ih]
  simp only [World.setCell, Array.getElem?_modify]
  rw [if_neg (fun e => hk e.symm)]
theorem setCells_rest {b : Nat} (vs : List Value) : ∀ (o : Nat) (w : World), (w.setCells b o vs).os = w.os /\ (w.setCells b o vs).tape = w.tape /\ (w.setCells b o vs).output = w.output /\ (w.setCells b o vs).heap.size = w.heap.size := by
 induction vs with
 | nil => exact fun o w => ⟨rfl, rfl, rfl, rfl⟩
 | cons v r ih =>
  intro o w
  obtain ⟨h1, h2, h3, h4⟩ := ih (o + 1) (w.setCell ⟨b, o, none⟩ v)
  exact ⟨h1, h2, h3, by rw [World.setCells, h4]; simp⟩
def AObj.put (o : AObj) (r c s : Nat) (get : Nat -> V) : AObj :=
 { o with get := fun i j => bif Nat.beq i r && (Nat.ble c j && Nat.blt j (c + s)) then get (j - c) else o.get i j }
def AObj.put1 (o : AObj) (r c : Nat) (u : V) : AObj := { o with get := fun i j => bif Nat.beq i r && Nat.beq j c then u else o.get i j }
theorem store_run {t : TypeId} {agg : Bool} {s : Nat} [TySz P t agg s] {w : World} {b o : Nat} {v : Value} {cs : List Value} {cur : Array Value} {e : TypeId} (hv : v.cells.toList = cs) (hl : cs.length = s)
  (hb : w.heap[b]? = some (.cells cur e (0, 0))) (hfit : o + s <= cur.size) (h1 : ∀ u ∈ cs, u.oneCell' = true) :
  (Instr.storeAt t (.pointer (some ⟨b, o, none⟩)) v).run P w = .ok () (w.setCells b o cs) := by
 have hst := run_storeCells_cells (P := P) b o cs 0 w (fun j hj => by simp [World.cell?, hb]; omega) (fun j hj => by simp [World.frozen?, hb]) h1
 have hsz : v.cells.size = s := by rw [<- hl, <- hv]; simp
 have hcs : v.cells.toList = cs := hv
 simp only [Nat.add_zero] at hst
 simp [Instr.storeAt, Instr.sureAddr, storeVar, sizeOf_run (P := P) (t := t), hsz, hcs, hst]
theorem RelH.store {E : Env} {ι : Id -> Option Nat} {F : Nat -> Prop} {H : Heap} {w : World} (r : RelH E ι F H w) {id : Id} {b rr c s : Nat} {o : AObj} (ho : H.slot id = .live o) (hb : ι id = some b)
  (hr : rr < o.n) (hc : c + s <= o.sz) (o' : AObj) (he : o'.elem = o.elem) (hz : o'.sz = o.sz) (hv : o'.ver = o.ver) (hn : o'.n = o.n) (cs : List Value) (hl : cs.length = s) (h1 : ∀ u ∈ cs, u.oneCell' = true)
  (hget : ∀ i, i < o.n -> ∀ j, j < o.sz -> (¬ (i = rr /\ c <= j /\ j < c + s) /\ o'.get i j = o.get i j) \/ (i = rr /\ c <= j /\ j < c + s /\ ∃ v, cs[j - c]? = some v /\ VRel H ι F w (o'.get i j) v)) :
  ∃ ι', RelH E ι' F (H.set id o') (w.setCells b (rr * o.sz + c) cs) /\ Ext H ι F w (H.set id o') ι' F (w.setCells b (rr * o.sz + c) cs) := by
 obtain ⟨cur, hh, hcs, hcell⟩ := obj_cells r ho hb
 obtain ⟨k1, k2, k3, k4⟩ := setCells_rest (b := b) cs (rr * o.sz + c) w
 have hrow : rr * o.sz + o.sz <= o.n * o.sz := by rw [<- Nat.succ_mul]; exact Nat.mul_le_mul_right _ hr
 have hfit : rr * o.sz + c + cs.length <= cur.size := by omega
 refine ⟨upd ι id b, r.step id b o' (setArr cur (rr * o.sz + c) cs) _ _ (fun i => by simp only [Heap.set]; exact beq_if _ _ _ _) (fun i hi => ⟨fun e => ?_, hi⟩) rfl k1 k2 k3 (by omega) (fun k hk _ => setCells_other hk _ _ _)
  (by rw [he]; exact setCells_heap cs _ w cur hh) (.inr ⟨hb, by rw [ho]; trivial⟩) (by rw [hn]; exact (r.obj id o ho).1) (by rw [hn, hz, setArr_size]; exact hcs) (fun i hi j hj => ?_) ?_⟩
 ·subst e
  have := r.next i hi
  rw [ho] at this; cases this
 ·rw [hn] at hi
  rw [hz] at hj ⊢
  have hlin : ∀ (x y : Nat), x < o.n -> y < o.sz -> (rr * o.sz + c <= x * o.sz + y /\ x * o.sz + y < rr * o.sz + c + cs.length ↔ x = rr /\ c <= y /\ y < c + s) := by
   intro x y hx hy
   constructor
   ·rintro ⟨p1, p2⟩
    have : x = rr := by
     rcases Nat.lt_trichotomy x rr with h | h | h
     ·exfalso
      have : (x + 1) * o.sz <= rr * o.sz := Nat.mul_le_mul_right _ h
      rw [Nat.succ_mul] at this; omega
     ·exact h
     ·exfalso
      have : (rr + 1) * o.sz <= x * o.sz := Nat.mul_le_mul_right _ h
      rw [Nat.succ_mul] at this; omega
    subst this
    omega
   ·rintro ⟨rfl, p2, p3⟩; omega
  rw [setArr_get _ _ _ hfit]
  rcases hget i hi j hj with ⟨p1, p2⟩ | ⟨p1, p2, p3, v, p4, p5⟩
  ·rw [if_neg (fun h => p1 ((hlin i j hi hj).1 h)), p2]
   obtain ⟨u, q1, q2, q3, q4⟩ := hcell i hi j hj
   exact ⟨u, q2, q3, q4⟩
  ·rw [if_pos ((hlin i j hi hj).2 ⟨p1, p2, p3⟩)]
   subst p1
   exact ⟨v, by rw [show i * o.sz + j - (i * o.sz + c) = j - c by omega]; exact p4, h1 v (List.mem_of_getElem? p4), p5⟩
 ·rw [ho]
  exact ⟨by omega, fun _ => ⟨hz, he, by omega, hb, fun cur0 hc0 => by
   rw [hh] at hc0
   injection hc0 with hc0
   injection hc0 with hc0
   subst hc0
   exact setArr_size _ _ _⟩⟩
theorem SL.skip {g : GOp} (hg : g.g = none) (h : ∀ E ι F a w, Rel E ι F st a w -> ∃ w' ι' F' H', (execOp a.eval g.oper).run P w = .ok .skip w' /\
   RelH E ι' F' H' w' /\ Ext st.heap ι F w H' ι' F' w' /\ SL P L Q ((st.on H').put g.dst .un)) : SL P (g :: L) Q st :=
 ⟨fun E ι F a w r => by
  obtain ⟨w', ι', F', H', h1, h2, h3, h5⟩ := h E ι F a w r
  have hw : g.wanted a.tmps = true := by unfold GOp.wanted; rw [hg]
  simp only [lwp, hw, if_true, Oper.wp, h1, Oper.upon]
  exact h5.out E ι' F' _ _ (r.put h2 h3 g.dst (u := .un) (v := undef) trivial)⟩
theorem SL.store1 {t : TypeId} [TySz P t false 1] {x y : Operand} {id : Id} {ver rr c : Nat} {o : AObj} {u : V} (hx : st.eval x = .ptr id ver rr c) (ho : st.heap.slot id = .live o) (hv : ver = o.ver)
  (hr : rr < o.n) (hc : c < o.sz) (hy : st.eval y = u) (hp : u.one = true)
  (hk : SL P L Q ((st.on (st.heap.set id (o.put1 rr c u))).put d .un)) : SL P (⟨d, .store t x y, ty, none⟩ :: L) Q st :=
 SL.skip rfl fun E ι F a w r => by
  obtain ⟨b, hb, he⟩ := live_ptr r hx ho hv
  have hy' := r.eval y
  rw [hy] at hy'
  have h1 := V.one_plain hp hy'
  have hcl : (a.eval y).cells.toList = [a.eval y] := by
   cases hv : a.eval y <;> rw [hv] at h1 <;> first | rfl | (simp [Value.oneCell'] at h1)
  obtain ⟨cur, hh, hcs, hcell⟩ := obj_cells r.h ho hb
  have hrow : rr * o.sz + o.sz <= o.n * o.sz := by rw [<- Nat.succ_mul]; exact Nat.mul_le_mul_right _ hr
  have hrun := store_run (P := P) (t := t) (w := w) (b := b) (o := rr * o.sz + c) (cs := [a.eval y]) hcl rfl hh (by omega) (by simpa using h1)
  obtain ⟨ι', g1, g2⟩ := r.h.store ho hb hr (c := c) (s := 1) (by omega) (o.put1 rr c u) rfl rfl rfl rfl [a.eval y] rfl (by simpa using h1) (fun i hi j hj => by
   by_cases h : i = rr /\ j = c
   ·obtain ⟨rfl, rfl⟩ := h
    exact .inr ⟨rfl, Nat.le_refl _, by omega, a.eval y, by simp, by simp only [AObj.put1, Nat.beq_refl, Bool.and_self, cond_true]; exact hy'⟩
   ·refine .inl ⟨by omega, ?_⟩
    have : (Nat.beq i rr && Nat.beq j c) = false := by
     rw [Bool.and_eq_false_iff]
     by_cases hi : i = rr
     ·right
      cases hb : Nat.beq j c with
      | false => rfl
      | true => exact absurd ⟨hi, Nat.eq_of_beq_eq_true hb⟩ h
     ·left
      cases hb : Nat.beq i rr with
      | false => rfl
      | true => exact absurd (Nat.eq_of_beq_eq_true hb) hi
    simp only [AObj.put1, this, cond_false])
  exact ⟨_, ι', F, _, by simp only [execOp, GOp.oper, he, Sem.run_bind, hrun, Result.andThen_ok]; rfl, g1, g2, hk⟩
theorem SL.storeA {t : TypeId} {s : Nat} [TySz P t true s] {x y : Operand} {id : Id} {ver rr c : Nat} {o : AObj} {get : Nat -> V} (hx : st.eval x = .ptr id ver rr c) (ho : st.heap.slot id = .live o) (hv : ver = o.ver)
  (hr : rr < o.n) (hc : c + s <= o.sz) (hy : st.eval y = .agg s get)
  (hk : SL P L Q ((st.on (st.heap.set id (o.put rr c s get))).put d .un)) : SL P (⟨d, .store t x y, ty, none⟩ :: L) Q st :=
 SL.skip rfl fun E ι F a w r => by
  obtain ⟨b, hb, he⟩ := live_ptr r hx ho hv
  have hy' := r.eval y
  rw [hy] at hy'
  obtain ⟨cs, e1, e2, e3⟩ := hy'
  have h1 : ∀ u ∈ cs.toList, u.oneCell' = true := fun u hu => by
   obtain ⟨j, hj, hju⟩ := List.getElem_of_mem hu
   have hj' : j < s := by simpa [e2] using hj
   obtain ⟨c, q1, q2, q3⟩ := e3 j hj'
   have : c = u := by
    have q1' : cs.toList[j]? = some c := by simpa using q1
    rw [List.getElem?_eq_getElem hj, hju] at q1'
    exact (Option.some.inj q1').symm
   rw [<- this]; exact q2
  obtain ⟨cur, hh, hcs, hcell⟩ := obj_cells r.h ho hb
  have hrow : rr * o.sz + o.sz <= o.n * o.sz := by rw [<- Nat.succ_mul]; exact Nat.mul_le_mul_right _ hr
  have hrun := store_run (P := P) (t := t) (w := w) (b := b) (o := rr * o.sz + c) (v := a.eval y) (cs := cs.toList) (by rw [e1]; rfl) (by simpa using e2) hh (by omega) h1
  obtain ⟨ι', g1, g2⟩ := r.h.store ho hb hr (c := c) (s := s) hc (o.put rr c s get) rfl rfl rfl rfl cs.toList (by simpa using e2) h1 (fun i hi j hj => by
   by_cases h : i = rr /\ c <= j /\ j < c + s
   ·obtain ⟨rfl, p2, p3⟩ := h
    obtain ⟨v, q1, q2, q3⟩ := e3 (j - c) (by omega)
    refine .inr ⟨rfl, p2, p3, v, by simpa using q1, ?_⟩
    have : (Nat.beq i i && (Nat.ble c j && Nat.blt j (c + s))) = true := by
     simp [Nat.ble_eq, p2, Nat.blt_eq, p3]
    simp only [AObj.put, this, cond_true]; exact q3
   ·refine .inl ⟨h, ?_⟩
    have : (Nat.beq i rr && (Nat.ble c j && Nat.blt j (c + s))) = false := by
     cases hb : (Nat.beq i rr && (Nat.ble c j && Nat.blt j (c + s))) with
     | false => rfl
     | true =>
      simp only [Bool.and_eq_true] at hb
      exact absurd ⟨Nat.eq_of_beq_eq_true hb.1, Nat.le_of_ble_eq_true hb.2.1, Nat.le_of_ble_eq_true hb.2.2⟩ h
    simp only [AObj.put, this, cond_false])
  exact ⟨_, ι', F, _, by simp only [execOp, GOp.oper, he, Sem.run_bind, hrun, Result.andThen_ok]; rfl, g1, g2, hk⟩
end Go.Abs
namespace Go.Abs
open Go
variable {P : Program} {Q : Exit -> St -> Prop} {st : St} {L : List GOp} {d : Option Tmp} {ty : TypeId}
def Heap.none : Heap := ⟨0, fun _ => .unborn, 0⟩
def noι : Id -> Option Nat := fun _ => Option.none
def Blocks (H : Heap) (ι : Id -> Option Nat) (b : Nat) : Prop := ∃ id, (H.slot id).is /\ ι id = some b
def With (F : Nat -> Prop) (H : Heap) (ι : Id -> Option Nat) (b : Nat) : Prop := F b \/ Blocks H ι b
theorem VRel.of_none {H : Heap} {ι : Id -> Option Nat} {F : Nat -> Prop} {w : World} {u : V} {v : Value} (h : VRel Heap.none noι F w u v) : VRel H ι F w u v :=
 Ext.of (H := Heap.none) (ι := noι) (fun _ h => h) (fun _ _ => rfl) (fun id => by unfold SlotOk Heap.none; trivial) u v h
theorem RelH.grow {E : Env} {ι : Id -> Option Nat} {F F' : Nat -> Prop} {H : Heap} {w w' : World} (r : RelH E ι F H w) (hos : w'.os = w.os) (htape : w'.tape = w.tape) (hout : w'.output = w.output)
  (hsz : w.heap.size <= w'.heap.size) (hk : ∀ b, b < w.heap.size -> w'.heap[b]? = w.heap[b]?) (hF : ∀ b, F b -> F' b) (hF' : ∀ b, F' b -> F b \/ w.heap.size <= b) (hlt : ∀ b, F' b -> b < w'.heap.size) :
  RelH E ι F' H w' /\ Ext H ι F w H ι F' w' := by
 have hlive : ∀ i k, (H.slot i).is -> ι i = some k -> w'.heap[k]? = w.heap[k]? := fun i k hi hk' => hk k (r.lt i k hi hk')
 have hx : Ext H ι F w H ι F' w' := Ext.of hF (fun b hb => hk b (r.frlt b hb)) fun i => by
  unfold SlotOk
  cases hs : H.slot i with
  | unborn => trivial
  | dead => rfl
  | mp s g => exact .inr ⟨⟨s, g, rfl⟩, rfl⟩
  | live o => exact .inr ⟨o, rfl, Nat.le_refl _, fun _ => ⟨rfl, rfl, Nat.le_refl _, rfl, fun b cur hb hc => ⟨cur, by rw [hlive i b (by rw [hs]; trivial) hb]; exact hc, rfl⟩⟩⟩
 refine ⟨⟨hos.trans r.os, htape.trans r.tape, hout.trans r.output, Nat.le_trans r.size hsz, fun k hk' hW => by rw [hk k (Nat.lt_of_lt_of_le hk' r.size)]; exact r.kept k hk' hW, fun i o hi => ?_, fun i s g hi => ?_, r.inj, fun i k hi hk' hf => ?_, r.own,
  fun i k hi hk' => Nat.lt_of_lt_of_le (r.lt i k hi hk') hsz, hlt, fun k hf => ?_, r.next, r.ext.trans hx, r.lo⟩, hx⟩
 ·obtain ⟨h1, h2⟩ := r.obj i o hi
  refine ⟨h1, ?_⟩
  cases hk' : ι i with
  | none => rw [hk'] at h2; exact h2
  | some k =>
   rw [hk'] at h2
   obtain ⟨cur, g1, g2, g3⟩ := h2
   exact ⟨cur, by rw [hlive i k (by rw [hi]; trivial) hk']; exact g1, g2, fun i hi j hj => by obtain ⟨c, a, b, d⟩ := g3 i hi j hj; exact ⟨c, a, b, hx _ _ d⟩⟩
 ·obtain ⟨k, es, clock, g1, g2, g3, g4⟩ := r.mapo i s g hi
  refine ⟨k, es, clock, g1, by rw [hlive i k (by rw [hi]; trivial) g1]; exact g2, g3, fun key hkey => ?_⟩
  have := g4 key hkey
  cases hg : g key with
  | none => rw [hg] at this; exact this
  | some u => rw [hg] at this; obtain ⟨n, e, a, b, c⟩ := this; exact ⟨n, e, a, b, hx _ _ c⟩
 ·rcases hF' k hf with h | h
  ·exact r.nofr i k hi hk' h
  ·have := r.lt i k hi hk'; omega
 ·rcases hF' k hf with h | h
  ·exact r.frin k h
  ·right; right; exact Nat.le_trans r.size h
structure CA (P : Program) (f : FuncId) (args : List V) (H : Heap) (K : V -> Heap -> Prop) : Prop where
 mk :: (out : ∀ E ι F w (cargs : Array Value), RelH E ι F H w -> args.length = cargs.size -> (∀ j, j < args.length -> VRel H ι F w (args.getD j .un) (cargs.getD j undef)) ->
  Calls P f cargs w fun e w' => ∃ v ι' F' H' cv, e = .returned cv /\ RelH E ι' F' H' w' /\ Ext H ι F w H' ι' F' w' /\ VRel H' ι' F' w' v cv /\ K v H')
structure PC (P : Program) (f : FuncId) (args : List V) (v : V) : Prop where
 mk :: (out : ∀ (F : Nat -> Prop) w (cargs : Array Value), (∀ b, F b -> b < w.heap.size) -> args.length = cargs.size -> (∀ j, j < args.length -> VRel Heap.none noι F w (args.getD j .un) (cargs.getD j undef)) ->
  Calls P f cargs w fun e w' => ∃ cv F', e = .returned cv /\ w'.os = w.os /\ w'.tape = w.tape /\ w'.output = w.output /\ w.heap.size <= w'.heap.size /\ (∀ b, b < w.heap.size -> w'.heap[b]? = w.heap[b]?) /\
   (∀ b, F b -> F' b) /\ (∀ b, F' b -> F b \/ w.heap.size <= b) /\ (∀ b, F' b -> b < w'.heap.size) /\ VRel Heap.none noι F' w' v cv)
class FnOk (P : Program) (f : FuncId) : Prop where
 ok : ∃ fn, P.funcs[f]? = some fn /\ (fn.name == "runtime.NumGoroutine") = false /\ fn.body.isNone = false
theorem callFunc_run {f : FuncId} [h : FnOk P f] (args : Array Value) (w : World) : (callFunc f args).run P w = .ok (.enter f args) w := by
 obtain ⟨fn, h1, h2, h3⟩ := h.ok
 have h2' : ¬ fn.name = "runtime.NumGoroutine" := by simpa using h2
 have h3' : ¬ fn.body = none := fun e => by rw [e] at h3; cases h3
 simp [callFunc, h1, h2', h3']
theorem SL.enter {g : GOp} (hg : g.g = none) {f : FuncId} {args : List V}
  (h : ∀ E ι F a w, Rel E ι F st a w -> ∃ cargs, (execOp a.eval g.oper).run P w = .ok (.enter f cargs) w /\ args.length = cargs.size /\ ∀ j, j < args.length -> VRel st.heap ι F w (args.getD j .un) (cargs.getD j undef))
  (hk : CA P f args st.heap (fun v H' => SL P L Q ((st.on H').put g.dst v))) : SL P (g :: L) Q st :=
 ⟨fun E ι F a w r => by
  obtain ⟨cargs, h1, h2, h3⟩ := h E ι F a w r
  have hw : g.wanted a.tmps = true := by unfold GOp.wanted; rw [hg]
  simp only [lwp, hw, if_true, Oper.wp, h1, Oper.upon]
  refine (hk.out E ι F w cargs r.h h2 h3).mono fun e w' ⟨v, ι', F', H', cv, k1, k2, k3, k4, k5⟩ => ?_
  subst k1
  exact k5.out E ι' F' _ _ (r.put k2 k3 g.dst k4)⟩
theorem SL.call {f : FuncId} [FnOk P f] {args : Array Operand} {ats : Array TypeId} (hk : CA P f (args.toList.map st.eval) st.heap (fun v H' => SL P L Q ((st.on H').put d v))) :
  SL P (⟨d, .call { callee := .value (.func f), args := args, argTypes := ats }, ty, none⟩ :: L) Q st :=
 SL.enter rfl (fun E ι F a w r => ⟨args.map a.eval, by simp [execOp, GOp.oper, resolve, Deferred.ofValue, invoke, Act.eval, callFunc_run], by simp, fun j hj => by
  have hj' : j < args.size := by simpa using hj
  have e1 : (args.toList.map st.eval).getD j .un = st.eval args[j] := by simp [hj']
  have e2 : (args.map a.eval).getD j undef = a.eval args[j] := by simp [Array.getD, hj']
  rw [e1, e2]
  exact r.eval _⟩) hk
def Frz (u u' : V) : Prop := ∀ H ι F w c, VRel H ι F w u c -> VRel Heap.none noι F w u' c
def FrzB (H : Heap) (u u' : V) : Prop := ∀ E ι F w c, RelH E ι F H w -> VRel H ι F w u c -> VRel Heap.none noι (With F H ι) w u' c
theorem Frz.t (x : T) : Frz (.t x) (.t x) := fun H ι F w c h => h
theorem Frz.fp (m : Nat) (get : Nat -> T) : Frz (.fp m get) (.fp m get) := fun H ι F w c h => h
theorem VRel.monoF {u : V} {F F' : Nat -> Prop} {w : World} {c : Value} (hF : ∀ b, F b -> F' b) (h : VRel Heap.none noι F w u c) : VRel Heap.none noι F' w u c :=
 Ext.of (H := Heap.none) (ι := noι) hF (fun _ _ => rfl) (fun id => by unfold SlotOk Heap.none; trivial) u c h
theorem FrzB.of {H : Heap} {u u' : V} (h : Frz u u') : FrzB H u u' := fun E ι F w c r hc => VRel.monoF (fun b hb => .inl hb) (h H ι F w c hc)
theorem FrzB.agg {H : Heap} {n : Nat} {g g' : Nat -> V} (h : ∀ j, j < n -> FrzB H (g j) (g' j)) : FrzB H (.agg n g) (.agg n g') := fun E ι F w c r ⟨cs, h1, h2, h3⟩ =>
 ⟨cs, h1, h2, fun j hj => by obtain ⟨c, a, b, d⟩ := h3 j hj; exact ⟨c, a, b, h j hj E ι F w c r d⟩⟩
def Scal (v : V) : Prop := ∀ F w c, VRel Heap.none noι F w v c -> ∀ H ι F' w', VRel H ι F' w' v c
theorem Scal.bool (b : Bool) : Scal (.t (.bool b)) := fun F w c h H ι F' w' => h
theorem Scal.int (k : IntKind) (n : Int) : Scal (.t (.int k n)) := fun F w c h H ι F' w' => h
theorem Scal.str (s : ByteArray) : Scal (.t (.str s)) := fun F w c h H ι F' w' => h
theorem Scal.nilI : Scal (.t .nilI) := fun F w c h H ι F' w' => h
theorem Scal.tup {n : Nat} {g : Nat -> V} (h : ∀ j, j < n -> Scal (g j)) : Scal (.tup n g) := fun F w c ⟨cs, h1, h2, h3⟩ H ι F' w' =>
 ⟨cs, h1, h2, fun j hj => by obtain ⟨c, a, d⟩ := h3 j hj; exact ⟨c, a, h j hj F w c d H ι F' w'⟩⟩
inductive All2 (R : V -> V -> Prop) : List V -> List V -> Prop where
 | nil : All2 R [] []
 | cons {a b : V} {l m : List V} (h : R a b) (t : All2 R l m) : All2 R (a :: l) (b :: m)
theorem All2.at_ {R : V -> V -> Prop} {l m : List V} (h : All2 R l m) : l.length = m.length /\ ∀ j, j < l.length -> R (l.getD j .un) (m.getD j .un) := by
 induction h with
 | nil => exact ⟨rfl, fun j hj => absurd hj (Nat.not_lt_zero _)⟩
 | cons h t ih =>
  refine ⟨by simp [ih.1], fun j hj => ?_⟩
  cases j with
  | zero => simpa using h
  | succ j => simpa using ih.2 j (by simpa using hj)
theorem CA.pure {f : FuncId} {args fargs : List V} {v : V} {H : Heap} {K : V -> Heap -> Prop} (h : PC P f fargs v) (ha : All2 Frz args fargs) (hk : K v H) : CA P f args H K :=
 ⟨fun E ι F w cargs r hl hargs => by
  obtain ⟨hll, hat⟩ := ha.at_
  refine (h.out F w cargs r.frlt (by omega) (fun j hj => hat j (by omega) _ _ _ _ _ (hargs j (by omega)))).mono fun e w' ⟨cv, F', h1, h2, h3, h4, h5, h6, h7, h8, h9, h10⟩ => ?_
  obtain ⟨g1, g2⟩ := r.grow h2 h3 h4 h5 h6 h7 h8 h9
  exact ⟨v, ι, F', H, cv, h1, g1, g2, h10.of_none, hk⟩⟩
theorem CA.borrow {f : FuncId} {args fargs : List V} {v : V} {H : Heap} {K : V -> Heap -> Prop} (h : PC P f fargs v) (ha : All2 (FrzB H) args fargs) (hs : Scal v) (hk : K v H) : CA P f args H K :=
 ⟨fun E ι F w cargs r hl hargs => by
  obtain ⟨hll, hat⟩ := ha.at_
  refine (h.out (With F H ι) w cargs (fun b hb => ?_) (by omega) (fun j hj => hat j (by omega) _ _ _ _ _ r (hargs j (by omega)))).mono fun e w' ⟨cv, F', h1, h2, h3, h4, h5, h6, h7, h8, h9, h10⟩ => ?_
  ·rcases hb with hb | ⟨id, h1, h2⟩
   ·exact r.frlt b hb
   ·exact r.lt id b h1 h2
  ·obtain ⟨g1, g2⟩ := r.grow (F' := F) h2 h3 h4 h5 h6 (fun _ h => h) (fun _ h => .inl h) (fun b hb => Nat.lt_of_lt_of_le (r.frlt b hb) h5)
   exact ⟨v, ι, F, H, cv, h1, g1, g2, hs _ _ _ h10 _ _ _ _, hk⟩⟩
def rvSem (tmps : Array Value) : ResultVar -> Sem Value
 | .tmp t => Pure.pure (tmps.getD t undef)
 | .cell ad t => do loadVar t (<- asAddr (tmps.getD ad undef))
theorem results_eq (fn : Func) (tmps : Array Value) : results fn tmps = (do let vs <- fn.results.mapM (rvSem tmps); Pure.pure (if h : vs.size = 1 then vs[0] else .tuple vs)) := by
 unfold results
 congr 1
def RV (P : Program) (st : St) (rv : ResultVar) (u : V) : Prop := ∀ E ι F a w, Rel E ι F st a w -> ∃ c, (rvSem a.tmps rv).run P w = .ok c w /\ VRel st.heap ι F w u c
theorem RV.tmp (t : Tmp) : RV P st (.tmp t) (st.env t) := fun E ι F a w r => ⟨_, rfl, r.env t⟩
structure Res (P : Program) (fn : Func) (K : V -> Heap -> Prop) (st : St) : Prop where
 mk :: (out : ∃ u, (∀ E ι F a w, Rel E ι F st a w -> ∃ c, (results fn a.tmps).run P w = .ok c w /\ VRel st.heap ι F w u c) /\ K u st.heap)
def tup2 (u v : V) : V := .tup 2 (fun j => bif Nat.beq j 0 then u else v)
theorem Res.two {fn : Func} {K : V -> Heap -> Prop} {r1 r2 : ResultVar} {u1 u2 : V} (hr : fn.results = #[r1, r2]) (h1 : RV P st r1 u1) (h2 : RV P st r2 u2) (hk : K (tup2 u1 u2) st.heap) : Res P fn K st :=
 ⟨tup2 u1 u2, fun E ι F a w r => by
  obtain ⟨c1, p1, q1⟩ := h1 E ι F a w r
  obtain ⟨c2, p2, q2⟩ := h2 E ι F a w r
  refine ⟨.tuple #[c1, c2], ?_, #[c1, c2], rfl, rfl, fun j hj => ?_⟩
  ·simp [results_eq, hr, p1, p2]
  ·match j, hj with
   | 0, _ => exact ⟨c1, rfl, q1⟩
   | 1, _ => exact ⟨c2, rfl, q2⟩, hk⟩
def St.enter (nt : Nat) (args : List V) (H : Heap) : St := ⟨nt, fun t => args.getD t .un, H⟩
theorem Rel.enter {E : Env} {ι : Id -> Option Nat} {F : Nat -> Prop} {H : Heap} {w : World} (r : RelH E ι F H w) {nt : Nat} {args : List V} {cargs : Array Value} (hl : args.length = cargs.size) (hnt : args.length <= nt)
  (ha : ∀ j, j < args.length -> VRel H ι F w (args.getD j .un) (cargs.getD j undef)) : Rel E ι F (St.enter nt args H) { tmps := cargs ++ Array.replicate (nt - cargs.size) undef, defers := [] } w := by
 refine ⟨r, fun t => ?_, ?_, rfl⟩
 ·show VRel H ι F w (args.getD t .un) ((cargs ++ Array.replicate (nt - cargs.size) undef).getD t undef)
  by_cases ht : t < args.length
  ·have e : (cargs ++ Array.replicate (nt - cargs.size) undef).getD t undef = cargs.getD t undef := by
    rw [Array.getD_eq_getD_getElem?, Array.getElem?_append_left (by omega), Array.getD_eq_getD_getElem?]
   rw [e]; exact ha t ht
  ·rw [List.getD_eq_getElem?_getD, List.getElem?_eq_none (by omega)]
   exact trivial
 ·show (cargs ++ Array.replicate (nt - cargs.size) undef).size = nt
  simp; omega
theorem RelH.start {F : Nat -> Prop} {w : World} (hF : ∀ b, F b -> b < w.heap.size) : RelH ⟨w, fun _ => False, Heap.none, noι, F⟩ noι F Heap.none w where
 os := rfl
 tape := rfl
 output := rfl
 size := Nat.le_refl _
 kept := fun _ _ _ => rfl
 obj := fun id o h => by cases h
 mapo := fun id s g h => by cases h
 inj := fun id id' b h _ _ _ => False.elim h
 nofr := fun id b h _ => False.elim h
 own := fun id b h _ => False.elim h
 lt := fun id b h _ => False.elim h
 frlt := hF
 frin := fun b h => .inl h
 next := fun id h => rfl
 ext := Ext.refl _ _ _ _
 lo := fun id h => rfl
end Go.Abs
namespace Go.Abs
open Go
variable {P : Program} {Q : Exit -> St -> Prop} {st : St} {L : List GOp} {d : Option Tmp} {ty : TypeId}
structure Grow (w : World) (F : Nat -> Prop) (w' : World) (F' : Nat -> Prop) : Prop where
 os : w'.os = w.os
 tape : w'.tape = w.tape
 output : w'.output = w.output
 size : w.heap.size <= w'.heap.size
 kept : ∀ b, b < w.heap.size -> w'.heap[b]? = w.heap[b]?
 up : ∀ b, F b -> F' b
 inn : ∀ b, F' b -> F b \/ w.heap.size <= b
 lt : ∀ b, F' b -> b < w'.heap.size
structure Grown (w w' : World) : Prop where
 size : w.heap.size <= w'.heap.size
 kept : ∀ b, b < w.heap.size -> w'.heap[b]? = w.heap[b]?
theorem Grown.refl (w : World) : Grown w w := ⟨Nat.le_refl _, fun _ _ => rfl⟩
theorem Grown.trans {a b c : World} (h : Grown a b) (k : Grown b c) : Grown a c :=
 ⟨Nat.le_trans h.size k.size, fun x hx => (k.kept x (Nat.lt_of_lt_of_le hx h.size)).trans (h.kept x hx)⟩
theorem Grow.grown {w w' : World} {F F' : Nat -> Prop} (g : Grow w F w' F') : Grown w w' := ⟨g.size, g.kept⟩
theorem RelH.grown {E : Env} {ι : Id -> Option Nat} {F F' : Nat -> Prop} {H : Heap} {w w' : World} (r : RelH E ι F H w) (g : Grow w F w' F') : RelH E ι F' H w' /\ Ext H ι F w H ι F' w' :=
 r.grow g.os g.tape g.output g.size g.kept g.up g.inn g.lt
def QO (P : Program) (g : GOp) (u : V) (st : St) : Prop := ∀ E ι F a w, Rel E ι F st a w ->
 g.oper.wp P a w (fun a' w' => ∃ c F', a' = a.put g.dst c /\ Grow w F w' F' /\ VRel st.heap ι F' w' u c) (fun _ _ _ => False)
theorem QO.of {g : GOp} {u : V} (h : QV P g u st) : QO P g u st := fun E ι F a w r => by
 obtain ⟨v, h1, h2⟩ := h E ι F a w r
 simp only [Oper.wp, h1, Oper.upon]
 exact ⟨v, F, rfl, ⟨rfl, rfl, rfl, Nat.le_refl _, fun _ _ => rfl, fun _ h => h, fun _ h => .inl h, r.h.frlt⟩, h2⟩
theorem wp_anyQ {o : Oper} {a : Act} {w : World} {K : Act -> World -> Prop} {Q : Exit -> Act -> World -> Prop} (h : o.wp P a w K (fun _ _ _ => False)) : o.wp P a w K Q := by
 unfold Oper.wp at h ⊢
 generalize (execOp a.eval o).run P w = res at h ⊢
 cases res with
 | ok n w' =>
  cases n <;> simp only [Oper.upon] at h ⊢ <;> first | exact h | exact Calls.mono h (fun e w'' he => by cases e <;> first | exact he | exact he.elim | (obtain ⟨a, w, he⟩ := he; exact he.elim))
 | halt x w' => cases x <;> simp only [Oper.upon] at h ⊢
theorem call_exec {f : FuncId} [FnOk P f] {args : Array Operand} {ats : Array TypeId} (a : Act) (w : World) :
  (execOp a.eval (GOp.oper ⟨d, .call { callee := .value (.func f), args := args, argTypes := ats }, ty, none⟩)).run P w = .ok (.enter f (args.map a.eval)) w := by
 simp [execOp, GOp.oper, resolve, Deferred.ofValue, invoke, Act.eval, callFunc_run]
theorem args_rel {E : Env} {ι : Id -> Option Nat} {F : Nat -> Prop} {a : Act} {w : World} (r : Rel E ι F st a w) (args : Array Operand) (j : Nat) (hj : j < (args.toList.map st.eval).length) :
  VRel st.heap ι F w ((args.toList.map st.eval).getD j .un) ((args.map a.eval).getD j undef) := by
 have hj' : j < args.size := by simpa using hj
 have e1 : (args.toList.map st.eval).getD j .un = st.eval args[j] := by simp [hj']
 have e2 : (args.map a.eval).getD j undef = a.eval args[j] := by simp [Array.getD, hj']
 rw [e1, e2]
 exact r.eval _
theorem QO.call {f : FuncId} [FnOk P f] {args : Array Operand} {ats : Array TypeId} {fargs : List V} {v : V} (h : PC P f fargs v) (ha : All2 Frz (args.toList.map st.eval) fargs) :
  QO P ⟨d, .call { callee := .value (.func f), args := args, argTypes := ats }, ty, none⟩ v st := fun E ι F a w r => by
 simp only [Oper.wp, call_exec, Oper.upon]
 obtain ⟨hll, hat⟩ := ha.at_
 refine (h.out F w (args.map a.eval) r.h.frlt (by rw [<- hll]; simp) (fun j hj => hat j (by omega) _ _ _ _ _ (args_rel r args j (by omega)))).mono fun e w' ⟨cv, F', h1, h2, h3, h4, h5, h6, h7, h8, h9, h10⟩ => ?_
 subst h1
 exact ⟨cv, F', rfl, ⟨h2, h3, h4, h5, h6, h7, h8, h9⟩, h10.of_none⟩
theorem QO.callB {f : FuncId} [FnOk P f] {args : Array Operand} {ats : Array TypeId} {fargs : List V} {v : V} (h : PC P f fargs v) (ha : All2 (FrzB st.heap) (args.toList.map st.eval) fargs) (hs : Scal v) :
  QO P ⟨d, .call { callee := .value (.func f), args := args, argTypes := ats }, ty, none⟩ v st := fun E ι F a w r => by
 simp only [Oper.wp, call_exec, Oper.upon]
 obtain ⟨hll, hat⟩ := ha.at_
 refine (h.out (With F st.heap ι) w (args.map a.eval) (fun b hb => ?_) (by rw [<- hll]; simp) (fun j hj => hat j (by omega) _ _ _ _ _ r.h (args_rel r args j (by omega)))).mono fun e w' ⟨cv, F', h1, h2, h3, h4, h5, h6, h7, h8, h9, h10⟩ => ?_
 ·rcases hb with hb | ⟨id, h1, h2⟩
  ·exact r.h.frlt b hb
  ·exact r.h.lt id b h1 h2
 ·subst h1
  exact ⟨cv, F, rfl, ⟨h2, h3, h4, h5, h6, fun _ h => h, fun _ h => .inl h, fun b hb => Nat.lt_of_lt_of_le (r.h.frlt b hb) h5⟩, hs _ _ _ h10 _ _ _ _⟩
theorem SL.q {op : Op} {u : V} (h : QO P ⟨d, op, ty, none⟩ u st) (k : SL P L Q (st.put d u)) : SL P (⟨d, op, ty, none⟩ :: L) Q st :=
 ⟨fun E ι F a w r => by
  have hw : GOp.wanted ⟨d, op, ty, none⟩ a.tmps = true := rfl
  simp only [lwp, hw, if_true]
  have h1 := h E ι F a w r
  refine Oper.wp_mono (K := fun a' w' => ∃ c F', a' = a.put d c /\ Grow w F w' F' /\ VRel st.heap ι F' w' u c) (fun a' w' ⟨c, F', e, g, v⟩ => ?_) (wp_anyQ h1)
  subst e
  obtain ⟨r2, x2⟩ := r.h.grown g
  exact k.out E ι F' _ _ (r.put r2 x2 d v)⟩
theorem SL.o {op : Op} {u : V} (h : QV P ⟨d, op, ty, none⟩ u st) (k : SL P L Q (st.put d u)) : SL P (⟨d, op, ty, none⟩ :: L) Q st := SL.q (QO.of h) k
def memT : List Tmp -> Tmp -> Bool
 | [], _ => false
 | x :: l, t => Nat.beq t x || memT l t
def St.only (st : St) (xs : List Tmp) : St := { st with env := fun t => bif memT xs t then st.env t else .un }
def rdOperand : Operand -> List Tmp
 | .tmp t => [t]
 | _ => []
def rds (op : Op) : List Tmp := op.operands.toList.flatMap rdOperand
theorem memT_iff (l : List Tmp) (t : Tmp) : memT l t = true ↔ t ∈ l := by
 induction l with
 | nil => simp [memT]
 | cons x l ih =>
  simp only [memT, Bool.or_eq_true, ih, List.mem_cons]
  constructor
  ·rintro (h | h)
   ·exact .inl (Nat.eq_of_beq_eq_true h)
   ·exact .inr h
  ·rintro (h | h)
   ·subst h; simp
   ·exact .inr h
def QG (P : Program) (g : GOp) (u : V) (st : St) : Prop :=
 match g.g with
 | none => QO P ⟨g.dst, g.op, g.type, none⟩ u (st.only (rds g.op))
 | some (some t, want) => (Nat.blt t st.nt = true /\ ∃ b, st.env t = .t (.bool b) /\ (b = want -> QO P ⟨g.dst, g.op, g.type, none⟩ u (st.only (rds g.op))) /\ (b = !want -> u = .und)) \/ (st.env t = .und /\ u = .und)
 | some (none, _) => False
inductive QS (P : Program) (K : St -> Prop) : List GOp -> St -> Prop where
 | nil {st : St} (h : K st) : QS P K [] st
 | cons {g : GOp} {L : List GOp} {st : St} (u : V) (h : QG P g u st) (k : QS P K L (st.put g.dst u)) : QS P K (g :: L) st
variable {K : St -> Prop}
theorem QS.q {op : Op} {u : V} (h : QO P ⟨d, op, ty, none⟩ u (st.only (rds op))) (k : QS P K L (st.put d u)) : QS P K (⟨d, op, ty, none⟩ :: L) st := .cons u h k
theorem QS.o {op : Op} {u : V} (h : QV P ⟨d, op, ty, none⟩ u (st.only (rds op))) (k : QS P K L (st.put d u)) : QS P K (⟨d, op, ty, none⟩ :: L) st := .cons u (QO.of h) k
theorem QS.gq {op : Op} {u : V} {t : Tmp} {want : Bool} (hb : st.env t = .t (.bool want)) (hlt : Nat.blt t st.nt = true) (h : QO P ⟨d, op, ty, none⟩ u (st.only (rds op))) (k : QS P K L (st.put d u)) :
  QS P K (⟨d, op, ty, some (some t, want)⟩ :: L) st := .cons u (.inl ⟨hlt, want, hb, fun _ => h, fun e => by cases want <;> cases e⟩) k
theorem QS.gn {op : Op} {t : Tmp} {want : Bool} (hb : st.env t = .t (.bool (!want))) (hlt : Nat.blt t st.nt = true) (k : QS P K L (st.put d .und)) :
  QS P K (⟨d, op, ty, some (some t, want)⟩ :: L) st := .cons .und (by
  refine .inl ⟨hlt, !want, hb, fun e => ?_, fun _ => rfl⟩
  cases want <;> cases e) k
theorem QS.gu {op : Op} {t : Tmp} {want : Bool} (hb : st.env t = .und) (k : QS P K L (st.put d .und)) :
  QS P K (⟨d, op, ty, some (some t, want)⟩ :: L) st := .cons .und (.inr ⟨hb, rfl⟩) k
def wpAnyJ (P : Program) (A : Array Oper) (J : Nat -> Bool) (Q : Exit -> Act -> World -> Prop) : Nat -> Array Bool -> Act -> World -> Prop
 | 0, listed, a, w => Region.ready .any A listed = [] /\ Q .normal a w
 | fuel + 1, listed, a, w =>
  (Region.ready .any A listed = [] -> Q .normal a w) /\
  ∀ i ∈ Region.ready .any A listed, wpOp P A Q i (fun a' w' => (J i = true -> Grown w w') /\ wpAnyJ P A J Q fuel (listed.setIfInBounds i true) a' w') a w
theorem wpAnyJ.any {A : Array Oper} {J : Nat -> Bool} {Q : Exit -> Act -> World -> Prop} : ∀ (fuel : Nat) (listed : Array Bool) (a : Act) (w : World), wpAnyJ P A J Q fuel listed a w -> wpAny P .any A Q fuel listed a w
 | 0, _, _, _, h => h
 | fuel + 1, listed, a, w, ⟨h1, h2⟩ => ⟨h1, fun i hi => wpOp_mono (fun a' w' h => wpAnyJ.any fuel _ a' w' h.2) (h2 i hi)⟩
theorem wpAnyJ_done {A : Array Oper} {J : Nat -> Bool} {Q : Exit -> Act -> World -> Prop} {listed : Array Bool} {a : Act} {w : World} (hr : Region.ready .any A listed = []) (h : Q .normal a w) : ∀ fuel, wpAnyJ P A J Q fuel listed a w
 | 0 => ⟨hr, h⟩
 | _ + 1 => ⟨fun _ => h, fun i hi => by rw [hr] at hi; cases hi⟩
structure AnyL (P : Program) (A : Array Oper) (J : Nat -> Bool) (D : List Nat) (Q : Exit -> St -> Prop) (st : St) : Prop where
 mk :: (out : ∀ E ι F a w fuel (listed : Array Bool), Rel E ι F st a w -> listed.size = A.size -> (∀ k, k < A.size -> listed.getD k true = D.contains k) -> D.Nodup -> (∀ k ∈ D, k < A.size) ->
  A.size <= fuel + D.length -> wpAnyJ P A J (conc E Q) fuel listed a w)
theorem SC.draw {id : Nat} {A : Array Oper} (hm : P.follows .mixedOrders = true) {J : Nat -> Bool} (h : AnyL P A J [] Q st) : SC P (.region id A true) Q st :=
 ⟨fun E ι F a w r => wp_region_any hm (by
  obtain ⟨r1, x1⟩ := r.h.same (w' := { w with drawn := w.drawn + 1 }) rfl rfl rfl rfl
  exact wpAnyJ.any _ _ _ _ <| h.out E ι F a _ A.size _ ⟨r1, fun t => x1 _ _ (r.env t), r.nt, r.defers⟩ (by simp) (fun k hk => by simp [hk]) List.nodup_nil (fun k hk => by cases hk) (by simp))⟩
def allIn (n : Nat) (D : List Nat) : Bool := (List.range n).all fun k => D.contains k
theorem AnyL.done {A : Array Oper} {J : Nat -> Bool} {D : List Nat} (hc : allIn A.size D = true) (h : Q .normal st) : AnyL P A J D Q st :=
 ⟨fun E ι F a w fuel listed r hs hl _ _ _ => wpAnyJ_done (by
  cases hr : Region.ready .any A listed with
  | nil => rfl
  | cons x xs =>
   have hx : x ∈ Region.ready .any A listed := by rw [hr]; exact List.mem_cons_self
   obtain ⟨h0, o, ho, _⟩ := mem_ready.1 hx
   have hlt := (Array.getElem?_eq_some_iff.1 ho).1
   have := hl x hlt
   rw [h0] at this
   simp only [allIn, List.all_eq_true, List.mem_range] at hc
   rw [hc x hlt] at this; cases this) ⟨ι, F, st, r, h⟩ fuel⟩
def edges (A : Array Oper) (k : Nat) : List Nat := match A[k]? with
 | none => []
 | some o => (o.after.toList.filter (Region.binds .any)).map (·.on)
def anc (A : Array Oper) (k : Nat) : Nat := (Region.before A).getD k 0
def Closed (A : Array Oper) (T : Nat -> Prop) : Prop := ∀ i, T i -> ∀ e ∈ edges A i, T e
def befStep (acc : Array Nat) (o : Oper) : Array Nat :=
 acc.push (o.after.foldl (fun s e => if Region.binds .any e then s ||| 2 ^ e.on ||| acc.getD e.on 0 else s) 0)
theorem bef_inner (l : List Edge) (acc : Array Nat) (T : Nat -> Prop) (hacc : ∀ j x, (acc.getD j 0).testBit x = true -> T j -> T x) (hT : ∀ e ∈ l, Region.binds .any e = true -> T e.on) :
  ∀ s : Nat, (∀ x, s.testBit x = true -> T x) -> ∀ x, (l.foldl (fun s e => if Region.binds .any e then s ||| 2 ^ e.on ||| acc.getD e.on 0 else s) s).testBit x = true -> T x := by
 induction l with
 | nil => exact fun s hs x hx => hs x hx
 | cons e l ih =>
  intro s hs x hx
  simp only [List.foldl_cons] at hx
  refine ih (fun e he => hT e (List.mem_cons_of_mem _ he)) _ ?_ x hx
  intro y hy
  split at hy
  ·rename_i hb
   rw [Nat.testBit_or, Nat.testBit_or, Bool.or_eq_true, Bool.or_eq_true] at hy
   have he := hT e List.mem_cons_self hb
   rcases hy with (hy | hy) | hy
   ·exact hs y hy
   ·rw [Nat.testBit_two_pow] at hy
    have : e.on = y := by simpa using hy
    exact this ▸ he
   ·exact hacc _ _ hy he
  ·exact hs y hy
theorem bef_spec (A : Array Oper) (T : Nat -> Prop) (hT : Closed A T) : ∀ (l : List Oper) (acc : Array Nat), A.toList.drop acc.size = l -> (∀ j x, (acc.getD j 0).testBit x = true -> (∀ e ∈ edges A j, T e) -> T x) ->
  ∀ j x, (((l.foldl befStep acc)).getD j 0).testBit x = true -> (∀ e ∈ edges A j, T e) -> T x
 | [], acc, hd, hacc, j, x, h, he => hacc j x h he
 | o :: l, acc, hd, hacc, j, x, h, he => by
  have ho : A[acc.size]? = some o := by
   have := congrArg (·[0]?) hd
   simpa using this
  refine bef_spec A T hT l (befStep acc o) ?_ ?_ j x h he
  ·have := congrArg (·.drop 1) hd
   simpa [befStep, List.drop_drop, Nat.add_comm] using this
  ·intro j x hx he
   simp only [befStep, Array.getD_eq_getD_getElem?, Array.getElem?_push] at hx
   split at hx
   ·rename_i hj
    simp only [Option.getD_some] at hx
    rw [<- Array.foldl_toList] at hx
    refine bef_inner o.after.toList acc T (fun j' y hy hj' => hacc j' y hy (hT j' hj')) (fun e hel hb => ?_) 0 (fun x hx => by simp at hx) x (by simpa only [Array.getD_eq_getD_getElem?] using hx)
    refine he e.on ?_
    subst hj
    simp only [edges, ho]
    exact List.mem_map.2 ⟨e, List.mem_filter.2 ⟨hel, hb⟩, rfl⟩
   ·exact hacc j x (by rw [Array.getD_eq_getD_getElem?]; exact hx) he
theorem anc_spec {A : Array Oper} {T : Nat -> Prop} (hT : Closed A T) {j x : Nat} (h : (anc A j).testBit x = true) (he : ∀ e ∈ edges A j, T e) : T x := by
 have e : Region.before A = A.toList.foldl befStep #[] := by
  unfold Region.before
  rw [<- Array.foldl_toList]
  rfl
 unfold anc at h
 rw [e] at h
 refine bef_spec A T hT A.toList #[] rfl (fun j x h => ?_) j x h he
 simp at h
def nthN : List Nat -> Nat -> Nat
 | [], _ => 0
 | a :: _, 0 => a
 | _ :: l, n + 1 => nthN l n
def AbOk (A : Array Oper) (ab : List Nat) : Prop := ∀ T : Nat -> Prop, Closed A T -> ∀ j x, (nthN ab j).testBit x = true -> (∀ e ∈ edges A j, T e) -> T x
def befL (A : Array Oper) : List Nat := (Region.before A).toList
theorem nthN_eq : ∀ (l : List Nat) (j : Nat), nthN l j = l.getD j 0
 | [], j => by simp [nthN]
 | a :: l, 0 => by simp [nthN]
 | a :: l, j + 1 => by simp [nthN, nthN_eq l j]
theorem AbOk.bef (A : Array Oper) : AbOk A (befL A) := fun T hT j x h he => anc_spec hT (by
 have e : nthN (befL A) j = anc A j := by
  rw [nthN_eq]
  simp [befL, anc, Array.getD_eq_getD_getElem?, List.getD_eq_getElem?_getD]
 rw [<- e]; exact h) he
def foldE (ab : List Nat) (k : Nat) : List Edge -> Nat -> Bool
 | [], m => Nat.beq m 0
 | e :: l, m => bif Region.binds .any e then Nat.blt e.on k && foldE ab k l (Nat.land m (Nat.xor m (Nat.land m (Nat.lor (2 ^ e.on) (nthN ab e.on))))) else foldE ab k l m
def abChkL (ab : List Nat) : List Oper -> Nat -> Bool
 | [], k => Nat.beq k ab.length
 | o :: l, k => foldE ab k o.after.toList (nthN ab k) && abChkL ab l (k + 1)
def abChk (A : Array Oper) (ab : List Nat) : Bool := abChkL ab A.toList 0
theorem foldE_out {ab : List Nat} {k : Nat} : ∀ (l : List Edge) (m : Nat), foldE ab k l m = true -> ∀ x, m.testBit x = true -> ∃ e ∈ l, Region.binds .any e = true /\ e.on < k /\ (x = e.on \/ (nthN ab e.on).testBit x = true)
 | [], m, h, x, hx => by
  have : m = 0 := Nat.eq_of_beq_eq_true h
  subst this
  simp at hx
 | e :: l, m, h, x, hx => by
  unfold foldE at h
  cases hb : Region.binds .any e with
  | false =>
   rw [hb] at h
   obtain ⟨e', h1, h2⟩ := foldE_out l m h x hx
   exact ⟨e', List.mem_cons_of_mem _ h1, h2⟩
  | true =>
   rw [hb] at h
   simp only [cond_true, Bool.and_eq_true] at h
   obtain ⟨hlt, h⟩ := h
   have hlt : e.on < k := Nat.le_of_ble_eq_true hlt
   by_cases hy : x = e.on \/ (nthN ab e.on).testBit x = true
   ·exact ⟨e, List.mem_cons_self, hb, hlt, hy⟩
   ·have hne : ¬ e.on = x := fun h => hy (.inl h.symm)
    have h2 : (nthN ab e.on).testBit x = false := by
     cases hc : (nthN ab e.on).testBit x with
     | false => rfl
     | true => exact absurd (.inr hc) hy
    obtain ⟨e', h1, h3⟩ := foldE_out l _ h x (by
     show (m &&& (m ^^^ (m &&& (2 ^ e.on ||| nthN ab e.on)))).testBit x = true
     simp [Nat.testBit_and, Nat.testBit_xor, Nat.testBit_or, Nat.testBit_two_pow, hx, hne, h2])
    exact ⟨e', List.mem_cons_of_mem _ h1, h3⟩
theorem abChkL_out {ab : List Nat} : ∀ (l : List Oper) (k : Nat), abChkL ab l k = true -> (∀ i o, l[i]? = some o -> foldE ab (k + i) o.after.toList (nthN ab (k + i)) = true) /\ ab.length = k + l.length
 | [], k, h => ⟨fun i o h => (by simp at h), by rw [Nat.eq_of_beq_eq_true h]; simp⟩
 | o :: l, k, h => by
  simp only [abChkL, Bool.and_eq_true] at h
  obtain ⟨h1, h2⟩ := abChkL_out l (k + 1) h.2
  refine ⟨fun i o' hi => ?_, by rw [h2, List.length_cons]; omega⟩
  cases i with
  | zero => simp only [List.getElem?_cons_zero, Option.some.injEq] at hi; subst hi; exact h.1
  | succ i =>
   have := h1 i o' (by simpa using hi)
   have e : k + 1 + i = k + (i + 1) := by omega
   rw [e] at this
   exact this
theorem AbOk.of {A : Array Oper} {ab : List Nat} (h : abChk A ab = true) : AbOk A ab := by
 obtain ⟨h1, h2⟩ := abChkL_out _ _ h
 intro T hT j
 induction j using Nat.strongRecOn with
 | ind j ih =>
  intro x hx he
  rcases Nat.lt_or_ge j A.size with hj | hj
  ·obtain ⟨e, hm, hb, hlt, hor⟩ := foldE_out _ _ (by have := h1 j A[j] (by simp [hj]); rw [Nat.zero_add] at this; exact this) x hx
   have hin : e.on ∈ edges A j := by
    simp only [edges, Array.getElem?_eq_getElem hj]
    exact List.mem_map.2 ⟨e, List.mem_filter.2 ⟨hm, hb⟩, rfl⟩
   rcases hor with rfl | hor
   ·exact he _ hin
   ·exact ih e.on hlt x hor (hT _ (he _ hin))
  ·rw [nthN_eq, List.getD_eq_getElem?_getD, List.getElem?_eq_none (by rw [h2]; simpa using hj)] at hx
   simp at hx
def dstOf (A : Array Oper) (k : Nat) : Option Tmp := (A[k]?).bind (·.dst)
def looks (A : Array Oper) (k : Nat) : List Tmp := match A[k]? with
 | none => []
 | some o => rds o.op ++ match o.guard with
  | none => []
  | some (j, _) => match (A[j]?).bind (·.dst) with | some t => [t] | none => []
def clash (A : Array Oper) (j i : Nat) : Bool := match dstOf A j with
 | none => false
 | some t => memT (looks A i) t
def sameDst (A : Array Oper) (i j : Nat) : Bool := match dstOf A i, dstOf A j with
 | some s, some t => Nat.beq s t
 | _, _ => false
def chkSeq (A : Array Oper) (ab : List Nat) : List Nat -> List Nat -> Bool
 | _, [] => true
 | early, i :: late =>
  (early.all fun j => (!clash A j i || (nthN ab i).testBit j) && !sameDst A i j && !(Nat.beq i j)) &&
  (late.all fun j => (!clash A j i || (nthN ab j).testBit i)) && chkSeq A ab (early ++ [i]) late
def chkTop (A : Array Oper) (D : List Nat) : List Nat -> List Nat -> Bool
 | _, [] => true
 | early, i :: late => ((edges A i).all fun e => D.contains e || early.contains e) && chkTop A D (early ++ [i]) late
def chk (A : Array Oper) (ab : List Nat) (D X : List Nat) : Bool :=
 (X.all fun i => Nat.blt i A.size && !D.contains i) &&
 (D.all fun k => (edges A k).all fun e => D.contains e) &&
 ((List.range A.size).all fun k => D.contains k || X.contains k || X.all fun x => (nthN ab k).testBit x) &&
 chkSeq A ab [] X && chkTop A D [] X
def opAt (A : Array Oper) (i : Nat) : GOp := Oper.gop A.toList (A.getD i default)
def puts (A : Array Oper) (us : Nat -> V) : List Nat -> St -> St
 | [], st => st
 | i :: X, st => puts A us X (st.put (opAt A i).dst (us i))
theorem put_heap (st : St) (d : Option Tmp) (u : V) : (st.put d u).heap = st.heap := by cases d <;> rfl
theorem put_nt (st : St) (d : Option Tmp) (u : V) : (st.put d u).nt = st.nt := by cases d <;> rfl
theorem puts_heap (A : Array Oper) (us : Nat -> V) (X : List Nat) : ∀ st : St, (puts A us X st).heap = st.heap := by
 induction X with
 | nil => exact fun st => rfl
 | cons i X ih => intro st; rw [puts, ih, put_heap]
theorem puts_nt (A : Array Oper) (us : Nat -> V) (X : List Nat) : ∀ st : St, (puts A us X st).nt = st.nt := by
 induction X with
 | nil => exact fun st => rfl
 | cons i X ih => intro st; rw [puts, ih, put_nt]
theorem put_env_ne (st : St) (d : Option Tmp) (u : V) (t : Tmp) (h : d ≠ some t) : (st.put d u).env t = st.env t := by
 cases d with
 | none => rfl
 | some d =>
  have : Nat.beq t d = false := by
   cases hb : Nat.beq t d with
   | false => rfl
   | true => exact absurd (by rw [Nat.eq_of_beq_eq_true hb]) h
  simp [St.put, this]
theorem put_env_eq (st : St) (u : V) (t : Tmp) : (st.put (some t) u).env t = bif Nat.blt t st.nt then u else .un := by simp [St.put]
theorem puts_not (A : Array Oper) (us : Nat -> V) (t : Tmp) (X : List Nat) : ∀ st : St, (∀ i ∈ X, (opAt A i).dst ≠ some t) -> (puts A us X st).env t = st.env t := by
 induction X with
 | nil => exact fun st _ => rfl
 | cons i X ih =>
  intro st h
  rw [puts, ih _ (fun j hj => h j (List.mem_cons_of_mem _ hj)), put_env_ne _ _ _ _ (h i List.mem_cons_self)]
def OneDst (A : Array Oper) (X : List Nat) : Prop := ∀ i ∈ X, ∀ j ∈ X, ∀ t, (opAt A i).dst = some t -> (opAt A j).dst = some t -> i = j
theorem puts_mem (A : Array Oper) (us : Nat -> V) (t : Tmp) (i : Nat) (hi : (opAt A i).dst = some t) (X : List Nat) : ∀ st : St, OneDst A X -> X.Nodup -> i ∈ X -> (puts A us X st).env t = bif Nat.blt t st.nt then us i else .un := by
 induction X with
 | nil => intro st _ _ h; cases h
 | cons k X ih =>
  intro st h1 hnd hm
  rw [puts]
  by_cases hk : i = k
  ·subst hk
   have hni : i ∉ X := (List.nodup_cons.1 hnd).1
   rw [puts_not _ _ _ _ _ (fun j hj e => hni (by have := h1 i List.mem_cons_self j (List.mem_cons_of_mem _ hj) t hi e; rw [this]; exact hj)), hi, put_env_eq]
  ·have hm' : i ∈ X := by
    rcases List.mem_cons.1 hm with h | h
    ·exact absurd h hk
    ·exact h
   rw [ih _ (fun a ha b hb => h1 a (List.mem_cons_of_mem _ ha) b (List.mem_cons_of_mem _ hb)) (List.nodup_cons.1 hnd).2 hm', put_nt]
theorem QS.split {A : Array Oper} {K : St -> Prop} : ∀ (X : List Nat) (st : St), X.Nodup -> QS P K (X.map (opAt A)) st ->
  ∃ us : Nat -> V, (∀ p i s, X = p ++ i :: s -> QG P (opAt A i) (us i) (puts A us p st)) /\ K (puts A us X st)
 | [], st, _, h => by
  cases h with
  | nil h =>
   refine ⟨fun _ => .un, ?_, h⟩
   intro p i s e
   cases p <;> cases e
 | i :: X, st, hnd, h => by
  cases h with
  | cons u hu k =>
   obtain ⟨us, h1, h2⟩ := QS.split X _ (List.nodup_cons.1 hnd).2 k
   have hni : i ∉ X := (List.nodup_cons.1 hnd).1
   have hus : ∀ (Y : List Nat), (∀ j ∈ Y, j ∈ X) -> ∀ st', puts A (fun j => if j = i then u else us j) Y st' = puts A us Y st' := by
    intro Y
    induction Y with
    | nil => exact fun _ _ => rfl
    | cons j Y ih =>
     intro hY st'
     have hji : j ≠ i := fun e => hni (e ▸ hY j List.mem_cons_self)
     simp only [puts, if_neg hji]
     exact ih (fun x hx => hY x (List.mem_cons_of_mem _ hx)) _
   refine ⟨fun j => if j = i then u else us j, fun p j s e => ?_, ?_⟩
   ·cases p with
    | nil =>
     simp only [List.nil_append, List.cons.injEq] at e
     obtain ⟨rfl, rfl⟩ := e
     simp only [if_true, puts]; exact hu
    | cons q p =>
     simp only [List.cons_append, List.cons.injEq] at e
     obtain ⟨rfl, rfl⟩ := e
     have hj : j ∈ p ++ j :: s := by simp
     have hji : j ≠ i := fun e => hni (e ▸ hj)
     simp only [puts, if_true, if_neg hji]
     rw [hus p (fun x hx => by simp [hx])]
     exact h1 p j s rfl
   ·simp only [puts, if_true]
    rw [hus X (fun _ h => h)]
    exact h2
theorem Rel.congr {E : Env} {ι : Id -> Option Nat} {F : Nat -> Prop} {st st' : St} {a : Act} {w : World} (h : Rel E ι F st a w) (hh : st'.heap = st.heap) (hn : st'.nt = st.nt) (he : ∀ t, st'.env t = st.env t \/ st'.env t = .un) : Rel E ι F st' a w := by
 refine ⟨hh ▸ h.h, fun t => ?_, by rw [hn]; exact h.nt, h.defers⟩
 rcases he t with e | e
 ·rw [e, hh]; exact h.env t
 ·rw [e]; exact trivial
theorem nodup_len : ∀ (n : Nat) (T : List Nat), T.Nodup -> (∀ k ∈ T, k < n) -> T.length <= n
 | 0, T, _, h => by
  cases T with
  | nil => exact Nat.le_refl _
  | cons x T => exact absurd (h x List.mem_cons_self) (Nat.not_lt_zero _)
 | n + 1, T, hnd, h => by
  have h1 := nodup_len n (T.erase n) (hnd.erase n) (fun k hk => by
   have hk' := List.mem_of_mem_erase hk
   have := h k hk'
   have hne : k ≠ n := fun e => by
    subst e
    exact absurd hk (hnd.not_mem_erase)
   omega)
  by_cases hm : n ∈ T
  ·rw [List.length_erase_of_mem hm] at h1; omega
  ·rw [List.erase_of_not_mem hm] at h1; omega
def Hears (A : Array Oper) (listed : Array Bool) (T : List Nat) : Prop := listed.size = A.size /\ ∀ k, k < A.size -> listed.getD k true = T.contains k
theorem Hears.getF {A : Array Oper} {listed : Array Bool} {T : List Nat} (h : Hears A listed T) {k : Nat} (hk : listed.getD k false = true) : k < A.size /\ k ∈ T := by
 have hlt : k < listed.size := by
  rcases Nat.lt_or_ge k listed.size with h | h
  ·exact h
  ·rw [Array.getD_eq_getD_getElem?, Array.getElem?_eq_none h] at hk; cases hk
 have hlt' : k < A.size := h.1 ▸ hlt
 refine ⟨hlt', ?_⟩
 have := h.2 k hlt'
 rw [Array.getD_eq_getD_getElem?, Array.getElem?_eq_getElem hlt] at this hk
 simp only [Option.getD_some] at this hk
 rw [hk] at this
 simpa using this.symm
theorem Hears.ready {A : Array Oper} {listed : Array Bool} {T : List Nat} (h : Hears A listed T) {k : Nat} (hk : k ∈ Region.ready .any A listed) : k < A.size /\ k ∉ T /\ ∀ e ∈ edges A k, e ∈ T := by
 obtain ⟨h0, o, ho, he⟩ := mem_ready.1 hk
 have hlt := (Array.getElem?_eq_some_iff.1 ho).1
 refine ⟨hlt, ?_, fun e hm => ?_⟩
 ·have := h.2 k hlt
  rw [h0] at this
  intro hc
  rw [List.contains_iff_mem.2 hc] at this; cases this
 ·simp only [edges, ho, List.mem_map, List.mem_filter] at hm
  obtain ⟨e', ⟨h1, h2⟩, rfl⟩ := hm
  exact (h.getF (he e' (by simpa using h1) h2)).2
theorem Hears.toReady {A : Array Oper} {listed : Array Bool} {T : List Nat} (h : Hears A listed T) {k : Nat} (hlt : k < A.size) (hT : k ∉ T) (he : ∀ e ∈ edges A k, e ∈ T /\ e < A.size) : k ∈ Region.ready .any A listed := by
 refine mem_ready.2 ⟨?_, A[k], Array.getElem?_eq_getElem hlt, fun e hm hb => ?_⟩
 ·rw [h.2 k hlt]
  cases hc : T.contains k with
  | false => rfl
  | true => exact absurd (List.contains_iff_mem.1 hc) hT
 ·have hmem : e.on ∈ edges A k := by
   simp only [edges, Array.getElem?_eq_getElem hlt]
   exact List.mem_map.2 ⟨e, List.mem_filter.2 ⟨by simpa using hm, hb⟩, rfl⟩
  obtain ⟨h1, h2⟩ := he _ hmem
  have h3 := h.2 e.on h2
  rw [List.contains_iff_mem.2 h1] at h3
  have hsz : e.on < listed.size := by rw [h.1]; exact h2
  rw [Array.getD_eq_getD_getElem?, Array.getElem?_eq_getElem hsz] at h3 ⊢
  exact h3
theorem Hears.set {A : Array Oper} {listed : Array Bool} {T : List Nat} (h : Hears A listed T) (i : Nat) : Hears A (listed.setIfInBounds i true) (T ++ [i]) := by
 refine ⟨by simp [h.1], fun k hk => ?_⟩
 have hk' : k < listed.size := by rw [h.1]; exact hk
 by_cases hik : i = k
 ·subst hik
  rw [Array.getD_eq_getD_getElem?, Array.getElem?_setIfInBounds_self_of_lt hk']
  simp
 ·rw [Array.getD_eq_getD_getElem?, Array.getElem?_setIfInBounds_ne hik, <- Array.getD_eq_getD_getElem?, h.2 k hk]
  have : (k == i) = false := by simp; exact fun e => hik e.symm
  simp [List.contains_eq_any_beq, List.any_append, this]
  intro h; exact absurd h.symm hik
theorem chkSeq_nodup {A : Array Oper} {ab : List Nat} : ∀ (late early : List Nat), chkSeq A ab early late = true -> late.Nodup /\ ∀ x ∈ late, x ∉ early
 | [], early, _ => ⟨List.nodup_nil, fun x hx => by cases hx⟩
 | k :: late, early, h => by
  simp only [chkSeq, Bool.and_eq_true, List.all_eq_true, Bool.not_eq_true'] at h
  obtain ⟨⟨h1, h2⟩, h3⟩ := h
  obtain ⟨g1, g2⟩ := chkSeq_nodup late (early ++ [k]) h3
  refine ⟨List.nodup_cons.2 ⟨fun hk => g2 k hk (by simp), g1⟩, fun x hx hxe => ?_⟩
  rcases List.mem_cons.1 hx with h | h
  ·subst h
   have := (h1 x hxe).2
   simp at this
  ·exact g2 x h (List.mem_append_left _ hxe)
theorem nodup_sub : ∀ (S X : List Nat), S.Nodup -> (∀ x ∈ S, x ∈ X) -> S.length <= X.length
 | [], X, _, _ => Nat.zero_le _
 | a :: S, X, hn, h => by
  have ha := h a List.mem_cons_self
  have h1 := nodup_sub S (X.erase a) (List.nodup_cons.1 hn).2 (fun x hx => by
   have hne : x ≠ a := fun e => (List.nodup_cons.1 hn).1 (e ▸ hx)
   exact (List.mem_erase_of_ne hne).2 (h x (List.mem_cons_of_mem _ hx)))
  rw [List.length_erase_of_mem ha] at h1
  have := List.length_pos_of_mem ha
  simp only [List.length_cons]; omega
theorem nodup_full {S X : List Nat} (hn : S.Nodup) (h : ∀ x ∈ S, x ∈ X) (hl : X.length <= S.length) : ∀ x ∈ X, x ∈ S := fun x hx => Classical.byContradiction fun hxS => by
 have := nodup_sub (x :: S) X (List.nodup_cons.2 ⟨hxS, hn⟩) (fun y hy => by
  rcases List.mem_cons.1 hy with e | e
  ·exact e ▸ hx
  ·exact h y e)
 simp only [List.length_cons] at this; omega
theorem chkSeq_spec {A : Array Oper} {ab : List Nat} : ∀ (late early : List Nat), chkSeq A ab early late = true -> ∀ p i s, late = p ++ i :: s ->
  (∀ j ∈ early ++ p, (clash A j i = true -> (nthN ab i).testBit j = true) /\ sameDst A i j = false /\ i ≠ j) /\ (∀ j ∈ s, clash A j i = true -> (nthN ab j).testBit i = true)
 | [], early, _, p, i, s, e => by cases p <;> cases e
 | k :: late, early, h, p, i, s, e => by
  simp only [chkSeq, Bool.and_eq_true, List.all_eq_true, Bool.or_eq_true, Bool.not_eq_true'] at h
  obtain ⟨⟨h1, h2⟩, h3⟩ := h
  cases p with
  | nil =>
   simp only [List.nil_append, List.cons.injEq] at e
   obtain ⟨rfl, rfl⟩ := e
   refine ⟨fun j hj => ?_, fun j hj hc => ?_⟩
   ·obtain ⟨⟨g1, g2⟩, g3⟩ := h1 j (by simpa using hj)
    refine ⟨fun hc => ?_, g2, fun e => ?_⟩
    ·rcases g1 with g | g
     ·rw [g] at hc; cases hc
     ·exact g
    ·subst e; simp at g3
   ·rcases h2 j hj with g | g
    ·rw [g] at hc; cases hc
    ·exact g
  | cons q p =>
   simp only [List.cons_append, List.cons.injEq] at e
   obtain ⟨rfl, rfl⟩ := e
   have := chkSeq_spec (p ++ i :: s) (early ++ [k]) h3 p i s rfl
   simpa using this
theorem chkTop_spec {A : Array Oper} {D : List Nat} : ∀ (late early : List Nat), chkTop A D early late = true -> ∀ p i s, late = p ++ i :: s -> ∀ e ∈ edges A i, e ∈ D \/ e ∈ early ++ p
 | [], early, _, p, i, s, e => by cases p <;> cases e
 | k :: late, early, h, p, i, s, e => by
  simp only [chkTop, Bool.and_eq_true, List.all_eq_true, Bool.or_eq_true] at h
  obtain ⟨h1, h3⟩ := h
  cases p with
  | nil =>
   simp only [List.nil_append, List.cons.injEq] at e
   obtain ⟨rfl, rfl⟩ := e
   intro x hx
   simpa using h1 x hx
  | cons q p =>
   simp only [List.cons_append, List.cons.injEq] at e
   obtain ⟨rfl, rfl⟩ := e
   have := chkTop_spec (p ++ i :: s) (early ++ [k]) h3 p i s rfl
   simpa using this
theorem opAt_dst (A : Array Oper) (i : Nat) (hi : i < A.size) : (opAt A i).dst = dstOf A i := by
 simp [opAt, Oper.gop, dstOf, Array.getD, hi]
theorem split_mem {X : List Nat} {i : Nat} (h : i ∈ X) : ∃ p s, X = p ++ i :: s := List.append_of_mem h
theorem wp_gop (P : Program) {o : Oper} {all : List Oper} {a : Act} {w : World} {K : Act -> World -> Prop} {Q : Exit -> Act -> World -> Prop}
  (h : (GOp.oper ⟨(Oper.gop all o).dst, (Oper.gop all o).op, (Oper.gop all o).type, none⟩).wp P a w K Q) : o.wp P a w K Q := wp_oper P o none a w K Q h
theorem AnyL.quiet {A : Array Oper} {J : Nat -> Bool} {D : List Nat} {ab : List Nat} (hab : AbOk A ab) (X : List Nat) (hc : chk A ab D X = true) (h : QS P (AnyL P A J (D ++ X) Q) (X.map (opAt A)) st) : AnyL P A J D Q st := by
 simp only [chk, Bool.and_eq_true, List.all_eq_true, Bool.or_eq_true, List.mem_range, Bool.not_eq_true'] at hc
 obtain ⟨⟨⟨⟨c1, c2⟩, c3⟩, c4⟩, c5⟩ := hc
 have hXD : ∀ i ∈ X, i < A.size /\ i ∉ D := fun i hi => ⟨Nat.le_of_ble_eq_true (c1 i hi).1, fun hm => by have := (c1 i hi).2; rw [List.contains_iff_mem.2 hm] at this; cases this⟩
 have hnd : X.Nodup := (chkSeq_nodup X [] c4).1
 have hsp := fun p i s e => chkSeq_spec X [] c4 p i s e
 have hdst : ∀ i ∈ X, (opAt A i).dst = dstOf A i := fun i hi => opAt_dst A i (hXD i hi).1
 have hone : OneDst A X := by
  intro i hi j hj t h1 h2
  rw [hdst i hi] at h1
  rw [hdst j hj] at h2
  have key : ∀ a b, a ∈ X -> b ∈ X -> dstOf A a = some t -> dstOf A b = some t -> ∀ p s, X = p ++ a :: s -> b ∉ p := by
   intro a b ha hb e1 e2 p s e hm
   have := ((hsp p a s e).1 b (by simpa using hm)).2.1
   simp [sameDst, e1, e2] at this
  obtain ⟨p, s, e⟩ := split_mem hi
  have hjX := hj
  rw [e] at hj
  rcases List.mem_append.1 hj with hj | hj
  ·exact absurd hj (key i j hi hjX h1 h2 p s e)
  ·rcases List.mem_cons.1 hj with hj | hj
   ·exact hj.symm
   ·obtain ⟨p', s', e'⟩ := split_mem hj
    exact absurd (show i ∈ p ++ i :: p' by simp) (key j i hjX hi h2 h1 (p ++ i :: p') s' (by rw [e, e']; simp))
 obtain ⟨us, hus, hK⟩ := QS.split X st hnd h
 refine ⟨fun E ι F a w fuel listed r hs hl hDn hDlt hfuel => ?_⟩
 have main : ∀ (m : Nat) (S : List Nat), X.length - S.length = m -> S.Nodup -> (∀ x ∈ S, x ∈ X) -> Closed A (fun k => k ∈ D \/ k ∈ S) -> ∀ (F : Nat -> Prop) (a : Act) (w : World) (fuel : Nat) (listed : Array Bool),
   Rel E ι F (puts A us (X.filter (S.contains ·)) st) a w -> Hears A listed (D ++ S) -> A.size <= fuel + D.length + S.length -> wpAnyJ P A J (conc E Q) fuel listed a w := by
  intro m
  induction m with
  | zero =>
   intro S hm hSn hSX hcl F a w fuel listed r hh hf
   have hlen : S.length <= X.length := nodup_sub S X hSn hSX
   have hXS : ∀ x ∈ X, x ∈ S := nodup_full hSn hSX (by omega)
   have hfil : X.filter (S.contains ·) = X := List.filter_eq_self.2 fun x hx => List.contains_iff_mem.2 (hXS x hx)
   rw [hfil] at r
   refine hK.out E ι F a w fuel listed r hh.1 (fun k hk => ?_) ?_ (fun k hk => ?_) (by rw [List.length_append]; omega)
   ·rw [hh.2 k hk]
    have e1 : (D ++ S).contains k = true ↔ (D ++ X).contains k = true := by
     rw [List.contains_iff_mem, List.contains_iff_mem, List.mem_append, List.mem_append]
     exact ⟨fun h => h.imp id (hSX k), fun h => h.imp id (hXS k)⟩
    cases h1 : (D ++ S).contains k <;> cases h2 : (D ++ X).contains k <;> simp_all
   ·exact List.nodup_append.2 ⟨hDn, hnd, fun x hx y hy e => (hXD y hy).2 (e ▸ hx)⟩
   ·rcases List.mem_append.1 hk with h | h
    ·exact hDlt k h
    ·exact (hXD k h).1
  | succ m ih =>
   intro S hm hSn hSX hcl F a w fuel listed r hh hf
   -- an operation that has not been done, the first one
   have hex : ∃ p i s, X = p ++ i :: s /\ i ∉ S /\ ∀ x ∈ p, x ∈ S := by
    have : ∀ (Y : List Nat), (∃ x ∈ Y, x ∉ S) -> ∃ p i s, Y = p ++ i :: s /\ i ∉ S /\ ∀ x ∈ p, x ∈ S := by
     intro Y
     induction Y with
     | nil => rintro ⟨x, hx, _⟩; cases hx
     | cons y Y ihY =>
      rintro ⟨x, hx, hxS⟩
      by_cases hy : y ∈ S
      ·have : x ∈ Y := by
        rcases List.mem_cons.1 hx with h | h
        ·exact absurd (h ▸ hy) hxS
        ·exact h
       obtain ⟨p, i, s, e, h1, h2⟩ := ihY ⟨x, this, hxS⟩
       exact ⟨y :: p, i, s, by rw [e]; rfl, h1, fun z hz => by
        rcases List.mem_cons.1 hz with h | h
        ·exact h ▸ hy
        ·exact h2 z h⟩
      ·exact ⟨[], y, Y, rfl, hy, fun z hz => by cases hz⟩
    refine this X ?_
    by_cases hall : ∀ x ∈ X, x ∈ S
    ·have := nodup_sub X S hnd hall
     omega
    ·exact Classical.byContradiction fun hno => hall fun x hx => Classical.byContradiction fun hxS => hno ⟨x, hx, hxS⟩
   obtain ⟨p0, i0, s0, e0, hi0S, hp0⟩ := hex
   have hi0X : i0 ∈ X := by rw [e0]; simp
   have hTn : (D ++ S).Nodup := List.nodup_append.2 ⟨hDn, hSn, fun x hx y hy e => (hXD y (hSX y hy)).2 (e ▸ hx)⟩
   have hTlt : ∀ k ∈ D ++ S, k < A.size := fun k hk => by
    rcases List.mem_append.1 hk with h | h
    ·exact hDlt k h
    ·exact (hXD k (hSX k h)).1
   have hi0T : i0 ∉ D ++ S := fun h => by
    rcases List.mem_append.1 h with h | h
    ·exact (hXD i0 hi0X).2 h
    ·exact hi0S h
   have hlen : (D ++ S).length + 1 <= A.size := by
    have := nodup_len A.size (i0 :: (D ++ S)) (List.nodup_cons.2 ⟨hi0T, hTn⟩) (fun k hk => by
     rcases List.mem_cons.1 hk with h | h
     ·exact h ▸ (hXD i0 hi0X).1
     ·exact hTlt k h)
    simpa using this
   rw [List.length_append] at hlen
   obtain ⟨fuel, rfl⟩ : ∃ f, fuel = f + 1 := ⟨fuel - 1, by omega⟩
   have hrdy0 : i0 ∈ Region.ready .any A listed := hh.toReady (hXD i0 hi0X).1 hi0T (fun e he => by
    have hm : e ∈ D ++ S := by
     rcases chkTop_spec X [] c5 p0 i0 s0 e0 e he with h | h
     ·exact List.mem_append_left _ h
     ·exact List.mem_append_right _ (hp0 e (by simpa using h))
    exact ⟨hm, hTlt e hm⟩)
   refine ⟨fun hno => (by rw [hno] at hrdy0; cases hrdy0), fun i hi => ?_⟩
   obtain ⟨hilt, hiT, hiE⟩ := hh.ready hi
   have hiE' : ∀ e ∈ edges A i, e ∈ D \/ e ∈ S := fun e he => List.mem_append.1 (hiE e he)
   have hiX : i ∈ X := by
    rcases c3 i hilt with (h | h) | h
    ·exact absurd (List.mem_append_left _ (List.contains_iff_mem.1 h)) hiT
    ·exact List.contains_iff_mem.1 h
    ·exfalso
     have := hab _ hcl _ _ (h i0 hi0X) hiE'
     rcases this with h | h
     ·exact (hXD i0 hi0X).2 h
     ·exact hi0S h
   have hiS : i ∉ S := fun h => hiT (List.mem_append_right _ h)
   obtain ⟨p, s, e⟩ := split_mem hiX
   obtain ⟨hearly, hlate⟩ := hsp p i s e
   have hQG := hus p i s e
   have hndp : (p ++ i :: s).Nodup := e ▸ hnd
   have hip : i ∉ p := fun h => by
    have := (List.nodup_append.1 hndp).2.2 i h i List.mem_cons_self
    exact this rfl
   have hpX : ∀ x ∈ p, x ∈ X := fun x hx => by rw [e]; exact List.mem_append_left _ hx
   have hpn : p.Nodup := (List.nodup_append.1 hndp).1
   have hfX : ∀ x ∈ X.filter (S.contains ·), x ∈ X := fun x hx => (List.mem_filter.1 hx).1
   have hfn : (X.filter (S.contains ·)).Nodup := hnd.filter _
   have hfS : ∀ x, x ∈ X.filter (S.contains ·) ↔ x ∈ S := fun x => by
    rw [List.mem_filter, List.contains_iff_mem]
    exact ⟨fun h => h.2, fun h => ⟨hSX x h, h⟩⟩
   have sub : ∀ Y : List Nat, (∀ x ∈ Y, x ∈ X) -> OneDst A Y := fun Y hY a ha b hb => hone a (hY a ha) b (hY b hb)
   -- what the operation looks at stands as in the order of the text
   have hsame : ∀ t ∈ looks A i, (puts A us p st).env t = (puts A us (X.filter (S.contains ·)) st).env t := by
    intro t ht
    by_cases hj : ∃ j ∈ X, (opAt A j).dst = some t
    ·obtain ⟨j, hjX, hjt⟩ := hj
     have hcl' : clash A j i = true := by
      unfold clash
      rw [<- hdst j hjX, hjt]
      exact (memT_iff _ _).2 ht
     have hjX' := hjX
     rw [e] at hjX'
     have hjS : j ∈ p ↔ j ∈ S := by
      constructor
      ·intro hjp
       have hb := (hearly j (by simpa using hjp)).1 hcl'
       rcases hab _ hcl _ _ hb hiE' with h | h
       ·exact absurd h (hXD j hjX).2
       ·exact h
      ·intro hjS
       rcases List.mem_append.1 hjX' with h | h
       ·exact h
       ·rcases List.mem_cons.1 h with h | h
        ·exact absurd (h ▸ hjS) hiS
        ·exfalso
         have hb := hlate j h hcl'
         rcases hab _ hcl _ _ hb (hcl j (.inr hjS)) with h | h
         ·exact (hXD i hiX).2 h
         ·exact hiS h
     by_cases hjp : j ∈ p
     ·rw [puts_mem A us t j hjt p st (sub p hpX) hpn hjp, puts_mem A us t j hjt _ st (sub _ hfX) hfn ((hfS j).2 (hjS.1 hjp))]
     ·rw [puts_not A us t p st (fun x hx ex => hjp (by have := hone x (hpX x hx) j hjX t ex hjt; rw [<- this]; exact hx)),
       puts_not A us t _ st (fun x hx ex => hjp (hjS.2 (by have := hone x (hfX x hx) j hjX t ex hjt; rw [<- this]; exact (hfS x).1 hx)))]
    ·rw [puts_not A us t p st (fun x hx ex => hj ⟨x, hpX x hx, ex⟩), puts_not A us t _ st (fun x hx ex => hj ⟨x, hfX x hx, ex⟩)]
   -- the state behind it
   have hset := hh.set i
   have hassoc : (D ++ S) ++ [i] = D ++ (S ++ [i]) := by simp
   rw [hassoc] at hset
   have hnext : ∀ (F' : Nat -> Prop) (a' : Act) (w' : World), Rel E ι F' ((puts A us (X.filter (S.contains ·)) st).put (opAt A i).dst (us i)) a' w' -> wpAnyJ P A J (conc E Q) fuel (listed.setIfInBounds i true) a' w' := by
    intro F' a' w' r'
    refine ih (S ++ [i]) (by simp; omega) (List.nodup_append.2 ⟨hSn, by simp, fun x hx y hy exy => by
     have : y = i := by simpa using hy
     exact hiS (this ▸ exy ▸ hx)⟩) (fun x hx => ?_) ?_ F' a' w' fuel _ ?_ hset (by simp; omega)
    ·rcases List.mem_append.1 hx with h | h
     ·exact hSX x h
     ·have : x = i := by simpa using h
      exact this ▸ hiX
    ·intro k hk e' he'
     rcases hk with hk | hk
     ·rcases hcl k (.inl hk) e' he' with h | h
      ·exact .inl h
      ·exact .inr (List.mem_append_left _ h)
     ·rcases List.mem_append.1 hk with hk | hk
      ·rcases hcl k (.inr hk) e' he' with h | h
       ·exact .inl h
       ·exact .inr (List.mem_append_left _ h)
      ·have : k = i := by simpa using hk
       subst this
       rcases hiE' e' he' with h | h
       ·exact .inl h
       ·exact .inr (List.mem_append_left _ h)
    ·have hfX2 : ∀ x ∈ X.filter ((S ++ [i]).contains ·), x ∈ X := fun x hx => (List.mem_filter.1 hx).1
     have hfS2 : ∀ x, x ∈ X.filter ((S ++ [i]).contains ·) ↔ x ∈ S \/ x = i := fun x => by
      rw [List.mem_filter, List.contains_iff_mem, List.mem_append]
      constructor
      ·rintro ⟨_, h | h⟩
       ·exact .inl h
       ·exact .inr (by simpa using h)
      ·rintro (h | h)
       ·exact ⟨hSX x h, .inl h⟩
       ·exact ⟨h ▸ hiX, .inr (by simpa using h)⟩
     refine r'.congr (by rw [puts_heap, put_heap, puts_heap]) (by rw [puts_nt, put_nt, puts_nt]) (fun t => .inl ?_)
     by_cases hit : (opAt A i).dst = some t
     ·rw [puts_mem A us t i hit _ st (sub _ hfX2) (hnd.filter _) ((hfS2 i).2 (.inr rfl)), hit, put_env_eq, puts_nt]
     ·rw [put_env_ne _ _ _ _ hit]
      by_cases hj : ∃ j ∈ S, (opAt A j).dst = some t
      ·obtain ⟨j, hjS, hjt⟩ := hj
       rw [puts_mem A us t j hjt _ st (sub _ hfX2) (hnd.filter _) ((hfS2 j).2 (.inl hjS)), puts_mem A us t j hjt _ st (sub _ hfX) hfn ((hfS j).2 hjS)]
      ·rw [puts_not A us t _ st (fun x hx ex => ?_), puts_not A us t _ st (fun x hx ex => hj ⟨x, (hfS x).1 hx, ex⟩)]
       rcases (hfS2 x).1 hx with h | h
       ·exact hj ⟨x, h, ex⟩
       ·exact hit (h ▸ ex)
   have hAi : A[i]? = some (A.getD i default) := by simp [Array.getD, hilt]
   unfold wpOp
   rw [hAi]
   simp only
   rw [<- wanted_prep A (A.getD i default) a.tmps]
   have hop : Oper.gop A.toList (A.getD i default) = opAt A i := rfl
   rw [hop]
   have hreads : ∀ t ∈ rds (opAt A i).op, t ∈ looks A i := fun t ht => by
    simp only [looks, hAi]
    exact List.mem_append_left _ ht
   have hrun : QO P ⟨(opAt A i).dst, (opAt A i).op, (opAt A i).type, none⟩ (us i) ((puts A us p st).only (rds (opAt A i).op)) -> (A.getD i default).wp P a w (fun a' w' => (J i = true -> Grown w w') /\ wpAnyJ P A J (conc E Q) fuel (listed.setIfInBounds i true) a' w') (conc E Q) := by
    intro hq
    have hrel : Rel E ι F ((puts A us p st).only (rds (opAt A i).op)) a w := r.congr (by simp only [St.only]; rw [puts_heap, puts_heap]) (by simp only [St.only]; rw [puts_nt, puts_nt]) (fun t => by
     simp only [St.only]
     cases hm : memT (rds (opAt A i).op) t with
     | false => exact .inr rfl
     | true => exact .inl (hsame t (hreads t ((memT_iff _ _).1 hm))))
    have h1 := hq E ι F a w hrel
    refine wp_gop P (all := A.toList) ?_
    have h2 := Oper.wp_mono (K' := fun a' w' => (J i = true -> Grown w w') /\ wpAnyJ P A J (conc E Q) fuel (listed.setIfInBounds i true) a' w') (fun a' w' ⟨c, F', ea, g, v⟩ => by
     obtain ⟨r2, x2⟩ := r.h.grown g
     have v' : VRel (puts A us (X.filter (S.contains ·)) st).heap ι F' w' (us i) c := by
      rw [puts_heap]; simp only [St.only] at v; rw [puts_heap] at v; exact v
     subst ea
     exact ⟨fun _ => g.grown, hnext F' _ w' (r.put r2 x2 _ v')⟩) h1
    exact wp_anyQ h2
   -- the guard
   cases hg : (opAt A i).g with
   | none =>
    have hw : (opAt A i).wanted a.tmps = true := by unfold GOp.wanted; rw [hg]
    rw [hw, if_pos rfl]
    unfold QG at hQG
    rw [hg] at hQG
    exact .inl (hrun hQG)
   | some gw =>
    obtain ⟨gt, want⟩ := gw
    unfold QG at hQG
    rw [hg] at hQG
    cases gt with
    | none => exact hQG.elim
    | some t =>
     have hlk : t ∈ looks A i := by
      simp only [looks, hAi]
      refine List.mem_append_right _ ?_
      simp only [opAt, Oper.gop] at hg
      cases hgd : (A.getD i default).guard with
      | none => rw [hgd] at hg; cases hg
      | some jw =>
       obtain ⟨j, w0⟩ := jw
       rw [hgd] at hg
       simp only [gtmp, Option.some.injEq, Prod.mk.injEq, Array.getElem?_toList] at hg
       simp only [hg.1]
       exact List.mem_cons_self
     rcases hQG with ⟨hlt, b, hb, hy, hn⟩ | ⟨hb, hn⟩
     rotate_left
     ·rw [hsame t hlk] at hb
      have hv := r.env t
      rw [hb] at hv
      have hw : (opAt A i).wanted a.tmps = false := by
       have hv : a.tmps.getD t undef = undef := hv
       unfold GOp.wanted
       simp only [hg]
       rw [Array.getD_eq_getD_getElem?] at hv
       cases he : a.tmps[t]? with
       | none => rfl
       | some v =>
        rw [he, Option.getD_some] at hv
        subst hv; rfl
      rw [hw, if_neg (by decide)]
      refine ⟨fun _ => Grown.refl w, hnext F _ w ?_⟩
      rw [hn]
      exact r.put_same _ (u := .und) (v := undef) rfl
     ·rw [hsame t hlk] at hb
      have hv := r.env t
      rw [hb] at hv
      have hlt' : t < a.tmps.size := by rw [r.nt, puts_nt]; rw [puts_nt] at hlt; exact Nat.le_of_ble_eq_true hlt
      have he' : a.tmps[t]? = some (.bool b) := by
       have : a.tmps.getD t undef = .bool b := hv
       rw [Array.getD_eq_getD_getElem?, Array.getElem?_eq_getElem hlt', Option.getD_some] at this
       rw [Array.getElem?_eq_getElem hlt', this]
      have hw : (opAt A i).wanted a.tmps = (b == want) := by unfold GOp.wanted; simp only [hg, he']
      rw [hw]
      by_cases hbw : b = want
      ·subst hbw
       rw [beq_self_eq_true, if_pos rfl]
       exact .inl (hrun (hy rfl))
      ·have hb2 : b = !want := by cases b <;> cases want <;> simp_all
       have : (b == want) = false := by simpa using hbw
       rw [this, if_neg (by decide)]
       refine ⟨fun _ => Grown.refl w, hnext F _ w ?_⟩
       rw [hn hb2]
       exact r.put_same _ (u := .und) (v := undef) rfl
 exact main X.length [] (by simp) List.nodup_nil (fun x hx => by cases hx) (fun i hi e he => by
  rcases hi with hi | hi
  ·exact .inl (List.contains_iff_mem.1 (c2 i hi e he))
  ·cases hi) F a w fuel listed (by
   have : X.filter (([] : List Nat).contains ·) = [] := by simp
   rw [this]; exact r) ⟨hs, fun k hk => by rw [List.append_nil]; exact hl k hk⟩ (by simpa using hfuel)
def chk1 (A : Array Oper) (ab : List Nat) (D : List Nat) (e : Nat) : Bool :=
 Nat.blt e A.size && !D.contains e && (D.all fun k => (edges A k).all fun e => D.contains e) && ((edges A e).all fun x => D.contains x) &&
 (List.range A.size).all fun k => D.contains k || Nat.beq k e || (nthN ab k).testBit e
theorem wpOp_some {A : Array Oper} {Q : Exit -> Act -> World -> Prop} {i : Nat} {o : Oper} {K : Act -> World -> Prop} {a : Act} {w : World} (h : A[i]? = some o) :
  wpOp P A Q i K a w = if Region.wanted o (yielded A a.tmps) then o.wp P a w K Q \/ (o.asks P a w /\ LetsOut Q) else K (a.put o.dst undef) w := by
 unfold wpOp; rw [h]
def normalQ (K : St -> Prop) : Exit -> St -> Prop
 | .normal, st => K st
 | _, _ => False
structure SLG (P : Program) (g : GOp) (K : St -> Prop) (st : St) : Prop where
 out : ∀ E ι F a w, Rel E ι F st a w -> g.g = none /\ g.oper.wp P a w (fun a' w' => Grown w w' /\ ∃ ι' F' st', Rel E ι' F' st' a' w' /\ K st') (fun _ _ _ => False)
theorem AnyL.stepI {A : Array Oper} {J : Nat -> Bool} {D : List Nat} (e : Nat) (hlt : e < A.size) (hiD : e ∉ D)
  (h : (J e = false /\ SL P [opAt A e] (normalQ (AnyL P A J (D ++ [e]) Q)) st) \/ SLG P (opAt A e) (AnyL P A J (D ++ [e]) Q) st) :
  ∀ E ι F a w fuel (listed : Array Bool), Rel E ι F st a w -> Hears A listed D -> D.Nodup -> (∀ k ∈ D, k < A.size) -> A.size <= fuel + 1 + D.length ->
   wpOp P A (conc E Q) e (fun a' w' => (J e = true -> Grown w w') /\ wpAnyJ P A J (conc E Q) fuel (listed.setIfInBounds e true) a' w') a w := by
 intro E ι F a w fuel listed r hh hDn hDlt hfuel
 have hAi : A[e]? = some (A.getD e default) := by simp [Array.getD, hlt]
 have hnext : ∀ ι' F' st' a' w', Rel E ι' F' st' a' w' -> AnyL P A J (D ++ [e]) Q st' -> wpAnyJ P A J (conc E Q) fuel (listed.setIfInBounds e true) a' w' := by
  intro ι' F' st' a' w' r' hk
  have hset := hh.set e
  exact hk.out E ι' F' a' w' fuel _ r' hset.1 hset.2 (List.nodup_append.2 ⟨hDn, by simp, fun x hx y hy exy => by
   have : y = e := by simpa using hy
   exact hiD (this ▸ exy ▸ hx)⟩) (fun k hk => by
    rcases List.mem_append.1 hk with h | h
    ·exact hDlt k h
    ·have : k = e := by simpa using h
     exact this ▸ hlt) (by simp; omega)
 have hop : Oper.gop A.toList (A.getD e default) = opAt A e := rfl
 rw [wpOp_some hAi, <- wanted_prep A (A.getD e default) a.tmps, hop]
 rcases h with ⟨hJ, h⟩ | h
 ·have h1 := h.out E ι F a w r
  simp only [lwp] at h1
  have hn2 : ∀ a' w', conc E (normalQ (AnyL P A J (D ++ [e]) Q)) .normal a' w' -> (J e = true -> Grown w w') /\ wpAnyJ P A J (conc E Q) fuel (listed.setIfInBounds e true) a' w' := by
   rintro a' w' ⟨ι', F', st', r', hk⟩
   exact ⟨fun hj => (by rw [hJ] at hj; cases hj), hnext _ _ _ _ _ r' hk⟩
  by_cases hw : (opAt A e).wanted a.tmps = true
  ·rw [if_pos hw] at h1 ⊢
   have h2 := Oper.wp_mono hn2 h1
   refine .inl (wp_gop P (all := A.toList) (wp_anyQ ?_))
   have h3 : ∀ (o : Oper) (K : Act -> World -> Prop), o.wp P a w K (conc E (normalQ (AnyL P A J (D ++ [e]) Q))) -> o.wp P a w K (fun _ _ _ => False) := by
    intro o K hk
    unfold Oper.wp at hk ⊢
    generalize (execOp a.eval o).run P w = res at hk ⊢
    cases res with
    | ok n w' =>
     cases n <;> simp only [Oper.upon] at hk ⊢ <;> first | exact hk | exact Calls.mono hk (fun e w'' he => by cases e <;> first | exact he | exact he.elim | (obtain ⟨a, w, he⟩ := he; exact he.elim))
    | halt x w' => cases x <;> simp only [Oper.upon] at hk ⊢ <;> exact hk
   exact h3 _ _ h2
  ·rw [if_neg hw] at h1 ⊢
   exact hn2 _ _ h1
 ·obtain ⟨hg, h1⟩ := h.out E ι F a w r
  have hw : (opAt A e).wanted a.tmps = true := by unfold GOp.wanted; rw [hg]
  rw [if_pos hw]
  refine .inl (wp_gop P (all := A.toList) (wp_anyQ ?_))
  have e1 : (GOp.oper ⟨(opAt A e).dst, (opAt A e).op, (opAt A e).type, none⟩) = (opAt A e).oper := rfl
  rw [hop, e1]
  exact Oper.wp_mono (fun a' w' ⟨g, ι', F', st', r', hk⟩ => ⟨fun _ => g, hnext _ _ _ _ _ r' hk⟩) h1
theorem AnyL.step {A : Array Oper} {J : Nat -> Bool} {D : List Nat} {ab : List Nat} (hab : AbOk A ab) (e : Nat) (hc : chk1 A ab D e = true) (h : (J e = false /\ SL P [opAt A e] (normalQ (AnyL P A J (D ++ [e]) Q)) st) \/ SLG P (opAt A e) (AnyL P A J (D ++ [e]) Q) st) : AnyL P A J D Q st := by
 simp only [chk1, Bool.and_eq_true, List.all_eq_true, Bool.or_eq_true, List.mem_range, Bool.not_eq_true'] at hc
 obtain ⟨⟨⟨⟨c1, c2⟩, c3⟩, c4⟩, c5⟩ := hc
 have helt : e < A.size := Nat.le_of_ble_eq_true c1
 have heD : e ∉ D := fun hm => by rw [List.contains_iff_mem.2 hm] at c2; cases c2
 refine ⟨fun E ι F a w fuel listed r hs hl hDn hDlt hfuel => ?_⟩
 have hh : Hears A listed D := ⟨hs, hl⟩
 have hrdy : e ∈ Region.ready .any A listed := hh.toReady helt heD (fun x hx => ⟨List.contains_iff_mem.1 (c4 x hx), hDlt x (List.contains_iff_mem.1 (c4 x hx))⟩)
 have hlen : D.length + 1 <= A.size := by
  have := nodup_len A.size (e :: D) (List.nodup_cons.2 ⟨heD, hDn⟩) (fun k hk => by
   rcases List.mem_cons.1 hk with h | h
   ·exact h ▸ helt
   ·exact hDlt k h)
  simpa using this
 obtain ⟨fuel, rfl⟩ : ∃ f, fuel = f + 1 := ⟨fuel - 1, by omega⟩
 refine ⟨fun hno => (by rw [hno] at hrdy; cases hrdy), fun i hi => ?_⟩
 obtain ⟨hilt, hiD, hiE⟩ := hh.ready hi
 have hie : i = e := by
  rcases c5 i hilt with (h | h) | h
  ·exact absurd (List.contains_iff_mem.1 h) hiD
  ·exact Nat.eq_of_beq_eq_true h
  ·exact absurd (hab (fun k => k ∈ D) (fun k hk x hx => List.contains_iff_mem.1 (c3 k hk x hx)) _ _ h hiE) heD
 subst hie
 exact AnyL.stepI i helt heD h E ι F a w fuel listed r hh hDn hDlt (by omega)
def rdyL (A : Array Oper) (D : List Nat) : List Nat := (List.range A.size).filter fun k => !D.contains k && (edges A k).all fun e => D.contains e
theorem AnyL.branch {A : Array Oper} {J : Nat -> Bool} {D : List Nat} (hne : (rdyL A D).isEmpty = false) (h : ∀ e ∈ rdyL A D, (J e = false /\ SL P [opAt A e] (normalQ (AnyL P A J (D ++ [e]) Q)) st) \/ SLG P (opAt A e) (AnyL P A J (D ++ [e]) Q) st) : AnyL P A J D Q st := by
 have mem : ∀ e, e ∈ rdyL A D -> e < A.size /\ e ∉ D /\ ∀ x ∈ edges A e, x ∈ D := fun e he => by
  simp only [rdyL, List.mem_filter, List.mem_range, Bool.and_eq_true, Bool.not_eq_true', List.all_eq_true] at he
  exact ⟨he.1, fun hm => (by rw [List.contains_iff_mem.2 hm] at he; cases he.2.1), fun x hx => List.contains_iff_mem.1 (he.2.2 x hx)⟩
 obtain ⟨e0, he0⟩ : ∃ e, e ∈ rdyL A D := by
  cases hr : rdyL A D with
  | nil => rw [hr] at hne; cases hne
  | cons x l => exact ⟨x, List.mem_cons_self⟩
 refine ⟨fun E ι F a w fuel listed r hs hl hDn hDlt hfuel => ?_⟩
 have hh : Hears A listed D := ⟨hs, hl⟩
 obtain ⟨m1, m2, m3⟩ := mem e0 he0
 have hrdy : e0 ∈ Region.ready .any A listed := hh.toReady m1 m2 (fun x hx => ⟨m3 x hx, hDlt x (m3 x hx)⟩)
 have hlen : D.length + 1 <= A.size := by
  have := nodup_len A.size (e0 :: D) (List.nodup_cons.2 ⟨m2, hDn⟩) (fun k hk => by
   rcases List.mem_cons.1 hk with h | h
   ·exact h ▸ m1
   ·exact hDlt k h)
  simpa using this
 obtain ⟨fuel, rfl⟩ : ∃ f, fuel = f + 1 := ⟨fuel - 1, by omega⟩
 refine ⟨fun hno => (by rw [hno] at hrdy; cases hrdy), fun i hi => ?_⟩
 obtain ⟨hilt, hiD, hiE⟩ := hh.ready hi
 refine AnyL.stepI i hilt hiD (h i ?_) E ι F a w fuel listed r hh hDn hDlt (by omega)
 simp only [rdyL, List.mem_filter, List.mem_range, Bool.and_eq_true, Bool.not_eq_true', List.all_eq_true]
 refine ⟨hilt, ?_, fun x hx => List.contains_iff_mem.2 (hiE x hx)⟩
 cases hc : D.contains i with
 | false => rfl
 | true => exact absurd (List.contains_iff_mem.1 hc) hiD
end Go.Abs
namespace Go.Abs
open Go
variable {P : Program} {Q : Exit -> St -> Prop} {st : St}
def ints (l : List Int) : T := .sl 1 l.length (fun i _ => .int .i64 (l.getD i 0))
def rows {α : Type} (sz : Nat) (d : α) (e : α -> Nat -> T) (l : List α) : T := .sl sz l.length (fun i j => e (l.getD i d) j)
structure Inst where
 op : Int
 dest : Int
 args : List Int
 num : Int
 mem : Int
deriving DecidableEq
structure Edge where
 block : Int
 args : List Int
deriving DecidableEq
structure Term where
 kind : Int
 cond : Int
 to : List Edge
 rets : List Int
deriving DecidableEq
structure Block where
 params : List Int
 insts : List Inst
 term : Term
 pipeline : Int
 unroll : Int
 line : Int
deriving DecidableEq
structure Arr where
 name : ByteArray
 width : Int
 len : Int
 kind : Int
 factor : Int
deriving DecidableEq
structure Strm where
 name : ByteArray
 width : Int
 out : Bool
deriving DecidableEq
structure Fn where
 name : ByteArray
 widths : List Int
 arrays : List Arr
 streams : List Strm
 rets : List Int
 blocks : List Block
deriving DecidableEq
def Inst.z : Inst := ⟨0, 0, [], 0, 0⟩
def Edge.z : Edge := ⟨0, []⟩
def Term.z : Term := ⟨0, 0, [], []⟩
def Block.z : Block := ⟨[], [], Term.z, 0, 0, 0⟩
def Arr.z : Arr := ⟨ByteArray.empty, 0, 0, 0, 0⟩
def Strm.z : Strm := ⟨ByteArray.empty, 0, false⟩
def Inst.e (x : Inst) : Nat -> T
 | 0 => .int .i64 x.op
 | 1 => .int .i64 x.dest
 | 2 => ints x.args
 | 3 => .int .u64 x.num
 | 4 => .int .i64 x.mem
 | _ => .any
def Edge.e (x : Edge) : Nat -> T
 | 0 => .int .i64 x.block
 | 1 => ints x.args
 | _ => .any
def Term.e (x : Term) : Nat -> T
 | 0 => .int .i64 x.kind
 | 1 => .int .i64 x.cond
 | 2 => rows 2 Edge.z Edge.e x.to
 | 3 => ints x.rets
 | _ => .any
def Block.e (x : Block) : Nat -> T
 | 0 => ints x.params
 | 1 => rows 5 Inst.z Inst.e x.insts
 | 2 => .int .i64 x.term.kind
 | 3 => .int .i64 x.term.cond
 | 4 => rows 2 Edge.z Edge.e x.term.to
 | 5 => ints x.term.rets
 | 6 => .int .i64 x.pipeline
 | 7 => .int .i64 x.unroll
 | 8 => .int .i64 x.line
 | _ => .any
def Arr.e (x : Arr) : Nat -> T
 | 0 => .str x.name
 | 1 => .int .i64 x.width
 | 2 => .int .i64 x.len
 | 3 => .int .i64 x.kind
 | 4 => .int .i64 x.factor
 | _ => .any
def Strm.e (x : Strm) : Nat -> T
 | 0 => .str x.name
 | 1 => .int .i64 x.width
 | 2 => .bool x.out
 | _ => .any
def Fn.e (x : Fn) : Nat -> T
 | 0 => .str x.name
 | 1 => ints x.widths
 | 2 => rows 5 Arr.z Arr.e x.arrays
 | 3 => rows 3 Strm.z Strm.e x.streams
 | 4 => ints x.rets
 | 5 => rows 9 Block.z Block.e x.blocks
 | _ => .any
def Fn.v (x : Fn) : V := .agg 6 (fun j => .t (x.e j))
theorem wrap_in {z : Int} (h1 : -9223372036854775808 <= z) (h2 : z <= 9223372036854775807) : IntKind.i64.wrap z = z := IntWalk.i64_in _ (by omega)
end Go.Abs
namespace Go.Abs
open Go
def Below' (w : World) (b : Nat) : Prop := b < w.heap.size
def I64 (n : Int) : Prop := -9223372036854775808 <= n /\ n <= 9223372036854775807
def U64 (n : Int) : Prop := 0 <= n /\ n <= 18446744073709551615
def Strs (s : ByteArray) : Prop := s.size <= 9223372036854775807
def All {α : Type} (by_ : Nat) (ok : α -> Prop) (l : List α) : Prop := l.length * by_ <= reachBytes /\ ∀ a ∈ l, ok a
theorem All.len {α : Type} {by_ : Nat} {ok : α -> Prop} {l : List α} (h : All by_ ok l) (hb : by_ ≠ 0 := by decide) : l.length <= LEN := by
 have h1 := h.1
 have : l.length * 1 <= l.length * by_ := Nat.mul_le_mul_left _ (by omega)
 simp only [reachBytes] at h1
 simp only [LEN]; omega
def Wt {H : Type} (P : Program) (t : TypeId) (d : DataW H) : Prop := (d.weights P t).all (· <= reachBytes) = true
def Cells (w : World) (n : Nat) (g : Nat -> T) (cs : List Value) : Prop := cs.length = n /\ ∀ j, j < n -> ∃ c, cs[j]? = some c /\ Reads (Below' w) w (g j) c
structure Opens (P : Program) (t : TypeId) (n : Nat) {α : Type} (e : α -> Nat -> T) (ok : α -> Prop) : Prop where
 sz : P.cellsOf t = n
 out : ∀ (H : Type) (enc : TypeId × Value -> H) (w : World) (spare : Nat -> Bool) (fuel : Nat) (cs : List Value) (x : DataW H × List MemPlace),
  DataW.trod enc P w 0 spare true fuel t cs = some x -> Wt P t x.1 -> ∃ a, ok a /\ Cells w n (e a) cs
variable {P : Program} {t : TypeId}
theorem Opens.i64 (h : P.underlying t = some (.int .i64)) (hs : P.cellsOf t = 1) : Opens P t 1 (fun a _ => .int .i64 a) I64 :=
 ⟨hs, fun H enc w spare fuel cs x hx _ => by
  obtain ⟨n, rfl, -, hw⟩ := DataW.trod_int h hx
  have h1 : IntKind.i64.min = -9223372036854775808 := rfl
  have h2 : IntKind.i64.max = 9223372036854775807 := rfl
  simp only [Lit.wf, Bool.and_eq_true, decide_eq_true_eq, h1, h2] at hw
  exact ⟨n, hw, rfl, fun j hj => ⟨_, by obtain rfl : j = 0 := (by omega); rfl, rfl⟩⟩⟩
theorem Opens.u64 (h : P.underlying t = some (.int .u64)) (hs : P.cellsOf t = 1) : Opens P t 1 (fun a _ => .int .u64 a) U64 :=
 ⟨hs, fun H enc w spare fuel cs x hx _ => by
  obtain ⟨n, rfl, -, hw⟩ := DataW.trod_int h hx
  have h1 : IntKind.u64.min = 0 := rfl
  have h2 : IntKind.u64.max = 18446744073709551615 := rfl
  simp only [Lit.wf, Bool.and_eq_true, decide_eq_true_eq, h1, h2] at hw
  exact ⟨n, hw, rfl, fun j hj => ⟨_, by obtain rfl : j = 0 := (by omega); rfl, rfl⟩⟩⟩
theorem Opens.bool (h : P.underlying t = some .bool) (hs : P.cellsOf t = 1) : Opens P t 1 (fun a _ => .bool a) (fun _ => True) :=
 ⟨hs, fun H enc w spare fuel cs x hx _ => by
  obtain ⟨n, rfl, -⟩ := DataW.trod_bool h hx
  exact ⟨n, trivial, rfl, fun j hj => ⟨_, by obtain rfl : j = 0 := (by omega); rfl, rfl⟩⟩⟩
theorem Opens.str (h : P.underlying t = some .string) (hs : P.cellsOf t = 1) : Opens P t 1 (fun a _ => .str a) Strs :=
 ⟨hs, fun H enc w spare fuel cs x hx _ => by
  obtain ⟨n, rfl, -, hw⟩ := DataW.trod_string h hx
  exact ⟨n, hw, rfl, fun j hj => ⟨_, by obtain rfl : j = 0 := (by omega); rfl, rfl, hw⟩⟩⟩
theorem gatherL {α : Type} (d : α) {p : Nat -> α -> Prop} : ∀ n, (∀ i, i < n -> ∃ a, p i a) -> ∃ l : List α, l.length = n /\ ∀ i, i < n -> p i (l.getD i d)
 | 0, _ => ⟨[], rfl, fun i hi => absurd hi (Nat.not_lt_zero _)⟩
 | n + 1, h => by
  obtain ⟨l, hl, hp⟩ := gatherL d (p := p) n (fun i hi => h i (by omega))
  obtain ⟨a, ha⟩ := h n (by omega)
  refine ⟨l ++ [a], by simp [hl], fun i hi => ?_⟩
  by_cases hin : i < n
  ·have := hp i hin
   simpa [List.getD_eq_getElem?_getD, List.getElem?_append_left (show i < l.length by omega)] using this
  ·obtain rfl : i = n := by omega
   simpa [List.getD_eq_getElem?_getD, List.getElem?_append_right (show l.length <= i by omega), hl] using ha
theorem weightsAll_mem {H : Type} {t : TypeId} : ∀ {l : List (DataW H)} {d : DataW H}, d ∈ l -> ∀ n ∈ d.weights P t, n ∈ DataW.weightsAll P t l
 | x :: l, d, hd, n, hn => by
  simp only [DataW.weightsAll, List.mem_append]
  rcases List.mem_cons.1 hd with rfl | hd
  ·exact .inl hn
  ·exact .inr (weightsAll_mem hd n hn)
theorem cell_lt {w : World} {a : Addr} {v : Value} (h : w.cell? a = some v) : a.block < w.heap.size := by
 unfold World.cell? at h
 rcases Nat.lt_or_ge a.block w.heap.size with hb | hb
 ·exact hb
 ·have : w.heap[a.block]? = none := Array.getElem?_eq_none hb
  split at h
  ·rename_i heq
   rw [this] at heq
   cases heq
  ·cases h
theorem Opens.slice {el : TypeId} {s by_ : Nat} {α : Type} {e : α -> Nat -> T} {ok : α -> Prop} (d : α) (O : Opens P el s e ok) (hu : P.underlying t = some (.slice el)) (hs : P.cellsOf t = 1) (hb : P.bytesOf el = by_) (h0 : by_ ≠ 0) (h1 : s ≠ 0) :
  Opens P t 1 (fun l _ => rows s d e l) (All by_ ok) :=
 ⟨hs, fun H enc w spare fuel cs x hx hw => by
  rcases DataW.trod_slice hu hx with ⟨rfl, -⟩ | ⟨a, len, cap, elems, rest, n, rfl, rfl, rfl, -, hlc, -, hel, hget, -, -⟩
  ·exact ⟨[], ⟨(by simp)    , fun a ha => by cases ha⟩, rfl, fun j hj => ⟨_, by obtain rfl : j = 0 := (by omega); rfl, none, 0, rfl, Nat.le_refl _, Nat.zero_le _, fun h => absurd h (Nat.lt_irrefl _)⟩⟩
  ·simp only [Wt, DataW.weights, hu, hb, List.all_cons, Bool.and_eq_true, decide_eq_true_eq, List.length_map, List.all_append] at hw
   obtain ⟨hw1, hw2, -⟩ := hw
   have hlen2 : len * by_ <= reachBytes := Nat.le_trans (Nat.mul_le_mul_right _ (by omega)) hw1
   have hlen : len <= LEN := by
    have : len * 1 <= (elems.length + rest.length) * by_ := Nat.mul_le_mul (by omega) (by omega)
    simp only [reachBytes] at hw1
    simp only [LEN]; omega
   have key : ∀ i, i < len -> ∃ b, ok b /\ ∀ j, j < s -> ∃ c, w.cell? ((a.add (i * s)).add j) = some c /\ Reads (Below' w) w (e b j) c := by
    intro i hi
    have hi' : i < elems.length := by omega
    have hg := hget i hi
    rw [List.getElem?_eq_getElem hi', O.sz, Option.bind_eq_some_iff] at hg
    obtain ⟨cs', hc, ht⟩ := hg
    obtain ⟨b, hob, hl, hr⟩ := O.out H enc w spare n cs' elems[i] ht (by
     unfold Wt
     rw [List.all_eq_true] at hw2 ⊢
     exact fun m hm => hw2 m (weightsAll_mem (List.mem_map.2 ⟨elems[i], List.getElem_mem hi', rfl⟩) m hm))
    refine ⟨b, hob, fun j hj => ?_⟩
    obtain ⟨c, hc1, hc2⟩ := hr j hj
    unfold World.cells? at hc
    split at hc
    ·have := mapM_some_get hc j j (by simp [hj])
     exact ⟨c, this.trans hc1, hc2⟩
    ·cases hc
   obtain ⟨l, hll, hlp⟩ := gatherL d len key
   have hj0 : ∀ j, j < 1 -> j = 0 := fun j hj => by omega
   refine ⟨l, ⟨by rw [hll]; exact hlen2, fun b hb => ?_⟩, rfl, fun j hj => ⟨.slice (some a) len cap, by rw [hj0 j hj]; rfl, some a, cap, by rw [hll], by omega, by omega, fun hn => ?_⟩⟩
   ·obtain ⟨i, hi, rfl⟩ := List.getElem_of_mem hb
    have := (hlp i (by omega)).1
    simpa [List.getD_eq_getElem?_getD, hi] using this
   ·obtain ⟨c0, hc0, _⟩ := (hlp 0 (by omega)).2 0 (by omega)
    have hsp : a.spot = none := by
     have := World.cell?_spot hc0
     simpa [Addr.add] using this
    have hbl : a.block < w.heap.size := by simpa [Addr.add] using cell_lt hc0
    obtain ⟨b, o, sp⟩ := a
    simp only at hsp hbl
    subst hsp
    refine ⟨b, o, rfl, hbl, fun i hi j hj => ?_⟩
    obtain ⟨c, hc1, hc2⟩ := (hlp i (by omega)).2 j hj
    refine ⟨c, ?_, hc2⟩
    rw [<- hc1]
    congr 1
    simp only [Addr.add]
    split <;> split <;> simp_all <;> omega⟩
theorem Opens.fld {fs : Array Field} (hu : P.underlying t = some (.struct fs)) {i : Nat} {f : Field} (hf : fs[i]? = some f) {off s : Nat} (ho : f.offset = off) {α : Type} {e : α -> Nat -> T} {ok : α -> Prop} (O : Opens P f.type s e ok)
  {H : Type} {enc : TypeId × Value -> H} {w : World} {spare : Nat -> Bool} {fuel : Nat} {cs : List Value} {x : DataW H × List MemPlace} (hx : DataW.trod enc P w 0 spare true fuel t cs = some x) (hw : Wt P t x.1) :
  ∃ a, ok a /\ ∀ j, j < s -> ∃ c, cs[off + j]? = some c /\ Reads (Below' w) w (e a j) c := by
 obtain ⟨xs, n, rfl, rfl, hl, hxl, hx⟩ := DataW.trod_struct hu hx
 have h := hx i f hf
 have hi : i < xs.length := by
  rw [hxl]
  exact (Array.getElem?_eq_some_iff.1 hf).1
 rw [List.getElem?_eq_getElem hi, O.sz, ho] at h
 obtain ⟨a, hok, hlen, hr⟩ := O.out H enc w spare n _ _ h (by
  simp only [Wt, DataW.weights, hu] at hw
  unfold Wt
  rw [List.all_eq_true] at hw ⊢
  exact fun m hm => hw m (DataW.weights_mem_each (j := i) (t := f.type) (d := xs[i].1) (by simp [hf]) (by simp [hi]) m hm))
 refine ⟨a, hok, fun j hj => ?_⟩
 obtain ⟨c, hc1, hc2⟩ := hr j hj
 refine ⟨c, ?_, hc2⟩
 rw [<- hc1, List.getElem?_take, if_pos (by omega), List.getElem?_drop]
theorem Opens.len {fs : Array Field} (hu : P.underlying t = some (.struct fs)) {H : Type} {enc : TypeId × Value -> H} {w : World} {spare : Nat -> Bool} {fuel : Nat} {cs : List Value} {x : DataW H × List MemPlace} (hx : DataW.trod enc P w 0 spare true fuel t cs = some x) :
  cs.length = P.cellsOf t := by
 obtain ⟨xs, n, rfl, rfl, hl, hxl, hx⟩ := DataW.trod_struct hu hx
 exact hl
theorem Opens.top {fs : Array Field} (hu : P.underlying t = some (.struct fs)) {n : Nat} {α : Type} {e : α -> Nat -> T} {ok : α -> Prop} (O : Opens P t n e ok)
  {H : Type} {enc : TypeId × Value -> H} {W : World} {spare : Nat -> Bool} {r : Reach} {base : Nat} {v : Value} {d : DataW H} {ps : List MemPlace}
  (hval : Value.okWide P W r base t v) (h : DataW.Trod enc P W 0 spare true t v d ps) (hw : Wt P t d) :
  ∃ a, ok a /\ VRel Heap.none noι (Below' W) W (.agg n (fun j => .t (e a j))) v := by
 simp only [Value.okWide, hu] at hval
 obtain ⟨cs, rfl, -, -⟩ := hval
 obtain ⟨fuel, hf⟩ := h
 obtain ⟨a, hok, hl, hr⟩ := O.out H enc W spare fuel _ _ hf hw
 refine ⟨a, hok, cs, rfl, by simpa [Value.cells] using hl, fun j hj => ?_⟩
 obtain ⟨c, hc1, hc2⟩ := hr j hj
 exact ⟨c, by simpa [Value.cells] using hc1, hc2.plain, hc2⟩
theorem Wt.at_ {H : Type} {ts : List TypeId} {ds : List (DataW H)} (h : (DataW.weightsEach P ts ds).all (· <= reachBytes) = true) {j : Nat} {d : DataW H} (ht : ts[j]? = some t) (hd : ds[j]? = some d) : Wt P t d := by
 unfold Wt
 rw [List.all_eq_true] at h ⊢
 exact fun m hm => h m (DataW.weights_mem_each ht hd m hm)
theorem PC.row {f : FuncId} {args : List V} {b : Bool} (h : PC P f args (.t (.bool b))) {W : World} {cargs : Array Value} (hl : args.length = cargs.size)
  (ha : ∀ j, j < args.length -> VRel Heap.none noι (Below' W) W (args.getD j .un) (cargs.getD j undef)) :
  Calls P f cargs W fun e W' => e = .returned (.bool b) /\ RowKit.Below W.heap.size W W' := by
 refine (h.out (Below' W) W cargs (fun _ h => h) hl ha).mono fun e W' ⟨cv, F', h1, h2, h3, h4, h5, h6, h7, h8, h9, h10⟩ => ?_
 have : cv = .bool b := h10
 subst this
 exact ⟨h1, h2, h3, h4, h5, h6⟩
def Inst.ok (x : Inst) : Prop := I64 x.op /\ I64 x.dest /\ All 8 I64 x.args /\ U64 x.num /\ I64 x.mem
def Edge.ok (x : Edge) : Prop := I64 x.block /\ All 8 I64 x.args
def Term.ok (x : Term) : Prop := I64 x.kind /\ I64 x.cond /\ All 32 Edge.ok x.to /\ All 8 I64 x.rets
def Block.ok (x : Block) : Prop := All 8 I64 x.params /\ All 56 Inst.ok x.insts /\ Term.ok x.term /\ I64 x.pipeline /\ I64 x.unroll /\ I64 x.line
def Arr.ok (x : Arr) : Prop := Strs x.name /\ I64 x.width /\ I64 x.len /\ I64 x.kind /\ I64 x.factor
def Strm.ok (x : Strm) : Prop := Strs x.name /\ I64 x.width /\ True
def Fn.ok (x : Fn) : Prop := Strs x.name /\ All 8 I64 x.widths /\ All 48 Arr.ok x.arrays /\ All 32 Strm.ok x.streams /\ All 8 I64 x.rets /\ All 136 Block.ok x.blocks
end Go.Abs
