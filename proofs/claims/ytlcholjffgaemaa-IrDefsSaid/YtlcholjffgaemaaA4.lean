/-
The rules of single operations over abstract states, part 2: new memory and writing.
No statement of the program is proved here.
-/
import Derived.Test.YtlcholjffgaemaaA3
set_option linter.unusedVariables false
set_option linter.unusedSimpArgs false
namespace Go.Abs
open Go

variable {P : Program} {Q : Exit → St → Prop} {st : St} {L : List GOp} {d : Option Tmp} {ty : TypeId}

def Heap.add (H : Heap) (o : AObj) : Heap := { next := H.next + 1, slot := fun i => bif Id.beq i ⟨H.next, []⟩ then .live o else H.slot i, lo := H.lo }
def Heap.set (H : Heap) (id : Id) (o : AObj) : Heap := { H with slot := fun i => bif Id.beq i id then .live o else H.slot i }
def upd (ι : Id → Option Nat) (id : Id) (b : Nat) : Id → Option Nat := fun i => if i = id then some b else ι i

theorem beq_if (i id : Id) (x y : Slot) : (bif Id.beq i id then x else y) = if i = id then x else y := by
  by_cases h : i = id
  · subst h; simp [Id.beq_refl]
  · have : Id.beq i id = false := by
      cases hb : Id.beq i id with
      | false => rfl
      | true => exact absurd (Id.beq_iff.1 hb) h
    simp [this, h]

/-- One object gets a block, new or its own, with new contents. -/
theorem RelH.step {E : Env} {ι : Id → Option Nat} {F : Nat → Prop} {H : Heap} {w : World} (r : RelH E ι F H w) (id : Id) (b : Nat) (o' : AObj) (cur' : Array Value) (w' : World) (H' : Heap)
    (hH : ∀ i, H'.slot i = if i = id then .live o' else H.slot i) (hn : ∀ i, H'.next ≤ i.k → i ≠ id ∧ H.next ≤ i.k) (hlo : H'.lo = H.lo)
    (hos : w'.os = w.os) (htape : w'.tape = w.tape) (hout : w'.output = w.output) (hsz : w.heap.size ≤ w'.heap.size) (hoth : ∀ k, k ≠ b → k < w.heap.size → w'.heap[k]? = w.heap[k]?)
    (hb' : w'.heap[b]? = some (.cells cur' o'.elem (0, 0)))
    (hfresh : b = w.heap.size ∨ (ι id = some b ∧ (H.slot id).is))
    (hlen : o'.n ≤ LEN) (hcs : o'.n * o'.sz ≤ cur'.size)
    (hcell : ∀ i, i < o'.n → ∀ j, j < o'.sz → ∃ c, cur'[i * o'.sz + j]? = some c ∧ c.oneCell' = true ∧ VRel H ι F w (o'.get i j) c)
    (hslot : match H.slot id with
      | .unborn => True
      | .live o => o.ver ≤ o'.ver ∧ (o.ver = o'.ver → o'.sz = o.sz ∧ o'.elem = o.elem ∧ o.n ≤ o'.n ∧ ι id = some b ∧ ∀ cur, w.heap[b]? = some (.cells cur o.elem (0, 0)) → cur'.size = cur.size)
      | _ => False) :
    RelH E (upd ι id b) F H' w' ∧ Ext H ι F w H' (upd ι id b) F w' := by
  have hbF : ¬ F b := by
    rcases hfresh with h | ⟨h1, h2⟩
    · intro hf; have := r.frlt b hf; omega
    · exact r.nofr id b h2 h1
  have hF : ∀ k, F k → w'.heap[k]? = w.heap[k]? := fun k hk => hoth k (fun e => hbF (e ▸ hk)) (r.frlt k hk)
  have hne : ∀ i k, i ≠ id → (H.slot i).is → ι i = some k → k ≠ b := by
    intro i k hi hl hk e
    subst e
    rcases hfresh with h | ⟨h1, h2⟩
    · have := r.lt i k hl hk; omega
    · exact hi (r.inj i id k hl h2 hk h1)
  have ho : ∀ i k, i ≠ id → (H.slot i).is → ι i = some k → w'.heap[k]? = w.heap[k]? := fun i k hi hl hk => hoth k (hne i k hi hl hk) (r.lt i k hl hk)
  have hx : Ext H ι F w H' (upd ι id b) F w' := by
    refine Ext.of (fun _ h => h) hF fun i => ?_
    unfold SlotOk
    by_cases hi : i = id
    · subst hi
      rw [hH, if_pos rfl]
      cases hs : H.slot i with
      | unborn => trivial
      | dead => rw [hs] at hslot; exact hslot.elim
      | mp _ _ => rw [hs] at hslot; exact hslot.elim
      | live o =>
        rw [hs] at hslot
        simp only at hslot ⊢
        refine .inr ⟨o', rfl, hslot.1, fun he => ?_⟩
        obtain ⟨k1, k2, k3, k4, k5⟩ := hslot.2 he
        refine ⟨k1, k2, k3, by simp [upd, k4], fun b0 cur hb0 hcur => ?_⟩
        have : b0 = b := by rw [k4] at hb0; exact (Option.some.inj hb0).symm
        subst this
        exact ⟨cur', by rw [← k2]; exact hb', k5 cur hcur⟩
    · rw [hH, if_neg hi]
      cases hs : H.slot i with
      | unborn => trivial
      | dead => rfl
      | mp s g => exact .inr ⟨⟨s, g, rfl⟩, by simp [upd, hi]⟩
      | live o =>
        refine .inr ⟨o, rfl, Nat.le_refl _, fun _ => ⟨rfl, rfl, Nat.le_refl _, by simp [upd, hi], fun b0 cur hb0 hcur => ⟨cur, ?_, rfl⟩⟩⟩
        rw [ho i b0 hi (by rw [hs]; trivial) hb0]; exact hcur
  have hid : (H'.slot id) = .live o' := by rw [hH, if_pos rfl]
  have hwas : ∀ i, i ≠ id → (H'.slot i).is → (H.slot i).is := fun i hi h => by rw [hH, if_neg hi] at h; exact h
  have hι : ∀ i, i ≠ id → upd ι id b i = ι i := fun i hi => by simp [upd, hi]
  have hιd : upd ι id b id = some b := by simp [upd]
  have hblt : b < w'.heap.size := (Array.getElem?_eq_some_iff.1 hb').1
  refine ⟨⟨hos.trans r.os, htape.trans r.tape, hout.trans r.output, Nat.le_trans r.size hsz, fun k hk hW => ?_, fun i o hi => ?_, fun i s g hi => ?_, fun i i' k hi hi' hk hk' => ?_, fun i k hi hk => ?_,
    fun i k hi hk => ?_, fun i k hi hk => ?_, fun k hk => Nat.lt_of_lt_of_le (r.frlt k hk) hsz, r.frin, fun i hi => ?_, r.ext.trans hx, by rw [hlo]; exact r.lo⟩, hx⟩
  · have hkb : k ≠ b := by
      intro e; subst e
      rcases hfresh with h | ⟨h1, h2⟩
      · have := r.size; omega
      · rcases r.own id k h2 h1 with h | h
        · exact hW h
        · omega
    rw [hoth k hkb (Nat.lt_of_lt_of_le hk r.size)]
    exact r.kept k hk hW
  · by_cases h : i = id
    · subst h
      rw [hid] at hi
      injection hi with hi
      subst hi
      refine ⟨hlen, ?_⟩
      rw [hιd]
      exact ⟨cur', hb', hcs, fun i hi j hj => by obtain ⟨c, a, b, d⟩ := hcell i hi j hj; exact ⟨c, a, b, hx _ _ d⟩⟩
    · rw [hH, if_neg h] at hi
      obtain ⟨h1, h2⟩ := r.obj i o hi
      refine ⟨h1, ?_⟩
      rw [hι i h]
      cases hk : ι i with
      | none => rw [hk] at h2; exact h2
      | some k =>
        rw [hk] at h2
        obtain ⟨cur, g1, g2, g3⟩ := h2
        exact ⟨cur, by rw [ho i k h (by rw [hi]; trivial) hk]; exact g1, g2, fun i hi j hj => by obtain ⟨c, a, b, d⟩ := g3 i hi j hj; exact ⟨c, a, b, hx _ _ d⟩⟩
  · have h : i ≠ id := fun e => by subst e; rw [hid] at hi; cases hi
    rw [hH, if_neg h] at hi
    obtain ⟨k, es, clock, g1, g2, g3, g4⟩ := r.mapo i s g hi
    refine ⟨k, es, clock, by rw [hι i h]; exact g1, by rw [ho i k h (by rw [hi]; trivial) g1]; exact g2, g3, fun key hkey => ?_⟩
    have := g4 key hkey
    cases hg : g key with
    | none => rw [hg] at this; exact this
    | some u => rw [hg] at this; obtain ⟨n, e, a, b, c⟩ := this; exact ⟨n, e, a, b, hx _ _ c⟩
  · by_cases h : i = id
    · by_cases h' : i' = id
      · exact h.trans h'.symm
      · subst h
        rw [hιd] at hk
        rw [hι i' h'] at hk'
        exact absurd (Option.some.inj hk).symm (hne i' k h' (hwas i' h' hi') hk')
    · by_cases h' : i' = id
      · subst h'
        rw [hιd] at hk'
        rw [hι i h] at hk
        exact absurd (Option.some.inj hk').symm (hne i k h (hwas i h hi) hk)
      · rw [hι i h] at hk
        rw [hι i' h'] at hk'
        exact r.inj i i' k (hwas i h hi) (hwas i' h' hi') hk hk'
  · by_cases h : i = id
    · subst h; rw [hιd] at hk; rw [← Option.some.inj hk]; exact hbF
    · rw [hι i h] at hk; exact r.nofr i k (hwas i h hi) hk
  · by_cases h : i = id
    · subst h; rw [hιd] at hk
      rw [← Option.some.inj hk]
      rcases hfresh with h | ⟨h1, h2⟩
      · right; rw [h]; exact r.size
      · exact r.own i b h2 h1
    · rw [hι i h] at hk; exact r.own i k (hwas i h hi) hk
  · by_cases h : i = id
    · subst h; rw [hιd] at hk; rw [← Option.some.inj hk]; exact hblt
    · rw [hι i h] at hk; exact Nat.lt_of_lt_of_le (r.lt i k (hwas i h hi) hk) hsz
  · obtain ⟨h1, h2⟩ := hn i hi
    rw [hH, if_neg h1]; exact r.next i h2

theorem RelH.same {E : Env} {ι : Id → Option Nat} {F : Nat → Prop} {H : Heap} {w w' : World} (r : RelH E ι F H w) (hos : w'.os = w.os) (htape : w'.tape = w.tape) (hout : w'.output = w.output) (hh : w'.heap = w.heap) :
    RelH E ι F H w' ∧ Ext H ι F w H ι F w' := by
  have hx : Ext H ι F w H ι F w' := Ext.of (fun _ h => h) (fun b _ => by rw [hh]) fun i => by
    unfold SlotOk
    cases hs : H.slot i with
    | unborn => trivial
    | dead => rfl
    | mp s g => exact .inr ⟨⟨s, g, rfl⟩, rfl⟩
    | live o => exact .inr ⟨o, rfl, Nat.le_refl _, fun _ => ⟨rfl, rfl, Nat.le_refl _, rfl, fun b cur hb hc => ⟨cur, by rw [hh]; exact hc, rfl⟩⟩⟩
  refine ⟨⟨hos.trans r.os, htape.trans r.tape, hout.trans r.output, by rw [hh]; exact r.size, fun k hk hW => by rw [hh]; exact r.kept k hk hW, fun i o hi => ?_, fun i s g hi => ?_, r.inj, r.nofr, r.own, fun i k hi hk => by rw [hh]; exact r.lt i k hi hk,
    fun k hk => by rw [hh]; exact r.frlt k hk, r.frin, r.next, r.ext.trans hx, r.lo⟩, hx⟩
  · obtain ⟨h1, h2⟩ := r.obj i o hi
    refine ⟨h1, ?_⟩
    cases hk : ι i with
    | none => rw [hk] at h2; exact h2
    | some k =>
      rw [hk] at h2
      obtain ⟨cur, g1, g2, g3⟩ := h2
      exact ⟨cur, by rw [hh]; exact g1, g2, fun i hi j hj => by obtain ⟨c, a, b, d⟩ := g3 i hi j hj; exact ⟨c, a, b, hx _ _ d⟩⟩
  · obtain ⟨k, es, clock, g1, g2, g3, g4⟩ := r.mapo i s g hi
    refine ⟨k, es, clock, g1, by rw [hh]; exact g2, g3, fun key hkey => ?_⟩
    have := g4 key hkey
    cases hg : g key with
    | none => rw [hg] at this; exact this
    | some u => rw [hg] at this; obtain ⟨n, e, a, b, c⟩ := this; exact ⟨n, e, a, b, hx _ _ c⟩

/-- A new object. -/
theorem RelH.alloc {E : Env} {ι : Id → Option Nat} {F : Nat → Prop} {H : Heap} {w : World} (r : RelH E ι F H w) (o : AObj) (cs : Array Value)
    (hlen : o.n ≤ LEN) (hcs : o.n * o.sz ≤ cs.size) (hcell : ∀ i, i < o.n → ∀ j, j < o.sz → ∃ c, cs[i * o.sz + j]? = some c ∧ c.oneCell' = true ∧ VRel H ι F w (o.get i j) c) :
    RelH E (upd ι ⟨H.next, []⟩ w.heap.size) F (H.add o) (w.alloc (.cells cs o.elem)) ∧ Ext H ι F w (H.add o) (upd ι ⟨H.next, []⟩ w.heap.size) F (w.alloc (.cells cs o.elem)) := by
  refine r.step ⟨H.next, []⟩ w.heap.size o cs _ _ (fun i => by simp only [Heap.add]; exact beq_if _ _ _ _) (fun i hi => ?_) rfl rfl rfl rfl (by simp) (fun k hk hlt => ?_) ?_ (.inl rfl) hlen hcs hcell ?_
  · simp only [Heap.add] at hi; exact ⟨fun e => by subst e; simp at hi; omega, by omega⟩
  · simp only [World.alloc, Array.getElem?_push]; rw [if_neg (by omega)]
  · show (w.heap.push _)[w.heap.size]? = _; simp
  · rw [r.next ⟨H.next, []⟩ (Nat.le_refl _)]; trivial

/-- The new object that a value of some cells makes. -/
def V.boxed (elem : TypeId) (s : Nat) (get : Nat → V) : AObj := { elem := elem, sz := s, ver := 0, n := 1, get := fun _ j => get j }

theorem upd_self (ι : Id → Option Nat) (id : Id) (b : Nat) : upd ι id b id = some b := by simp [upd]
theorem Heap.add_self (H : Heap) (o : AObj) : (H.add o).slot ⟨H.next, []⟩ = .live o := by simp [Heap.add, Id.beq_refl]

/-- A struct, or an array, is put into a variable of its own. -/
theorem SL.boxA {e : TypeId} {x : Operand} {s : Nat} {get : Nat → V} (hx : st.eval x = .agg s get)
    (hk : SL P L Q ((st.on (st.heap.add (V.boxed e s get))).put d (.ptr ⟨st.heap.next, []⟩ 0 0 0))) : SL P (⟨d, .box e x, ty, none⟩ :: L) Q st :=
  SL.value rfl fun E ι F a w r => by
    have hr := r.eval x
    rw [hx] at hr
    obtain ⟨cs, h1, h2, h3⟩ := hr
    obtain ⟨g1, g2⟩ := r.h.alloc (V.boxed e s get) cs (by simp [V.boxed, LEN]) (by simp [V.boxed, h2]) (fun i hi j hj => by
      have : i = 0 := by simp [V.boxed] at hi; exact hi
      subst this
      obtain ⟨c, a, b, d⟩ := h3 j hj
      exact ⟨c, by simpa using a, b, d⟩)
    refine ⟨_, _, _, F, _, .ptr ⟨st.heap.next, []⟩ 0 0 0, by simp only [execOp, GOp.oper, h1, Instr.box, newVar, newRow, Value.cells, Sem.run_bind, run_newObj, Result.andThen_ok, Sem.run_pure]; rfl, g1, g2, ⟨rfl, ?_⟩, hk⟩
    rw [Heap.add_self]
    exact ⟨Nat.le_refl _, fun _ => ⟨_, upd_self _ _ _, by simp⟩⟩

/-- A value of one cell is put into a variable of its own. -/
theorem SL.box1 {e : TypeId} {x : Operand} {u : V} (hx : st.eval x = u) (hp : u.one = true)
    (hk : SL P L Q ((st.on (st.heap.add (V.boxed e 1 (fun _ => u)))).put d (.ptr ⟨st.heap.next, []⟩ 0 0 0))) : SL P (⟨d, .box e x, ty, none⟩ :: L) Q st :=
  SL.value rfl fun E ι F a w r => by
    have hr := r.eval x
    rw [hx] at hr
    have h1 : (a.eval x).cells = #[a.eval x] := by
      have := V.one_plain hp hr
      cases hv : a.eval x <;> rw [hv] at this <;> first | rfl | (simp [Value.oneCell'] at this)
    obtain ⟨g1, g2⟩ := r.h.alloc (V.boxed e 1 (fun _ => u)) #[a.eval x] (by simp [V.boxed, LEN]) (by simp [V.boxed]) (fun i hi j hj => by
      have : i = 0 := by simp [V.boxed] at hi; exact hi
      subst this
      have : j = 0 := by simp [V.boxed] at hj; exact hj
      subst this
      exact ⟨a.eval x, by simp, V.one_plain hp hr, hr⟩)
    refine ⟨_, _, _, F, _, .ptr ⟨st.heap.next, []⟩ 0 0 0, by simp only [execOp, GOp.oper, Instr.box, newVar, newRow, h1, Sem.run_bind, run_newObj, Result.andThen_ok, Sem.run_pure]; rfl, g1, g2, ⟨rfl, ?_⟩, hk⟩
    rw [Heap.add_self]
    exact ⟨Nat.le_refl _, fun _ => ⟨_, upd_self _ _ _, by simp⟩⟩

theorem zero_run {t : TypeId} {v : Value} [h : TyZero P t v] (w : World) : (zeroValue t).run P w = .ok v w := by
  have hz := h.z
  cases hq : P.info? t with
  | none => simp [hq] at hz
  | some i => simp [hq] at hz; simp [zeroValue, typeInfo, hq, hz]

/-- A new variable of a type. -/
theorem SL.alloc {e : TypeId} {z : Value} [h : TyZero P e z] (hk : SL P L Q ((st.on (st.heap.add (V.boxed e z.cells.size (fun j => V.cell (z.cells.getD j undef))))).put d (.ptr ⟨st.heap.next, []⟩ 0 0 0))) :
    SL P (⟨d, .alloc e, ty, none⟩ :: L) Q st :=
  SL.value rfl fun E ι F a w r => by
    obtain ⟨g1, g2⟩ := r.h.alloc (V.boxed e z.cells.size (fun j => V.cell (z.cells.getD j undef))) z.cells (by simp [V.boxed, LEN]) (by simp [V.boxed]) (fun i hi j hj => by
      have : i = 0 := by simp [V.boxed] at hi; exact hi
      subst this
      have hj' : j < z.cells.size := hj
      refine ⟨z.cells[j], by simp, Array.all_eq_true_iff_forall_mem.1 h.c _ (Array.getElem_mem hj'), ?_⟩
      have e : z.cells.getD j undef = z.cells[j] := by simp [Array.getD, hj']
      show VRel _ _ _ _ (V.cell (z.cells.getD j undef)) _
      rw [e]; exact V.cell_rel _ _ _ _ _)
    refine ⟨_, _, _, F, _, .ptr ⟨st.heap.next, []⟩ 0 0 0, by simp only [execOp, GOp.oper, Instr.alloc, zero_run (P := P) (t := e), newVar, newRow, Sem.run_bind, run_newObj, Result.andThen_ok, Sem.run_pure]; rfl, g1, g2, ⟨rfl, ?_⟩, hk⟩
    rw [Heap.add_self]
    exact ⟨Nat.le_refl _, fun _ => ⟨_, upd_self _ _ _, by simp⟩⟩

/-! ### Stores -/
def setArr (cur : Array Value) (o : Nat) : List Value → Array Value
  | [] => cur
  | v :: r => setArr (cur.setIfInBounds o v) (o + 1) r

theorem setArr_size (cur : Array Value) (o : Nat) (vs : List Value) : (setArr cur o vs).size = cur.size := by
  induction vs generalizing cur o with
  | nil => rfl
  | cons v r ih => simp [setArr, ih]

theorem setArr_get (cur : Array Value) (o : Nat) (vs : List Value) (h : o + vs.length ≤ cur.size) (j : Nat) :
    (setArr cur o vs)[j]? = if o ≤ j ∧ j < o + vs.length then vs[j - o]? else cur[j]? := by
  induction vs generalizing cur o with
  | nil => simp [setArr]; intro h1 h2; omega
  | cons v r ih =>
    simp only [List.length_cons] at h
    rw [setArr, ih _ _ (by simp; omega)]
    by_cases hj : o = j
    · subst hj
      rw [if_neg (by omega), if_pos (by simp)]
      simp [show o < cur.size by omega]
    · by_cases h1 : o + 1 ≤ j ∧ j < o + 1 + r.length
      · rw [if_pos h1, if_pos (by simp; omega)]
        rw [show j - o = (j - (o + 1)) + 1 by omega, List.getElem?_cons_succ]
      · rw [if_neg h1, if_neg (by simp; omega), Array.getElem?_setIfInBounds_ne hj]

theorem setCells_heap {b : Nat} {e : TypeId} (vs : List Value) : ∀ (o : Nat) (w : World) (cur : Array Value), w.heap[b]? = some (.cells cur e (0, 0)) →
    (w.setCells b o vs).heap[b]? = some (.cells (setArr cur o vs) e (0, 0)) := by
  induction vs with
  | nil => exact fun o w cur h => h
  | cons v r ih =>
    intro o w cur h
    rw [World.setCells, setArr]
    refine ih (o + 1) _ _ ?_
    simp [World.setCell, Array.getElem?_modify, h]

theorem setCells_other {b k : Nat} (hk : k ≠ b) (vs : List Value) : ∀ (o : Nat) (w : World), (w.setCells b o vs).heap[k]? = w.heap[k]? := by
  induction vs with
  | nil => exact fun o w => rfl
  | cons v r ih =>
    intro o w
    rw [World.setCells, ih]
    simp only [World.setCell, Array.getElem?_modify]
    rw [if_neg (fun e => hk e.symm)]

theorem setCells_rest {b : Nat} (vs : List Value) : ∀ (o : Nat) (w : World), (w.setCells b o vs).os = w.os ∧ (w.setCells b o vs).tape = w.tape ∧ (w.setCells b o vs).output = w.output ∧ (w.setCells b o vs).heap.size = w.heap.size := by
  induction vs with
  | nil => exact fun o w => ⟨rfl, rfl, rfl, rfl⟩
  | cons v r ih =>
    intro o w
    obtain ⟨h1, h2, h3, h4⟩ := ih (o + 1) (w.setCell ⟨b, o, none⟩ v)
    exact ⟨h1, h2, h3, by rw [World.setCells, h4]; simp⟩

/-- Some cells of a row get new values. -/
def AObj.put (o : AObj) (r c s : Nat) (get : Nat → V) : AObj :=
  { o with get := fun i j => bif Nat.beq i r && (Nat.ble c j && Nat.blt j (c + s)) then get (j - c) else o.get i j }
/-- One cell gets a new value. -/
def AObj.put1 (o : AObj) (r c : Nat) (u : V) : AObj := { o with get := fun i j => bif Nat.beq i r && Nat.beq j c then u else o.get i j }

theorem store_run {t : TypeId} {agg : Bool} {s : Nat} [TySz P t agg s] {w : World} {b o : Nat} {v : Value} {cs : List Value} {cur : Array Value} {e : TypeId} (hv : v.cells.toList = cs) (hl : cs.length = s)
    (hb : w.heap[b]? = some (.cells cur e (0, 0))) (hfit : o + s ≤ cur.size) (h1 : ∀ u ∈ cs, u.oneCell' = true) :
    (Instr.storeAt t (.pointer (some ⟨b, o, none⟩)) v).run P w = .ok () (w.setCells b o cs) := by
  have hst := run_storeCells_cells (P := P) b o cs 0 w (fun j hj => by simp [World.cell?, hb]; omega) (fun j hj => by simp [World.frozen?, hb]) h1
  have hsz : v.cells.size = s := by rw [← hl, ← hv]; simp
  have hcs : v.cells.toList = cs := hv
  simp only [Nat.add_zero] at hst
  simp [Instr.storeAt, Instr.sureAddr, storeVar, sizeOf_run (P := P) (t := t), hsz, hcs, hst]

/-- The law of a store: some cells of a row of an object of the state's own. -/
theorem RelH.store {E : Env} {ι : Id → Option Nat} {F : Nat → Prop} {H : Heap} {w : World} (r : RelH E ι F H w) {id : Id} {b rr c s : Nat} {o : AObj} (ho : H.slot id = .live o) (hb : ι id = some b)
    (hr : rr < o.n) (hc : c + s ≤ o.sz) (o' : AObj) (he : o'.elem = o.elem) (hz : o'.sz = o.sz) (hv : o'.ver = o.ver) (hn : o'.n = o.n) (cs : List Value) (hl : cs.length = s) (h1 : ∀ u ∈ cs, u.oneCell' = true)
    (hget : ∀ i, i < o.n → ∀ j, j < o.sz → (¬ (i = rr ∧ c ≤ j ∧ j < c + s) ∧ o'.get i j = o.get i j) ∨ (i = rr ∧ c ≤ j ∧ j < c + s ∧ ∃ v, cs[j - c]? = some v ∧ VRel H ι F w (o'.get i j) v)) :
    ∃ ι', RelH E ι' F (H.set id o') (w.setCells b (rr * o.sz + c) cs) ∧ Ext H ι F w (H.set id o') ι' F (w.setCells b (rr * o.sz + c) cs) := by
  obtain ⟨cur, hh, hcs, hcell⟩ := obj_cells r ho hb
  obtain ⟨k1, k2, k3, k4⟩ := setCells_rest (b := b) cs (rr * o.sz + c) w
  have hrow : rr * o.sz + o.sz ≤ o.n * o.sz := by rw [← Nat.succ_mul]; exact Nat.mul_le_mul_right _ hr
  have hfit : rr * o.sz + c + cs.length ≤ cur.size := by omega
  refine ⟨upd ι id b, r.step id b o' (setArr cur (rr * o.sz + c) cs) _ _ (fun i => by simp only [Heap.set]; exact beq_if _ _ _ _) (fun i hi => ⟨fun e => ?_, hi⟩) rfl k1 k2 k3 (by omega) (fun k hk _ => setCells_other hk _ _ _)
    (by rw [he]; exact setCells_heap cs _ w cur hh) (.inr ⟨hb, by rw [ho]; trivial⟩) (by rw [hn]; exact (r.obj id o ho).1) (by rw [hn, hz, setArr_size]; exact hcs) (fun i hi j hj => ?_) ?_⟩
  · subst e
    have := r.next i hi
    rw [ho] at this; cases this
  · rw [hn] at hi
    rw [hz] at hj ⊢
    have hlin : ∀ (x y : Nat), x < o.n → y < o.sz → (rr * o.sz + c ≤ x * o.sz + y ∧ x * o.sz + y < rr * o.sz + c + cs.length ↔ x = rr ∧ c ≤ y ∧ y < c + s) := by
      intro x y hx hy
      constructor
      · rintro ⟨p1, p2⟩
        have : x = rr := by
          rcases Nat.lt_trichotomy x rr with h | h | h
          · exfalso
            have : (x + 1) * o.sz ≤ rr * o.sz := Nat.mul_le_mul_right _ h
            rw [Nat.succ_mul] at this; omega
          · exact h
          · exfalso
            have : (rr + 1) * o.sz ≤ x * o.sz := Nat.mul_le_mul_right _ h
            rw [Nat.succ_mul] at this; omega
        subst this
        omega
      · rintro ⟨rfl, p2, p3⟩; omega
    rw [setArr_get _ _ _ hfit]
    rcases hget i hi j hj with ⟨p1, p2⟩ | ⟨p1, p2, p3, v, p4, p5⟩
    · rw [if_neg (fun h => p1 ((hlin i j hi hj).1 h)), p2]
      obtain ⟨u, q1, q2, q3, q4⟩ := hcell i hi j hj
      exact ⟨u, q2, q3, q4⟩
    · rw [if_pos ((hlin i j hi hj).2 ⟨p1, p2, p3⟩)]
      subst p1
      exact ⟨v, by rw [show i * o.sz + j - (i * o.sz + c) = j - c by omega]; exact p4, h1 v (List.mem_of_getElem? p4), p5⟩
  · rw [ho]
    exact ⟨by omega, fun _ => ⟨hz, he, by omega, hb, fun cur0 hc0 => by
      rw [hh] at hc0
      injection hc0 with hc0
      injection hc0 with hc0
      subst hc0
      exact setArr_size _ _ _⟩⟩

theorem SL.skip {g : GOp} (hg : g.g = none) (h : ∀ E ι F a w, Rel E ι F st a w → ∃ w' ι' F' H', (execOp a.eval g.oper).run P w = .ok .skip w' ∧
      RelH E ι' F' H' w' ∧ Ext st.heap ι F w H' ι' F' w' ∧ SL P L Q ((st.on H').put g.dst .un)) : SL P (g :: L) Q st :=
  ⟨fun E ι F a w r => by
    obtain ⟨w', ι', F', H', h1, h2, h3, h5⟩ := h E ι F a w r
    have hw : g.wanted a.tmps = true := by unfold GOp.wanted; rw [hg]
    simp only [lwp, hw, if_true, Oper.wp, h1, Oper.upon]
    exact h5.out E ι' F' _ _ (r.put h2 h3 g.dst (u := .un) (v := undef) trivial)⟩

/-- A store of one cell. -/
theorem SL.store1 {t : TypeId} [TySz P t false 1] {x y : Operand} {id : Id} {ver rr c : Nat} {o : AObj} {u : V} (hx : st.eval x = .ptr id ver rr c) (ho : st.heap.slot id = .live o) (hv : ver = o.ver)
    (hr : rr < o.n) (hc : c < o.sz) (hy : st.eval y = u) (hp : u.one = true)
    (hk : SL P L Q ((st.on (st.heap.set id (o.put1 rr c u))).put d .un)) : SL P (⟨d, .store t x y, ty, none⟩ :: L) Q st :=
  SL.skip rfl fun E ι F a w r => by
    obtain ⟨b, hb, he⟩ := live_ptr r hx ho hv
    have hy' := r.eval y
    rw [hy] at hy'
    have h1 := V.one_plain hp hy'
    have hcl : (a.eval y).cells.toList = [a.eval y] := by
      cases hv : a.eval y <;> rw [hv] at h1 <;> first | rfl | (simp [Value.oneCell'] at h1)
    obtain ⟨cur, hh, hcs, hcell⟩ := obj_cells r.h ho hb
    have hrow : rr * o.sz + o.sz ≤ o.n * o.sz := by rw [← Nat.succ_mul]; exact Nat.mul_le_mul_right _ hr
    have hrun := store_run (P := P) (t := t) (w := w) (b := b) (o := rr * o.sz + c) (cs := [a.eval y]) hcl rfl hh (by omega) (by simpa using h1)
    obtain ⟨ι', g1, g2⟩ := r.h.store ho hb hr (c := c) (s := 1) (by omega) (o.put1 rr c u) rfl rfl rfl rfl [a.eval y] rfl (by simpa using h1) (fun i hi j hj => by
      by_cases h : i = rr ∧ j = c
      · obtain ⟨rfl, rfl⟩ := h
        exact .inr ⟨rfl, Nat.le_refl _, by omega, a.eval y, by simp, by simp only [AObj.put1, Nat.beq_refl, Bool.and_self, cond_true]; exact hy'⟩
      · refine .inl ⟨by omega, ?_⟩
        have : (Nat.beq i rr && Nat.beq j c) = false := by
          rw [Bool.and_eq_false_iff]
          by_cases hi : i = rr
          · right
            cases hb : Nat.beq j c with
            | false => rfl
            | true => exact absurd ⟨hi, Nat.eq_of_beq_eq_true hb⟩ h
          · left
            cases hb : Nat.beq i rr with
            | false => rfl
            | true => exact absurd (Nat.eq_of_beq_eq_true hb) hi
        simp only [AObj.put1, this, cond_false])
    exact ⟨_, ι', F, _, by simp only [execOp, GOp.oper, he, Sem.run_bind, hrun, Result.andThen_ok]; rfl, g1, g2, hk⟩

/-- A store of a whole struct, or array. -/
theorem SL.storeA {t : TypeId} {s : Nat} [TySz P t true s] {x y : Operand} {id : Id} {ver rr c : Nat} {o : AObj} {get : Nat → V} (hx : st.eval x = .ptr id ver rr c) (ho : st.heap.slot id = .live o) (hv : ver = o.ver)
    (hr : rr < o.n) (hc : c + s ≤ o.sz) (hy : st.eval y = .agg s get)
    (hk : SL P L Q ((st.on (st.heap.set id (o.put rr c s get))).put d .un)) : SL P (⟨d, .store t x y, ty, none⟩ :: L) Q st :=
  SL.skip rfl fun E ι F a w r => by
    obtain ⟨b, hb, he⟩ := live_ptr r hx ho hv
    have hy' := r.eval y
    rw [hy] at hy'
    obtain ⟨cs, e1, e2, e3⟩ := hy'
    have h1 : ∀ u ∈ cs.toList, u.oneCell' = true := fun u hu => by
      obtain ⟨j, hj, hju⟩ := List.getElem_of_mem hu
      have hj' : j < s := by simpa [e2] using hj
      obtain ⟨c, q1, q2, q3⟩ := e3 j hj'
      have : c = u := by
        have q1' : cs.toList[j]? = some c := by simpa using q1
        rw [List.getElem?_eq_getElem hj, hju] at q1'
        exact (Option.some.inj q1').symm
      rw [← this]; exact q2
    obtain ⟨cur, hh, hcs, hcell⟩ := obj_cells r.h ho hb
    have hrow : rr * o.sz + o.sz ≤ o.n * o.sz := by rw [← Nat.succ_mul]; exact Nat.mul_le_mul_right _ hr
    have hrun := store_run (P := P) (t := t) (w := w) (b := b) (o := rr * o.sz + c) (v := a.eval y) (cs := cs.toList) (by rw [e1]; rfl) (by simpa using e2) hh (by omega) h1
    obtain ⟨ι', g1, g2⟩ := r.h.store ho hb hr (c := c) (s := s) hc (o.put rr c s get) rfl rfl rfl rfl cs.toList (by simpa using e2) h1 (fun i hi j hj => by
      by_cases h : i = rr ∧ c ≤ j ∧ j < c + s
      · obtain ⟨rfl, p2, p3⟩ := h
        obtain ⟨v, q1, q2, q3⟩ := e3 (j - c) (by omega)
        refine .inr ⟨rfl, p2, p3, v, by simpa using q1, ?_⟩
        have : (Nat.beq i i && (Nat.ble c j && Nat.blt j (c + s))) = true := by
          simp [Nat.ble_eq, p2, Nat.blt_eq, p3]
        simp only [AObj.put, this, cond_true]; exact q3
      · refine .inl ⟨h, ?_⟩
        have : (Nat.beq i rr && (Nat.ble c j && Nat.blt j (c + s))) = false := by
          cases hb : (Nat.beq i rr && (Nat.ble c j && Nat.blt j (c + s))) with
          | false => rfl
          | true =>
            simp only [Bool.and_eq_true] at hb
            exact absurd ⟨Nat.eq_of_beq_eq_true hb.1, Nat.le_of_ble_eq_true hb.2.1, Nat.le_of_ble_eq_true hb.2.2⟩ h
        simp only [AObj.put, this, cond_false])
    exact ⟨_, ι', F, _, by simp only [execOp, GOp.oper, he, Sem.run_bind, hrun, Result.andThen_ok]; rfl, g1, g2, hk⟩

end Go.Abs
