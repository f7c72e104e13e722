/-
Rules over abstract states, more: memory told anew (at a loop's head), built slices, stores of whole objects, min and max, strings.
No statement of the program is proved here.
-/
import Derived.Test.YtlcholjffgaemaaA8
import Derived.Laws.Small
import Derived.BigFrame
set_option linter.unusedVariables false
set_option linter.unusedSimpArgs false
namespace Go.Abs
open Go

variable {P : Program} {Q : Exit → St → Prop} {st : St} {L : List GOp} {d : Option Tmp} {ty : TypeId} {K : St → Prop}

/-! ### Memory told anew -/
/-- What the first value was in the first memory the second is in the second. -/
def Keeps (H H' : Heap) (u u' : V) : Prop := ∀ ι F w v, VRel H ι F w u v → VRel H' ι F w u' v

theorem Keeps.un {H H' : Heap} {u : V} : Keeps H H' u .un := fun _ _ _ _ _ => trivial
theorem Keeps.und {H H' : Heap} : Keeps H H' .und .und := fun _ _ _ _ h => h
theorem Keeps.t {H H' : Heap} (x : T) : Keeps H H' (.t x) (.t x) := fun _ _ _ _ h => h
theorem Keeps.nils {H H' : Heap} : Keeps H H' .nils .nils := fun _ _ _ _ h => h
theorem Keeps.nilp {H H' : Heap} : Keeps H H' .nilp .nilp := fun _ _ _ _ h => h
theorem Keeps.nilm {H H' : Heap} : Keeps H H' .nilm .nilm := fun _ _ _ _ h => h
theorem Keeps.fp {H H' : Heap} {m : Nat} {g : Nat → T} : Keeps H H' (.fp m g) (.fp m g) := fun _ _ _ _ h => h
theorem Keeps.agg {H H' : Heap} {n : Nat} {g g' : Nat → V} (h : ∀ j, j < n → Keeps H H' (g j) (g' j)) : Keeps H H' (.agg n g) (.agg n g') := fun ι F w v ⟨cs, h1, h2, h3⟩ =>
  ⟨cs, h1, h2, fun j hj => by obtain ⟨c, a, b, e⟩ := h3 j hj; exact ⟨c, a, b, h j hj _ _ _ _ e⟩⟩
theorem Keeps.ptr {H H' : Heap} {id : Id} {ver ver' r c : Nat} {o o' : AObj} (h : H.slot id = .live o) (h' : H'.slot id = .live o') (hv : ver = o.ver) (hv' : ver' = o'.ver) (hz : o'.sz = o.sz) :
    Keeps H H' (.ptr id ver r c) (.ptr id ver' r c) := fun ι F w v ⟨h0, h1⟩ => by
  rw [h] at h1
  refine ⟨h0, ?_⟩
  rw [h']
  exact ⟨Nat.le_of_eq hv', fun _ => by rw [hz]; exact h1.2 hv⟩
theorem Keeps.sref {H H' : Heap} {id : Id} {ver ver' r len : Nat} {o o' : AObj} (h : H.slot id = .live o) (h' : H'.slot id = .live o') (hv : ver = o.ver) (hv' : ver' = o'.ver) (hz : o'.sz = o.sz) (he : o'.elem = o.elem) (hn : o'.n = o.n) :
    Keeps H H' (.sref id ver r len) (.sref id ver' r len) := fun ι F w v ⟨h0, h1⟩ => by
  rw [h] at h1
  refine ⟨h0, ?_⟩
  rw [h']
  refine ⟨Nat.le_of_eq hv', fun _ => ?_⟩
  rw [hz, he, hn]; exact h1.2 hv
/-- Where the length is told in other words. -/
theorem Keeps.srefN {H H' : Heap} {id : Id} {ver ver' r len len' : Nat} {o o' : AObj} (h : H.slot id = .live o) (h' : H'.slot id = .live o') (hv : ver = o.ver) (hv' : ver' = o'.ver) (hz : o'.sz = o.sz) (he : o'.elem = o.elem) (hn : o'.n = o.n) (hl : len = len') :
    Keeps H H' (.sref id ver r len) (.sref id ver' r len') := hl ▸ Keeps.sref h h' hv hv' hz he hn

def SlotLike : Slot → Slot → Prop
  | _, .dead => True
  | .live o, .live o' => o'.ver = o.ver ∧ o'.elem = o.elem ∧ o'.sz = o.sz ∧ o'.n = o.n
  | .mp _ _, .mp _ _ => True
  | _, _ => False

def Objs (H T H' : Heap) : Prop :=
  (∀ id o', H'.slot id = .live o' → ∃ o, H.slot id = .live o ∧ o'.elem = o.elem ∧ o'.sz = o.sz ∧ o'.n = o.n ∧ ∀ i, i < o.n → ∀ j, j < o.sz → Keeps H T (o.get i j) (o'.get i j)) ∧
  (∀ id s g, H'.slot id = .mp s g → ∃ g', H.slot id = .mp s g' ∧ ∀ k, (g' k = none ∧ g k = none) ∨ ∃ u u', g' k = some u ∧ g k = some u' ∧ Keeps H T u u')
def Nx (H : Heap) : Prop := ∀ id : Id, H.next ≤ id.k → H.slot id = .unborn

structure Re (H H' : Heap) : Prop where
  lo : H'.lo = H.lo
  next : Nx H'
  low : ∀ id : Id, id.k < H.lo → id.p = [] → SlotLike (H.slot id) (H'.slot id)
  obj : Objs H H' H'

theorem Re.ext {E : Env} {ι : Id → Option Nat} {F : Nat → Prop} {H H' : Heap} {w : World} (r : RelH E ι F H w) (k : Re H H') : Ext E.H0 E.ι0 E.F0 E.w0 H' ι F w := by
  have key : ∀ u v, VRel E.H0 E.ι0 E.F0 E.w0 u v → VRel H ι F w u v → VRel H' ι F w u v := by
    have low : ∀ id, E.H0.slot id ≠ .unborn → SlotLike (H.slot id) (H'.slot id) := fun id h => k.low id (Nat.lt_of_not_le fun hle => h (r.lo id (.inl hle))) (Classical.byContradiction fun hp => h (r.lo id (.inr hp)))
    intro u
    induction u with
    | ptr id ver rr c =>
      rintro v ⟨_, h0⟩ ⟨h1, h2⟩
      have hl := low id (fun e => by rw [e] at h0; exact h0)
      refine ⟨h1, ?_⟩
      cases hs' : H'.slot id with
      | dead => trivial
      | unborn => rw [hs'] at hl; cases hs : H.slot id <;> rw [hs] at hl <;> exact hl.elim
      | mp s g => trivial
      | live o' =>
        rw [hs'] at hl
        cases hs : H.slot id with
        | live o =>
          rw [hs] at hl h2
          obtain ⟨a, b, c, d⟩ := hl
          simp only at h2 ⊢
          rw [a, c]; exact h2
        | unborn => rw [hs] at hl; exact hl.elim
        | dead => rw [hs] at hl; exact hl.elim
        | mp _ _ => rw [hs] at hl; exact hl.elim
    | sref id ver rr len =>
      rintro v ⟨_, h0⟩ ⟨h1, h2⟩
      have hl := low id (fun e => by rw [e] at h0; exact h0)
      refine ⟨h1, ?_⟩
      cases hs' : H'.slot id with
      | dead => trivial
      | unborn => rw [hs'] at hl; cases hs : H.slot id <;> rw [hs] at hl <;> exact hl.elim
      | mp s g => trivial
      | live o' =>
        rw [hs'] at hl
        cases hs : H.slot id with
        | live o =>
          rw [hs] at hl h2
          obtain ⟨a, b, c, d⟩ := hl
          simp only at h2 ⊢
          rw [a, b, c, d]; exact h2
        | unborn => rw [hs] at hl; exact hl.elim
        | dead => rw [hs] at hl; exact hl.elim
        | mp _ _ => rw [hs] at hl; exact hl.elim
    | mref id =>
      rintro v ⟨_, h0⟩ ⟨h1, h2⟩
      have hl := low id (fun e => by rw [e] at h0; exact h0)
      refine ⟨h1, ?_⟩
      cases hs' : H'.slot id with
      | dead => trivial
      | unborn => rw [hs'] at hl; cases hs : H.slot id <;> rw [hs] at hl <;> exact hl.elim
      | live o' => trivial
      | mp s g =>
        rw [hs'] at hl
        cases hs : H.slot id with
        | mp _ _ => rw [hs] at h2; exact h2
        | unborn => rw [hs] at hl; exact hl.elim
        | dead => rw [hs] at hl; exact hl.elim
        | live _ => rw [hs] at hl; exact hl.elim
    | fn f n cap ih =>
      rintro v ⟨cs, h1, h2, h3⟩ ⟨cs', h1', h2', h3'⟩
      rw [h1] at h1'
      injection h1' with _ _ h1'; subst h1'
      refine ⟨cs, h1, h2, fun j hj => ?_⟩
      obtain ⟨c, a, b⟩ := h3 j hj
      obtain ⟨c', a', b'⟩ := h3' j hj
      rw [a] at a'; injection a' with a'; subst a'
      exact ⟨c, a, ih j _ b b'⟩
    | agg n get ih =>
      rintro v ⟨cs, h1, h2, h3⟩ ⟨cs', h1', h2', h3'⟩
      rw [h1] at h1'
      injection h1' with h1'; subst h1'
      refine ⟨cs, h1, h2, fun j hj => ?_⟩
      obtain ⟨c, a, p, b⟩ := h3 j hj
      obtain ⟨c', a', p', b'⟩ := h3' j hj
      rw [a] at a'; injection a' with a'; subst a'
      exact ⟨c, a, p, ih j _ b b'⟩
    | tup n get ih =>
      rintro v ⟨cs, h1, h2, h3⟩ ⟨cs', h1', h2', h3'⟩
      rw [h1] at h1'
      injection h1' with h1'; subst h1'
      refine ⟨cs, h1, h2, fun j hj => ?_⟩
      obtain ⟨c, a, b⟩ := h3 j hj
      obtain ⟨c', a', b'⟩ := h3' j hj
      rw [a] at a'; injection a' with a'; subst a'
      exact ⟨c, a, ih j _ b b'⟩
    | un => exact fun _ _ _ => trivial
    | und => exact fun _ _ h => h
    | t x => exact fun _ _ h => h
    | nils => exact fun _ _ h => h
    | nilp => exact fun _ _ h => h
    | nilm => exact fun _ _ h => h
    | nilf => exact fun _ _ h => h
    | fp m g => exact fun _ _ h => h
  exact fun u v h => key u v h (r.ext u v h)

theorem Re.rel {E : Env} {ι : Id → Option Nat} {F : Nat → Prop} {H H' : Heap} {w : World} (r : RelH E ι F H w) (k : Re H H') : RelH E ι F H' w := by
  have is : ∀ id, (H'.slot id).is → (H.slot id).is := fun id h => by
    cases hs : H'.slot id with
    | live o' => obtain ⟨o, ho, _⟩ := k.obj.1 id o' hs; rw [ho]; trivial
    | mp s g => obtain ⟨g', ho, _⟩ := k.obj.2 id s g hs; rw [ho]; trivial
    | unborn => rw [hs] at h; exact h.elim
    | dead => rw [hs] at h; exact h.elim
  refine ⟨r.os, r.tape, r.output, r.size, r.kept, fun id o' h => ?_, fun id s g h => ?_, fun id id' b h h' => r.inj id id' b (is id h) (is id' h'), fun id b h => r.nofr id b (is id h), fun id b h => r.own id b (is id h), fun id b h => r.lt id b (is id h), r.frlt, r.frin, k.next, Re.ext r k, by rw [k.lo]; exact r.lo⟩
  · obtain ⟨o, ho, he, hz, hn, hg⟩ := k.obj.1 id o' h
    obtain ⟨h1, h2⟩ := r.obj id o ho
    refine ⟨by rw [hn]; exact h1, ?_⟩
    cases hk : ι id with
    | none => rw [hk] at h2; simp only at h2 ⊢; rw [hn]; exact h2
    | some b =>
      rw [hk] at h2
      obtain ⟨cur, g1, g2, g3⟩ := h2
      simp only
      rw [he, hz, hn]
      exact ⟨cur, g1, g2, fun i hi j hj => by obtain ⟨c, a, b, d⟩ := g3 i hi j hj; exact ⟨c, a, b, hg i hi j hj _ _ _ _ d⟩⟩
  · obtain ⟨g', hg, hk⟩ := k.obj.2 id s g h
    obtain ⟨b, es, clock, g1, g2, g3, g4⟩ := r.mapo id s g' hg
    refine ⟨b, es, clock, g1, g2, g3, fun key hkey => ?_⟩
    have := g4 key hkey
    rcases hk key with ⟨e1, e2⟩ | ⟨u, u', e1, e2, e3⟩
    · rw [e1] at this; rw [e2]; exact this
    · rw [e1] at this; rw [e2]
      obtain ⟨n, e, a, b, c⟩ := this
      exact ⟨n, e, a, b, e3 _ _ _ _ c⟩

def AllKeeps (st : St) (H' : Heap) : List (Nat × V) → Prop
  | [] => True
  | (t, v) :: l => Keeps st.heap H' (st.env t) v ∧ AllKeeps st H' l
theorem AllKeeps.n {st : St} {H' : Heap} : AllKeeps st H' [] := trivial
theorem AllKeeps.c {st : St} {H' : Heap} {t : Nat} {v : V} {l : List (Nat × V)} (h : Keeps st.heap H' (st.env t) v) (k : AllKeeps st H' l) : AllKeeps st H' ((t, v) :: l) := ⟨h, k⟩
theorem AllKeeps.at_ {st : St} {H' : Heap} : ∀ {l : List (Nat × V)}, AllKeeps st H' l → ∀ t, Keeps st.heap H' (st.env t) (Abs.tab l t)
  | [], _, t => Keeps.un
  | (s, v) :: l, h, t => by
    simp only [Abs.tab]
    cases hb : Nat.beq t s with
    | true =>
      obtain rfl := Nat.eq_of_beq_eq_true hb
      exact h.1
    | false => exact AllKeeps.at_ h.2 t

theorem Weak.re {st : St} {nt : Nat} {H' : Heap} (l : List (Nat × V)) (hn : st.nt = nt) (k : Re st.heap H') (h : AllKeeps st H' l) : Weak st ⟨nt, Abs.tab l, H'⟩ := fun E ι F a w r =>
  ⟨ι, F, ⟨Re.rel r.h k, fun t => h.at_ t _ _ _ _ (r.env t), r.nt.trans hn, r.defers⟩⟩

theorem Objs.none {H T : Heap} : Objs H T Heap.none := ⟨fun id o h => (by cases h), fun id s g h => (by cases h)⟩
theorem Objs.add {H T H' : Heap} {id : Nat} {o o' : AObj} (k : Objs H T H') (h : H.slot ⟨id, []⟩ = .live o) (he : o'.elem = o.elem) (hz : o'.sz = o.sz) (hn : o'.n = o.n)
    (hg : ∀ i, i < o.n → ∀ j, j < o.sz → Keeps H T (o.get i j) (o'.get i j)) : Objs H T (H'.addAt id o') := by
  refine ⟨fun i x hx => ?_, fun i s g hx => ?_⟩
  · simp only [Heap.addAt, beq_if] at hx
    split at hx
    · rename_i e; subst e
      injection hx with hx; subst hx
      exact ⟨o, h, he, hz, hn, hg⟩
    · exact k.1 i x hx
  · simp only [Heap.addAt, beq_if] at hx
    split at hx
    · cases hx
    · exact k.2 i s g hx
theorem Nx.none : Nx Heap.none := fun _ _ => rfl
theorem Nx.add {H : Heap} {id : Nat} {o : AObj} (h : Nx H) (hle : Nat.ble H.next id = true) : Nx (H.addAt id o) := fun i hi => by
  have hle := Nat.le_of_ble_eq_true hle
  simp only [Heap.addAt] at hi ⊢
  rw [beq_if, if_neg (fun e => by subst e; simp at hi; omega)]
  exact h i (by omega)
theorem low0 {H H' : Heap} (h : H.lo = 0) : ∀ id : Id, id.k < H.lo → id.p = [] → SlotLike (H.slot id) (H'.slot id) := fun id hi => by rw [h] at hi; exact absurd hi (Nat.not_lt_zero _)

/-- An object that holds a list. -/
def AObj.list {α : Type} (e sz : Nat) (d : α) (g : α → Nat → V) (l : List α) : AObj := { elem := e, sz := sz, ver := 0, n := l.length, get := fun i j => g (l.getD i d) j }
def AObj.ints (l : List Int) (e : Nat) : AObj := AObj.list e 1 0 (fun a _ => .t (.int .i64 a)) l
def AObj.bools (l : List Bool) (e : Nat) : AObj := AObj.list e 1 false (fun a _ => .t (.bool a)) l

/-- Back at a loop's head: memory told anew; objects of lists by hand. -/
theorem toHeadR {J : St → Prop} (hW : ∀ st st', Weak st st' → J st' → J st) {nt : Nat} {l : List (Nat × V)} {H : Heap} (k : J ⟨nt, Abs.tab l, H⟩) (hn : st.nt = nt := by rfl)
    (hr : Re st.heap H := by
      refine ⟨rfl, ?_, low0 rfl, ?_⟩
      · repeat' first | exact Nx.none | refine Nx.add ?_ rfl
      · repeat' first | exact Objs.none | refine Objs.add ?_ rfl rfl rfl rfl ?_
        all_goals first | exact fun _ _ _ _ => Keeps.t _ | exact fun _ _ _ _ => Keeps.un | assumption)
    (h : AllKeeps st H l := by
      repeat' first | exact AllKeeps.n | refine AllKeeps.c ?_ ?_
      all_goals first | exact Keeps.t _ | exact Keeps.un | exact Keeps.ptr rfl rfl rfl rfl rfl | exact Keeps.sref rfl rfl rfl rfl rfl rfl rfl | exact Keeps.nils | exact Keeps.fp | exact Keeps.nilp | exact Keeps.nilm | assumption) : J st := hW _ _ (Weak.re l hn hr h) k

theorem getD_append_left {α : Type} {d : α} {l m : List α} {i : Nat} (h : i < l.length) : (l ++ m).getD i d = l.getD i d := by
  simp [List.getD_eq_getElem?_getD, List.getElem?_append_left h]
theorem getD_append_self {α : Type} {d a : α} {l : List α} : (l ++ [a]).getD l.length d = a := by
  simp [List.getD_eq_getElem?_getD]
/-- One more at the end of a list's object. -/
theorem AObj.app_list {H T : Heap} {α : Type} {e sz ver : Nat} {d : α} {g : α → Nat → V} {l : List α} {a : α} {news : Nat → Nat → V} (hg : ∀ b j, ∃ x, g b j = .t x) (hnew : ∀ j, j < sz → news 0 j = g a j) :
    ∀ i, i < ({ AObj.list e sz d g l with ver := ver }.app 1 news).n → ∀ j, j < ({ AObj.list e sz d g l with ver := ver }.app 1 news).sz →
      Keeps H T (({ AObj.list e sz d g l with ver := ver }.app 1 news).get i j) ((AObj.list e sz d g (l ++ [a])).get i j) := by
  intro i hi j hj
  simp only [AObj.app, AObj.list] at hi hj ⊢
  by_cases h : i < l.length
  · rw [show Nat.blt i l.length = true from blt_true h, cond_true, getD_append_left h]
    obtain ⟨x, hx⟩ := hg (l.getD i d) j
    rw [hx]; exact Keeps.t _
  · obtain rfl : i = l.length := by omega
    rw [show Nat.blt l.length l.length = false from blt_false (Nat.le_refl _), cond_false, Nat.sub_self, hnew j hj, getD_append_self]
    obtain ⟨x, hx⟩ := hg a j
    rw [hx]; exact Keeps.t _
/-- One place of a list's object is set. -/
theorem AObj.put_list {H T : Heap} {α : Type} {e ver k : Nat} {d : α} {g : α → Nat → V} {l : List α} {a : α} {u : V} (hg : ∀ b j, ∃ x, g b j = .t x) (hnew : u = g a 0) :
    ∀ i, i < ({ AObj.list e 1 d g l with ver := ver }.put1 k 0 u).n → ∀ j, j < ({ AObj.list e 1 d g l with ver := ver }.put1 k 0 u).sz →
      Keeps H T (({ AObj.list e 1 d g l with ver := ver }.put1 k 0 u).get i j) ((AObj.list e 1 d g (l.set k a)).get i j) := by
  intro i hi j hj
  simp only [AObj.put1, AObj.list] at hi hj ⊢
  obtain rfl : j = 0 := by omega
  by_cases h : i = k
  · subst h
    rw [Nat.beq_refl, Nat.beq_refl, Bool.and_self, cond_true, hnew]
    have : (l.set i a).getD i d = a := by simp [List.getD_eq_getElem?_getD, hi]
    rw [this]
    obtain ⟨x, hx⟩ := hg a 0
    rw [hx]; exact Keeps.t _
  · have hb : Nat.beq i k = false := by
      cases hb : Nat.beq i k with
      | false => rfl
      | true => exact absurd (Nat.eq_of_beq_eq_true hb) h
    have : (l.set k a).getD i d = l.getD i d := by simp [List.getD_eq_getElem?_getD, List.getElem?_set_ne (fun e => h e.symm)]
    rw [hb, Bool.false_and, cond_false, this]
    obtain ⟨x, hx⟩ := hg (l.getD i d) 0
    rw [hx]; exact Keeps.t _

/-! ### A store of a whole object -/
theorem SL.storeW {t : TypeId} {s : Nat} [TySz P t true s] {x y : Operand} {id : Id} {ver : Nat} {o : AObj} {get : Nat → V} (hx : st.eval x = .ptr id ver 0 0) (ho : st.heap.slot id = .live o) (hv : ver = o.ver)
    (hn : o.n = 1) (hs : o.sz = s) (hy : st.eval y = .agg s get)
    (hk : SL P L Q ((st.on (st.heap.set id { o with get := fun _ j => get j })).put d .un)) : SL P (⟨d, .store t x y, ty, none⟩ :: L) Q st :=
  SL.skip rfl fun E ι F a w r => by
    obtain ⟨b, hb, he⟩ := live_ptr r hx ho hv
    have hy' := r.eval y
    rw [hy] at hy'
    obtain ⟨cs, e1, e2, e3⟩ := hy'
    have h1 : ∀ u ∈ cs.toList, u.oneCell' = true := fun u hu => by
      obtain ⟨j, hj, hju⟩ := List.getElem_of_mem hu
      have hj' : j < s := by simpa [e2] using hj
      obtain ⟨c, q1, q2, q3⟩ := e3 j hj'
      have : c = u := by
        have q1' : cs.toList[j]? = some c := by simpa using q1
        rw [List.getElem?_eq_getElem hj, hju] at q1'
        exact (Option.some.inj q1').symm
      rw [← this]; exact q2
    obtain ⟨cur, hh, hcs, hcell⟩ := obj_cells r.h ho hb
    rw [hn, hs] at hcs
    have hrun := store_run (P := P) (t := t) (w := w) (b := b) (o := 0 * o.sz + 0) (v := a.eval y) (cs := cs.toList) (by rw [e1]; rfl) (by simpa using e2) hh (by omega) h1
    obtain ⟨ι', g1, g2⟩ := r.h.store ho hb (rr := 0) (by omega) (c := 0) (s := s) (by omega) { o with get := fun _ j => get j } rfl rfl rfl rfl cs.toList (by simpa using e2) h1 (fun i hi j hj => by
      obtain ⟨v, q1, q2, q3⟩ := e3 j (by omega)
      exact .inr ⟨by omega, by omega, by omega, v, by simpa using q1, q3⟩)
    exact ⟨_, ι', F, _, by simp only [execOp, GOp.oper, he, Sem.run_bind, hrun, Result.andThen_ok]; rfl, g1, g2, hk⟩

/-! ### Slices that are built -/
def opsAt (xs : List Operand) : Array (Nat × Operand) := (xs.zipIdx.map fun (x, i) => (i, x)).toArray

theorem SL.built1 (id : Nat) {t e : TypeId} {by_ : Nat} [ht : TySlice P t e 1 by_] {z : Value} [hz : TyZero P e z] {x : Operand} {u : V} (hid : st.heap.next = id) (hzs : z.cells.size = 1) (hx : st.eval x = u) (hp : u.one = true)
    (hk : SL P L Q ((st.on (st.heap.addAt id { elem := e, sz := 1, ver := 0, n := 1, get := fun _ _ => u })).put d (.sref ⟨id, []⟩ 0 0 1))) : SL P (⟨d, .buildSlice t 1 #[(0, x)], ty, none⟩ :: L) Q st :=
  SL.value rfl fun E ι F a w r => by
    subst hid
    have hr := r.eval x
    rw [hx] at hr
    have h1 : (a.eval x).cells = #[a.eval x] := by
      have := V.one_plain hp hr
      cases hv : a.eval x <;> rw [hv] at this <;> first | rfl | (simp [Value.oneCell'] at this)
    have hs : (sizeOf e).run P w = .ok 1 w := by
      have hs := ht.s
      cases hq : P.info? e with
      | none => simp [hq] at hs
      | some i => simp [hq] at hs; simp [sizeOf, typeInfo, hq, hs]
    obtain ⟨g1, g2⟩ := r.h.alloc { elem := e, sz := 1, ver := 0, n := 1, get := fun _ _ => u } #[a.eval x] (by simp [LEN]) (by simp) (fun i hi j hj => by
      obtain rfl : i = 0 := by simp at hi; exact hi
      obtain rfl : j = 0 := by simp at hj; exact hj
      exact ⟨a.eval x, by simp, V.one_plain hp hr, hr⟩)
    refine ⟨.slice (some ⟨w.heap.size, 0, none⟩) 1 1, _, _, F, _, .sref ⟨st.heap.next, []⟩ 0 0 1, ?_, g1, g2, ⟨rfl, ?_⟩, hk⟩
    rotate_left
    · rw [Heap.add_self]
      exact ⟨Nat.le_refl _, fun _ => ⟨Nat.le_refl _, some ⟨w.heap.size, 0, none⟩, 1, rfl, Nat.le_refl _, fun _ => ⟨w.heap.size, #[a.eval x], upd_self _ _ _, by simp, by show (w.heap.push _)[w.heap.size]? = _; simp, by simp⟩⟩⟩
    · simp [execOp, GOp.oper, Instr.buildSlice, run_underlying' ht.d, hs, Instr.fill, h1, hzs, newRow, run_newObj, zero_run (P := P) (t := e)]
      congr 2
      apply Array.ext
      · simp
      · intro i h1 h2
        obtain rfl : i = 0 := by simpa using h2
        simp

theorem SL.built3 (id : Nat) {t e : TypeId} {by_ : Nat} [ht : TySlice P t e 1 by_] {z : Value} [hz : TyZero P e z] {x y v : Operand} {u u1 u2 : V} (hid : st.heap.next = id) (hzs : z.cells.size = 1) (hx : st.eval x = u) (hp : u.one = true) (hy : st.eval y = u1) (hp1 : u1.one = true) (hv : st.eval v = u2) (hp2 : u2.one = true)
    (hk : SL P L Q ((st.on (st.heap.addAt id { elem := e, sz := 1, ver := 0, n := 3, get := fun i _ => bif Nat.beq i 0 then u else bif Nat.beq i 1 then u1 else u2 })).put d (.sref ⟨id, []⟩ 0 0 3))) : SL P (⟨d, .buildSlice t 3 #[(0, x), (1, y), (2, v)], ty, none⟩ :: L) Q st :=
  SL.value rfl fun E ι F a w r => by
    subst hid
    have hr := r.eval x
    rw [hx] at hr
    have h1 : (a.eval x).cells = #[a.eval x] := by
      have := V.one_plain hp hr
      cases hv : a.eval x <;> rw [hv] at this <;> first | rfl | (simp [Value.oneCell'] at this)
    have hr1 := r.eval y
    rw [hy] at hr1
    have h11 : (a.eval y).cells = #[a.eval y] := by
      have := V.one_plain hp1 hr1
      cases hv : a.eval y <;> rw [hv] at this <;> first | rfl | (simp [Value.oneCell'] at this)
    have hr2 := r.eval v
    rw [hv] at hr2
    have h12 : (a.eval v).cells = #[a.eval v] := by
      have := V.one_plain hp2 hr2
      cases hv : a.eval v <;> rw [hv] at this <;> first | rfl | (simp [Value.oneCell'] at this)
    have hs : (sizeOf e).run P w = .ok 1 w := by
      have hs := ht.s
      cases hq : P.info? e with
      | none => simp [hq] at hs
      | some i => simp [hq] at hs; simp [sizeOf, typeInfo, hq, hs]
    obtain ⟨g1, g2⟩ := r.h.alloc { elem := e, sz := 1, ver := 0, n := 3, get := fun i _ => bif Nat.beq i 0 then u else bif Nat.beq i 1 then u1 else u2 } #[a.eval x, a.eval y, a.eval v] (by simp [LEN]) (by simp) (fun i hi j hj => by
      obtain rfl : j = 0 := by simp at hj; exact hj
      match i, hi with
      | 0, _ => exact ⟨a.eval x, by simp, V.one_plain hp hr, hr⟩
      | 1, _ => exact ⟨a.eval y, by simp, V.one_plain hp1 hr1, hr1⟩
      | 2, _ => exact ⟨a.eval v, by simp, V.one_plain hp2 hr2, hr2⟩)
    refine ⟨.slice (some ⟨w.heap.size, 0, none⟩) 3 3, _, _, F, _, .sref ⟨st.heap.next, []⟩ 0 0 3, ?_, g1, g2, ⟨rfl, ?_⟩, hk⟩
    rotate_left
    · rw [Heap.add_self]
      exact ⟨Nat.le_refl _, fun _ => ⟨Nat.le_refl _, some ⟨w.heap.size, 0, none⟩, 3, rfl, Nat.le_refl _, fun _ => ⟨w.heap.size, #[a.eval x, a.eval y, a.eval v], upd_self _ _ _, by simp, by show (w.heap.push _)[w.heap.size]? = _; simp, by simp⟩⟩⟩
    · simp [execOp, GOp.oper, Instr.buildSlice, run_underlying' ht.d, hs, Instr.fill, h1, h11, h12, hzs, newRow, run_newObj, zero_run (P := P) (t := e)]
      congr 2
      apply Array.ext
      · simp
      · intro i h1 h2
        have h2' : i < 3 := by simpa using h2
        match i, h2' with
        | 0, _ => simp
        | 1, _ => simp
        | 2, _ => simp

end Go.Abs
