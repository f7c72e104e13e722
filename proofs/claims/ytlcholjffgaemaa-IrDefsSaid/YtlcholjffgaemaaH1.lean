/-
Calls over a part of memory: the part alone on entry, and what becomes of the whole.
No statement of the program is proved here.
-/
import Derived.Test.YtlcholjffgaemaaG10
set_option linter.unusedVariables false
set_option linter.unusedSimpArgs false
set_option linter.unusedSectionVars false
namespace Go.Abs
open Go

variable {P : Program} {d : Option Tmp} {ty : TypeId} {L : List GOp}

def rootsH (H : Heap) : Heap := { H with slot := fun i => if i.p = [] then H.slot i else .unborn }
def callEnv (w : World) (H : Heap) (ι : Id → Option Nat) (F : Nat → Prop) : Env := ⟨w, Blocks H ι, rootsH H, ι, F⟩
theorem rootsH_at {H : Heap} {i : Id} (h : i.p = []) : (rootsH H).slot i = H.slot i := if_pos h
theorem rootsH_ne {H : Heap} {i : Id} (h : i.p ≠ []) : (rootsH H).slot i = .unborn := if_neg h

/-- A part of memory, under names of its own. -/
structure Part (Hc Hl : Heap) (m : Id → Option Id) : Prop where
  next : Nx Hl
  lo : Hl.lo = Hl.next
  obj : ∀ i o', Hl.slot i = .live o' → (m i = none ∧ o'.n = 0) ∨ ∃ x o, m i = some x ∧ Hc.slot x = .live o ∧ o'.ver = o.ver ∧ o'.elem = o.elem ∧ o'.sz = o.sz ∧ o'.n = o.n ∧ ∀ r, r < o'.n → ∀ c, c < o'.sz → KG Hc Hl m (fun _ => False) (o.get r c) (o'.get r c)
  mp : ∀ i s g', Hl.slot i = .mp s g' → ∃ x g, m i = some x ∧ Hc.slot x = .mp s g ∧ ∀ k, (g k = none ∧ g' k = none) ∨ ∃ u u', g k = some u ∧ g' k = some u' ∧ KG Hc Hl m (fun _ => False) u u'
  inj : ∀ i j x, (Hl.slot i).is → (Hl.slot j).is → m i = some x → m j = some x → i = j
theorem FZ_none {H : Heap} {ι : Id → Option Nat} {F : Nat → Prop} : FZ H ι (fun _ => False) F = F := by
  funext b
  apply propext
  constructor
  · rintro (h | ⟨i, hi, _⟩)
    · exact h
    · exact hi.elim
  · exact .inl
theorem Part.rel {E : Env} {ι : Id → Option Nat} {F : Nat → Prop} {Hc Hl : Heap} {m : Id → Option Id} {w : World} (r : RelH E ι F Hc w) (k : Part Hc Hl m) : RelH (callEnv w Hl (mι m ι) F) (mι m ι) F Hl w := by
  have is : ∀ id b, (Hl.slot id).is → mι m ι id = some b → ∃ x, m id = some x ∧ ι x = some b ∧ (Hc.slot x).is := fun id b h hb => by
    obtain ⟨x, hx, hxb⟩ := mι_out hb
    cases hs : Hl.slot id with
    | live o' =>
      rcases k.obj id o' hs with ⟨e, _⟩ | ⟨y, o, hy, ho, _⟩
      · rw [e] at hx; cases hx
      · rw [hy] at hx; injection hx with hx; subst hx; exact ⟨y, hy, hxb, by rw [ho]; trivial⟩
    | mp s g => obtain ⟨y, g', hy, ho, _⟩ := k.mp id s g hs; rw [hy] at hx; injection hx with hx; subst hx; exact ⟨y, hy, hxb, by rw [ho]; trivial⟩
    | unborn => rw [hs] at h; exact h.elim
    | dead => rw [hs] at h; exact h.elim
  refine ⟨rfl, rfl, rfl, Nat.le_refl _, fun _ _ _ => rfl, fun id o' h => ?_, fun id s g h => ?_, fun i j b h h' hi hj => ?_,
    fun i b h hi => ?_, fun i b h hi => .inl ⟨i, h, hi⟩, fun i b h hi => ?_, r.frlt, fun b hb => .inl hb, k.next, ?_, fun i hi => ?_⟩
  · rcases k.obj id o' h with ⟨e1, e2⟩ | ⟨x, o, hm, ho, hv, he, hs, hn, hg⟩
    · refine ⟨by rw [e2]; exact Nat.zero_le _, ?_⟩
      rw [mι_none e1]; exact e2
    obtain ⟨h1, h2⟩ := r.obj _ o ho
    refine ⟨by rw [hn]; exact h1, ?_⟩
    rw [mι_some hm]
    cases hk : ι x with
    | none => rw [hk] at h2; have h2 : o.n = 0 := h2; show o'.n = 0; omega
    | some b =>
      rw [hk] at h2
      obtain ⟨cur, g1, g2, g3⟩ := h2
      dsimp only
      rw [he, hs]
      refine ⟨cur, g1, by rw [hn]; exact g2, fun i hi j hj => ?_⟩
      obtain ⟨c, a, b, d⟩ := g3 i (by omega) j hj
      have := hg i hi j (by omega) _ _ _ _ _ r d
      rw [FZ_none] at this
      exact ⟨c, a, b, this⟩
  · obtain ⟨x, g', hm, hg, hk⟩ := k.mp id s g h
    obtain ⟨b, es, clock, g1, g2, g3, g4⟩ := r.mapo _ s g' hg
    refine ⟨b, es, clock, (mι_some hm).trans g1, g2, g3, fun key hkey => ?_⟩
    have := g4 key hkey
    rcases hk key with ⟨e1, e2⟩ | ⟨u, u', e1, e2, e3⟩
    · rw [e1] at this; rw [e2]; exact this
    · rw [e1] at this; rw [e2]
      obtain ⟨n, e, a, b, c⟩ := this
      have := e3 _ _ _ _ _ r c
      rw [FZ_none] at this
      exact ⟨n, e, a, b, this⟩
  · obtain ⟨x, hx1, hx2, hx3⟩ := is i b h hi
    obtain ⟨y, hy1, hy2, hy3⟩ := is j b h' hj
    obtain rfl := r.inj x y b hx3 hy3 hx2 hy2
    exact k.inj i j x h h' hx1 hy1
  · obtain ⟨x, hx1, hx2, hx3⟩ := is i b h hi
    exact r.nofr _ b hx3 hx2
  · obtain ⟨x, hx1, hx2, hx3⟩ := is i b h hi
    exact r.lt _ b hx3 hx2
  · refine Ext.of (fun _ h => h) (fun _ _ => rfl) fun i => ?_
    unfold SlotOk
    show match (rootsH Hl).slot i with | _ => _
    by_cases hp : i.p = []
    · rw [show (callEnv w Hl (mι m ι) F).H0.slot i = Hl.slot i from rootsH_at hp]
      cases hs : Hl.slot i with
      | unborn => trivial
      | dead => rfl
      | mp s g => exact .inr ⟨⟨s, g, rfl⟩, rfl⟩
      | live o => exact .inr ⟨o, rfl, Nat.le_refl _, fun _ => ⟨rfl, rfl, Nat.le_refl _, rfl, fun b cur hb hc => ⟨cur, hc, rfl⟩⟩⟩
    · rw [show (callEnv w Hl (mι m ι) F).H0.slot i = .unborn from rootsH_ne hp]
      trivial
  · show (rootsH Hl).slot i = .unborn
    by_cases hp : i.p = []
    · rw [rootsH_at hp]
      rcases hi with hi | hi
      · exact k.next i (by rw [← k.lo]; exact hi)
      · exact absurd hp hi
    · exact rootsH_ne hp

/-- Behind the call: which objects are the callee's ('n'), and what the others became. -/
structure Back (Hc Hl Hl' Hc' : Heap) (m n : Id → Option Id) : Prop where
  lo : Hc'.lo = Hc.lo
  next : Nx Hc'
  /-- objects that the callee did not get -/
  out : ∀ i, n i = none → (Hc'.slot i).is → (∀ x, (Hl.slot x).is → m x ≠ some i) ∧ SlotLike (Hc.slot i) (Hc'.slot i)
  ninj : ∀ i j x, n i = some x → n j = some x → i = j
  low : ∀ i : Id, i.k < Hc.lo → i.p = [] → Hc.slot i = .unborn ∨ Hc'.slot i = .dead ∨ (n i = none ∧ SlotLike (Hc.slot i) (Hc'.slot i)) ∨
    ∃ x, n i = some x ∧ m x = some i ∧ x.p = [] ∧ SlotLike (Hc.slot i) (Hl.slot x) ∧ SlotLike (Hl'.slot x) (Hc'.slot i)
def ι4 (n : Id → Option Id) (ιc ι3 : Id → Option Nat) : Id → Option Nat := fun i => match n i with
  | some x => ι3 x
  | none => ιc i
theorem ι4_some {n : Id → Option Id} {ιc ι3 : Id → Option Nat} {i x : Id} (h : n i = some x) : ι4 n ιc ι3 i = ι3 x := by unfold ι4; rw [h]
theorem ι4_none {n : Id → Option Id} {ιc ι3 : Id → Option Nat} {i : Id} (h : n i = none) : ι4 n ιc ι3 i = ιc i := by unfold ι4; rw [h]

/-- A name of an object that the callee did not get. -/
theorem keep_out {E : Env} {ιc : Id → Option Nat} {Fc : Nat → Prop} {Hc Hl Hl' Hc' : Heap} {m n : Id → Option Id} {w w' : World} {ι3 : Id → Option Nat} {F3 : Nat → Prop} (r : RelH E ιc Fc Hc w) (k : Part Hc Hl m)
    (r3 : RelH (callEnv w Hl (mι m ιc) Fc) ι3 F3 Hl' w') {i : Id} (hn : n i = none) (hl : SlotLike (Hc.slot i) (Hc'.slot i)) (hm : (Hc'.slot i).is → ∀ x, (Hl.slot x).is → m x ≠ some i) :
    (∀ ver rr c v, VRel Hc ιc Fc w (.ptr i ver rr c) v → VRel Hc' (ι4 n ιc ι3) F3 w' (.ptr i ver rr c) v) ∧ (∀ ver rr c v, VRel Hc ιc Fc w (.sref i ver rr c) v → VRel Hc' (ι4 n ιc ι3) F3 w' (.sref i ver rr c) v) ∧ ∀ v, VRel Hc ιc Fc w (.mref i) v → VRel Hc' (ι4 n ιc ι3) F3 w' (.mref i) v := by
  have blk : ∀ b, (Hc'.slot i).is → (Hc.slot i).is → ιc i = some b → w'.heap[b]? = w.heap[b]? := fun b hi' hi hb => by
    refine r3.kept b (r.lt i b hi hb) ?_
    rintro ⟨x, hx1, hx2⟩
    obtain ⟨y, hy1, hy2⟩ := mι_out hx2
    have hy3 : (Hc.slot y).is := by
      cases hs : Hl.slot x with
      | live o' =>
        rcases k.obj x o' hs with ⟨e, _⟩ | ⟨z, o, hz, ho, _⟩
        · rw [e] at hy1; cases hy1
        · rw [hy1] at hz; injection hz with hz; subst hz; rw [ho]; trivial
      | mp s g => obtain ⟨z, g', hz, ho, _⟩ := k.mp x s g hs; rw [hy1] at hz; injection hz with hz; subst hz; rw [ho]; trivial
      | unborn => rw [hs] at hx1; exact hx1.elim
      | dead => rw [hs] at hx1; exact hx1.elim
    have := r.inj i y b hi hy3 hb hy2
    subst this
    exact hm hi' x hx1 hy1
  refine ⟨?_, ?_, ?_⟩
  · rintro ver rr c v ⟨h0, h1⟩
    refine ⟨h0, ?_⟩
    cases hs' : Hc'.slot i with
    | dead => trivial
    | mp s g => trivial
    | unborn => rw [hs'] at hl; cases hs : Hc.slot i <;> rw [hs] at hl <;> exact hl.elim
    | live o' =>
      rw [hs'] at hl
      cases hs : Hc.slot i with
      | live o =>
        rw [hs] at hl h1
        obtain ⟨a, b, c, d⟩ := hl
        show ver ≤ o'.ver ∧ _
        rw [ι4_none hn, a, c]; exact h1
      | unborn => rw [hs] at hl; exact hl.elim
      | dead => rw [hs] at hl; exact hl.elim
      | mp _ _ => rw [hs] at hl; exact hl.elim
  · rintro ver rr c v ⟨h0, h1⟩
    refine ⟨h0, ?_⟩
    cases hs' : Hc'.slot i with
    | dead => trivial
    | mp s g => trivial
    | unborn => rw [hs'] at hl; cases hs : Hc.slot i <;> rw [hs] at hl <;> exact hl.elim
    | live o' =>
      rw [hs'] at hl
      cases hs : Hc.slot i with
      | live o =>
        rw [hs] at hl h1
        obtain ⟨a, b, c, d⟩ := hl
        show ver ≤ o'.ver ∧ _
        rw [ι4_none hn, a, b, c, d]
        refine ⟨h1.1, fun hv => ?_⟩
        obtain ⟨q1, A, cap, q2, q3, q4⟩ := h1.2 hv
        refine ⟨q1, A, cap, q2, q3, fun hc => ?_⟩
        obtain ⟨b, cur, p1, p2, p3, p4⟩ := q4 hc
        exact ⟨b, cur, p1, p2, by rw [blk b (by rw [hs']; trivial) (by rw [hs]; trivial) p1]; exact p3, p4⟩
      | unborn => rw [hs] at hl; exact hl.elim
      | dead => rw [hs] at hl; exact hl.elim
      | mp _ _ => rw [hs] at hl; exact hl.elim
  · rintro v ⟨h0, h1⟩
    refine ⟨h0, ?_⟩
    cases hs' : Hc'.slot i with
    | dead => trivial
    | live o' => trivial
    | unborn => rw [hs'] at hl; cases hs : Hc.slot i <;> rw [hs] at hl <;> exact hl.elim
    | mp s g =>
      rw [hs'] at hl
      cases hs : Hc.slot i with
      | mp _ _ => rw [hs] at h1; show ∃ b, ι4 n ιc ι3 i = some b ∧ _; rw [ι4_none hn]; exact h1
      | unborn => rw [hs] at hl; exact hl.elim
      | dead => rw [hs] at hl; exact hl.elim
      | live _ => rw [hs] at hl; exact hl.elim
/-- A name of an object that the callee got, as a whole. -/
theorem keep_in {E : Env} {ιc : Id → Option Nat} {Fc : Nat → Prop} {Hc Hl Hl' Hc' : Heap} {m n : Id → Option Id} {w w' : World} {ι3 : Id → Option Nat} {F3 : Nat → Prop} (r : RelH E ιc Fc Hc w)
    (r3 : RelH (callEnv w Hl (mι m ιc) Fc) ι3 F3 Hl' w') {i x : Id} (hn : n i = some x) (hm : m x = some i) (hp : x.p = []) (h1 : SlotLike (Hc.slot i) (Hl.slot x)) (h2 : SlotLike (Hl'.slot x) (Hc'.slot i)) :
    (∀ ver rr c v, VRel Hc ιc Fc w (.ptr i ver rr c) v → VRel Hc' (ι4 n ιc ι3) F3 w' (.ptr i ver rr c) v) ∧ (∀ ver rr c v, VRel Hc ιc Fc w (.sref i ver rr c) v → VRel Hc' (ι4 n ιc ι3) F3 w' (.sref i ver rr c) v) ∧ ∀ v, VRel Hc ιc Fc w (.mref i) v → VRel Hc' (ι4 n ιc ι3) F3 w' (.mref i) v := by
  have hin : ∀ u u', (∀ v, VRel Hc ιc Fc w u v → VRel (rootsH Hl) (mι m ιc) Fc w u' v) → ∀ v, VRel Hc ιc Fc w u v → VRel Hl' ι3 F3 w' u' v := fun u u' h v hv => r3.ext u' v (h v hv)
  have hroot : (rootsH Hl).slot x = Hl.slot x := rootsH_at hp
  refine ⟨fun ver rr c v hv => ?_, fun ver rr c v hv => ?_, fun v hv => ?_⟩
  · have := hin (.ptr i ver rr c) (.ptr x ver rr c) (fun v ⟨a, b⟩ => ⟨a, by
      rw [hroot]
      cases hs : Hl.slot x with
      | dead => trivial
      | mp _ _ => trivial
      | unborn => rw [hs] at h1; cases hs' : Hc.slot i <;> rw [hs'] at h1 <;> exact h1.elim
      | live o' =>
        rw [hs] at h1
        cases hs' : Hc.slot i with
        | live o =>
          rw [hs'] at h1 b
          obtain ⟨q1, q2, q3, q4⟩ := h1
          show ver ≤ o'.ver ∧ _
          rw [mι_some hm, q1, q3]; exact b
        | unborn => rw [hs'] at h1; exact h1.elim
        | dead => rw [hs'] at h1; exact h1.elim
        | mp _ _ => rw [hs'] at h1; exact h1.elim⟩) v hv
    obtain ⟨a, b⟩ := this
    refine ⟨a, ?_⟩
    cases hs : Hc'.slot i with
    | dead => trivial
    | mp _ _ => trivial
    | unborn => rw [hs] at h2; cases hs' : Hl'.slot x <;> rw [hs'] at h2 <;> exact h2.elim
    | live o' =>
      rw [hs] at h2
      cases hs' : Hl'.slot x with
      | live o =>
        rw [hs'] at h2 b
        obtain ⟨q1, q2, q3, q4⟩ := h2
        show ver ≤ o'.ver ∧ _
        rw [ι4_some hn, q1, q3]; exact b
      | unborn => rw [hs'] at h2; exact h2.elim
      | dead => rw [hs'] at h2; exact h2.elim
      | mp _ _ => rw [hs'] at h2; exact h2.elim
  · have := hin (.sref i ver rr c) (.sref x ver rr c) (fun v ⟨a, b⟩ => ⟨a, by
      rw [hroot]
      cases hs : Hl.slot x with
      | dead => trivial
      | mp _ _ => trivial
      | unborn => rw [hs] at h1; cases hs' : Hc.slot i <;> rw [hs'] at h1 <;> exact h1.elim
      | live o' =>
        rw [hs] at h1
        cases hs' : Hc.slot i with
        | live o =>
          rw [hs'] at h1 b
          obtain ⟨q1, q2, q3, q4⟩ := h1
          show ver ≤ o'.ver ∧ _
          rw [mι_some hm, q1, q2, q3, q4]; exact b
        | unborn => rw [hs'] at h1; exact h1.elim
        | dead => rw [hs'] at h1; exact h1.elim
        | mp _ _ => rw [hs'] at h1; exact h1.elim⟩) v hv
    obtain ⟨a, b⟩ := this
    refine ⟨a, ?_⟩
    cases hs : Hc'.slot i with
    | dead => trivial
    | mp _ _ => trivial
    | unborn => rw [hs] at h2; cases hs' : Hl'.slot x <;> rw [hs'] at h2 <;> exact h2.elim
    | live o' =>
      rw [hs] at h2
      cases hs' : Hl'.slot x with
      | live o =>
        rw [hs'] at h2 b
        obtain ⟨q1, q2, q3, q4⟩ := h2
        show ver ≤ o'.ver ∧ _
        rw [ι4_some hn, q1, q2, q3, q4]; exact b
      | unborn => rw [hs'] at h2; exact h2.elim
      | dead => rw [hs'] at h2; exact h2.elim
      | mp _ _ => rw [hs'] at h2; exact h2.elim
  · have := hin (.mref i) (.mref x) (fun v ⟨a, b⟩ => ⟨a, by
      rw [hroot]
      cases hs : Hl.slot x with
      | dead => trivial
      | live _ => trivial
      | unborn => rw [hs] at h1; cases hs' : Hc.slot i <;> rw [hs'] at h1 <;> exact h1.elim
      | mp _ _ =>
        rw [hs] at h1
        cases hs' : Hc.slot i with
        | mp _ _ => rw [hs'] at b; show ∃ b, mι m ιc x = some b ∧ _; rw [mι_some hm]; exact b
        | unborn => rw [hs'] at h1; exact h1.elim
        | dead => rw [hs'] at h1; exact h1.elim
        | live _ => rw [hs'] at h1; exact h1.elim⟩) v hv
    obtain ⟨a, b⟩ := this
    refine ⟨a, ?_⟩
    cases hs : Hc'.slot i with
    | dead => trivial
    | live _ => trivial
    | unborn => rw [hs] at h2; cases hs' : Hl'.slot x <;> rw [hs'] at h2 <;> exact h2.elim
    | mp _ _ =>
      rw [hs] at h2
      cases hs' : Hl'.slot x with
      | mp _ _ => rw [hs'] at b; show ∃ b, ι4 n ιc ι3 i = some b ∧ _; rw [ι4_some hn]; exact b
      | unborn => rw [hs'] at h2; exact h2.elim
      | dead => rw [hs'] at h2; exact h2.elim
      | live _ => rw [hs'] at h2; exact h2.elim
/-- Data that is only read stays. -/
theorem keep_t {ιc : Id → Option Nat} {Fc : Nat → Prop} {Hc Hl Hl' Hc' : Heap} {m n : Id → Option Id} {w w' : World} {ι3 : Id → Option Nat} {F3 : Nat → Prop} (r3 : RelH (callEnv w Hl (mι m ιc) Fc) ι3 F3 Hl' w') {u : V}
    (h : ∀ H ι H' ι' F w v, VRel H ι F w u v → VRel H' ι' F w u v) : ∀ v, VRel Hc ιc Fc w u v → VRel Hc' (ι4 n ιc ι3) F3 w' u v := fun v hv => h _ _ _ _ _ _ _ (r3.ext u v (h _ _ (rootsH Hl) (mι m ιc) _ _ _ hv))

theorem Back.rel {E : Env} {ιc : Id → Option Nat} {Fc : Nat → Prop} {Hc Hl Hl' Hc' : Heap} {m n : Id → Option Id} {w w' : World} {ι3 : Id → Option Nat} {F3 : Nat → Prop} (r : RelH E ιc Fc Hc w) (k : Part Hc Hl m)
    (r3 : RelH (callEnv w Hl (mι m ιc) Fc) ι3 F3 Hl' w') (b : Back Hc Hl Hl' Hc' m n)
    (hout : ∀ i o', n i = none → Hc'.slot i = .live o' → ∃ o, Hc.slot i = .live o ∧ ∀ r, r < o'.n → ∀ c, c < o'.sz → ∀ v, VRel Hc ιc Fc w (o.get r c) v → VRel Hc' (ι4 n ιc ι3) F3 w' (o'.get r c) v)
    (hin : ∀ i x o', n i = some x → Hc'.slot i = .live o' → ∃ o, Hl'.slot x = .live o ∧ o'.elem = o.elem ∧ o'.sz = o.sz ∧ o'.n = o.n ∧ ∀ r, r < o'.n → ∀ c, c < o'.sz → ∀ v, VRel Hl' ι3 F3 w' (o.get r c) v → VRel Hc' (ι4 n ιc ι3) F3 w' (o'.get r c) v)
    (moutp : ∀ i s g', n i = none → Hc'.slot i = .mp s g' → ∃ g, Hc.slot i = .mp s g ∧ ∀ k, (g k = none ∧ g' k = none) ∨ ∃ u u', g k = some u ∧ g' k = some u' ∧ ∀ v, VRel Hc ιc Fc w u v → VRel Hc' (ι4 n ιc ι3) F3 w' u' v)
    (minp : ∀ i x s g', n i = some x → Hc'.slot i = .mp s g' → ∃ g, Hl'.slot x = .mp s g ∧ ∀ k, (g k = none ∧ g' k = none) ∨ ∃ u u', g k = some u ∧ g' k = some u' ∧ ∀ v, VRel Hl' ι3 F3 w' u v → VRel Hc' (ι4 n ιc ι3) F3 w' u' v) :
    RelH E (ι4 n ιc ι3) F3 Hc' w' := by
  have W0 : ∀ b, Blocks Hl (mι m ιc) b → ∃ x y, (Hl.slot x).is ∧ m x = some y ∧ (Hc.slot y).is ∧ ιc y = some b := by
    rintro b ⟨x, hx1, hx2⟩
    obtain ⟨y, hy1, hy2⟩ := mι_out hx2
    refine ⟨x, y, hx1, hy1, ?_, hy2⟩
    cases hs : Hl.slot x with
    | live o' =>
      rcases k.obj x o' hs with ⟨e, _⟩ | ⟨z, o, hz, ho, _⟩
      · rw [e] at hy1; cases hy1
      · rw [hy1] at hz; injection hz with hz; subst hz; rw [ho]; trivial
    | mp s g => obtain ⟨z, g', hz, ho, _⟩ := k.mp x s g hs; rw [hy1] at hz; injection hz with hz; subst hz; rw [ho]; trivial
    | unborn => rw [hs] at hx1; exact hx1.elim
    | dead => rw [hs] at hx1; exact hx1.elim
  -- an object's block: of the callee, or an old one that the callee did not get
  have kind : ∀ i bl, (Hc'.slot i).is → ι4 n ιc ι3 i = some bl → (∃ x, n i = some x ∧ (Hl'.slot x).is ∧ ι3 x = some bl) ∨ (n i = none ∧ (Hc.slot i).is ∧ ιc i = some bl ∧ ¬ Blocks Hl (mι m ιc) bl) := fun i bl h hb => by
    cases hn : n i with
    | some x =>
      rw [ι4_some hn] at hb
      refine .inl ⟨x, rfl, ?_, hb⟩
      cases hs : Hc'.slot i with
      | live o' => obtain ⟨o, ho, _⟩ := hin i x o' hn hs; rw [ho]; trivial
      | mp s g => obtain ⟨g', ho, _⟩ := minp i x s g hn hs; rw [ho]; trivial
      | unborn => rw [hs] at h; exact h.elim
      | dead => rw [hs] at h; exact h.elim
    | none =>
      rw [ι4_none hn] at hb
      have hi : (Hc.slot i).is := by
        cases hs : Hc'.slot i with
        | live o' => obtain ⟨o, ho, _⟩ := hout i o' hn hs; rw [ho]; trivial
        | mp s g => obtain ⟨g', ho, _⟩ := moutp i s g hn hs; rw [ho]; trivial
        | unborn => rw [hs] at h; exact h.elim
        | dead => rw [hs] at h; exact h.elim
      refine .inr ⟨rfl, hi, hb, fun hW => ?_⟩
      obtain ⟨x, y, q1, q2, q3, q4⟩ := W0 bl hW
      have := r.inj i y bl hi q3 hb q4
      subst this
      exact (b.out i hn h).1 x q1 q2
  refine ⟨r3.os.trans r.os, r3.tape.trans r.tape, r3.output.trans r.output, Nat.le_trans r.size r3.size, fun bl hb hW => ?_, fun i o' h => ?_, fun i s g h => ?_, fun i j bl h h' hi hj => ?_,
    fun i bl h hi hF => ?_, fun i bl h hi => ?_, fun i bl h hi => ?_, r3.frlt, fun bl hF => ?_, b.next, ?_, by rw [b.lo]; exact r.lo⟩
  · rw [r3.kept bl (Nat.lt_of_lt_of_le hb r.size) (fun hx => by
      obtain ⟨x, y, q1, q2, q3, q4⟩ := W0 bl hx
      rcases r.own y bl q3 q4 with h | h
      · exact hW h
      · omega)]
    exact r.kept bl hb hW
  · cases hn : n i with
    | some x =>
      obtain ⟨o, ho, he, hs, hnn, hg⟩ := hin i x o' hn h
      obtain ⟨h1, h2⟩ := r3.obj x o ho
      refine ⟨by rw [hnn]; exact h1, ?_⟩
      rw [ι4_some hn]
      cases hk : ι3 x with
      | none => rw [hk] at h2; have h2 : o.n = 0 := h2; show o'.n = 0; omega
      | some bl =>
        rw [hk] at h2
        obtain ⟨cur, g1, g2, g3⟩ := h2
        dsimp only
        rw [he, hs]
        refine ⟨cur, g1, by rw [hnn]; exact g2, fun i hi j hj => ?_⟩
        obtain ⟨c, a, b, d⟩ := g3 i (by omega) j hj
        exact ⟨c, a, b, hg i hi j (by omega) _ d⟩
    | none =>
      obtain ⟨o, ho, hg⟩ := hout i o' hn h
      have hl := (b.out i hn (by rw [h]; trivial)).2
      rw [ho, h] at hl
      obtain ⟨q1, q2, q3, q4⟩ := hl
      obtain ⟨h1, h2⟩ := r.obj i o ho
      refine ⟨by rw [q4]; exact h1, ?_⟩
      rw [ι4_none hn]
      cases hk : ιc i with
      | none => rw [hk] at h2; have h2 : o.n = 0 := h2; show o'.n = 0; omega
      | some bl =>
        rw [hk] at h2
        obtain ⟨cur, g1, g2, g3⟩ := h2
        dsimp only
        rw [q2, q3]
        have hb : w'.heap[bl]? = w.heap[bl]? := by
          rcases kind i bl (by rw [h]; trivial) (by rw [ι4_none hn]; exact hk) with ⟨x, e, _⟩ | ⟨_, a, b, c⟩
          · rw [hn] at e; cases e
          · exact r3.kept bl (r.lt i bl a b) c
        refine ⟨cur, by rw [hb]; exact g1, by rw [q4]; exact g2, fun x hx j hj => ?_⟩
        obtain ⟨c, a, b, d⟩ := g3 x (by omega) j hj
        exact ⟨c, a, b, hg x hx j (by omega) _ d⟩
  · cases hn : n i with
    | some x =>
      obtain ⟨g', hg, hk⟩ := minp i x s g hn h
      obtain ⟨bl, es, clock, g1, g2, g3, g4⟩ := r3.mapo _ s g' hg
      refine ⟨bl, es, clock, (ι4_some hn).trans g1, g2, g3, fun key hkey => ?_⟩
      have := g4 key hkey
      rcases hk key with ⟨e1, e2⟩ | ⟨u, u', e1, e2, e3⟩
      · rw [e1] at this; rw [e2]; exact this
      · rw [e1] at this; rw [e2]
        obtain ⟨n, e, a, b, c⟩ := this
        exact ⟨n, e, a, b, e3 _ c⟩
    | none =>
      obtain ⟨g', hg, hk⟩ := moutp i s g hn h
      obtain ⟨bl, es, clock, g1, g2, g3, g4⟩ := r.mapo _ s g' hg
      have hb : w'.heap[bl]? = w.heap[bl]? := by
        rcases kind i bl (by rw [h]; trivial) (by rw [ι4_none hn]; exact g1) with ⟨x, e, _⟩ | ⟨_, a, b, c⟩
        · rw [hn] at e; cases e
        · exact r3.kept bl (r.lt i bl a b) c
      refine ⟨bl, es, clock, (ι4_none hn).trans g1, by rw [hb]; exact g2, g3, fun key hkey => ?_⟩
      have := g4 key hkey
      rcases hk key with ⟨e1, e2⟩ | ⟨u, u', e1, e2, e3⟩
      · rw [e1] at this; rw [e2]; exact this
      · rw [e1] at this; rw [e2]
        obtain ⟨n, e, a, b, c⟩ := this
        exact ⟨n, e, a, b, e3 _ c⟩
  · rcases kind i bl h hi with ⟨x, e1, e2, e3⟩ | ⟨e1, e2, e3, e4⟩
    · rcases kind j bl h' hj with ⟨y, f1, f2, f3⟩ | ⟨f1, f2, f3, f4⟩
      · have := r3.inj x y bl e2 f2 e3 f3
        subst this
        exact b.ninj i j x e1 f1
      · rcases r3.own x bl e2 e3 with hw | hw
        · exact absurd hw f4
        · have := r.lt j bl f2 f3
          have hw : w.heap.size ≤ bl := hw
          omega
    · rcases kind j bl h' hj with ⟨y, f1, f2, f3⟩ | ⟨f1, f2, f3, f4⟩
      · rcases r3.own y bl f2 f3 with hw | hw
        · exact absurd hw e4
        · have := r.lt i bl e2 e3
          have hw : w.heap.size ≤ bl := hw
          omega
      · exact r.inj i j bl e2 f2 e3 f3
  · rcases kind i bl h hi with ⟨x, e1, e2, e3⟩ | ⟨e1, e2, e3, e4⟩
    · exact r3.nofr x bl e2 e3 hF
    · rcases r3.frin bl hF with hx | hx | hx
      · exact r.nofr i bl e2 e3 hx
      · exact e4 hx
      · have := r.lt i bl e2 e3
        have hx : w.heap.size ≤ bl := hx
        omega
  · rcases kind i bl h hi with ⟨x, e1, e2, e3⟩ | ⟨e1, e2, e3, e4⟩
    · rcases r3.own x bl e2 e3 with hw | hw
      · obtain ⟨x, y, q1, q2, q3, q4⟩ := W0 bl hw
        exact r.own y bl q3 q4
      · exact .inr (Nat.le_trans r.size hw)
    · exact r.own i bl e2 e3
  · rcases kind i bl h hi with ⟨x, e1, e2, e3⟩ | ⟨e1, e2, e3, e4⟩
    · exact r3.lt x bl e2 e3
    · exact Nat.lt_of_lt_of_le (r.lt i bl e2 e3) r3.size
  · rcases r3.frin bl hF with hx | hx | hx
    · exact r.frin bl hx
    · obtain ⟨x, y, q1, q2, q3, q4⟩ := W0 bl hx
      rcases r.own y bl q3 q4 with h | h
      · exact .inr (.inl h)
      · exact .inr (.inr h)
    · exact .inr (.inr (Nat.le_trans r.size hx))
  · -- what was related outside
    have low : ∀ id, E.H0.slot id ≠ .unborn → id.k < Hc.lo ∧ id.p = [] := fun id h =>
      ⟨Nat.lt_of_not_le fun hle => h (r.lo id (.inl hle)), Classical.byContradiction fun hp => h (r.lo id (.inr hp))⟩
    have leaf : ∀ id, E.H0.slot id ≠ .unborn → Hc.slot id ≠ .unborn → (∀ ver rr c v, VRel Hc ιc Fc w (.ptr id ver rr c) v → VRel Hc' (ι4 n ιc ι3) F3 w' (.ptr id ver rr c) v) ∧ (∀ ver rr c v, VRel Hc ιc Fc w (.sref id ver rr c) v → VRel Hc' (ι4 n ιc ι3) F3 w' (.sref id ver rr c) v) ∧ ∀ v, VRel Hc ιc Fc w (.mref id) v → VRel Hc' (ι4 n ιc ι3) F3 w' (.mref id) v := fun id h hb => by
      obtain ⟨l1, l2⟩ := low id h
      rcases b.low id l1 l2 with e | e | ⟨e1, e2⟩ | ⟨x, e1, e2, e3, e4, e5⟩
      · exact absurd e hb
      · exact ⟨fun _ _ _ v h => ⟨h.1, by rw [e]; trivial⟩, fun _ _ _ v h => ⟨h.1, by rw [e]; trivial⟩, fun v h => ⟨h.1, by rw [e]; trivial⟩⟩
      · exact keep_out r k r3 e1 e2 (fun his => (b.out id e1 his).1)
      · exact keep_in r r3 e1 e2 e3 e4 e5
    have key : ∀ u v, VRel E.H0 E.ι0 E.F0 E.w0 u v → VRel Hc ιc Fc w u v → VRel Hc' (ι4 n ιc ι3) F3 w' u v := by
      intro u
      induction u with
      | ptr id ver rr c =>
        intro v h0 h1
        exact (leaf id (fun e => by obtain ⟨_, h0⟩ := h0; rw [e] at h0; exact h0) (fun e => by obtain ⟨_, h1⟩ := h1; rw [e] at h1; exact h1)).1 _ _ _ _ h1
      | sref id ver rr c =>
        intro v h0 h1
        exact (leaf id (fun e => by obtain ⟨_, h0⟩ := h0; rw [e] at h0; exact h0) (fun e => by obtain ⟨_, h1⟩ := h1; rw [e] at h1; exact h1)).2.1 _ _ _ _ h1
      | mref id =>
        intro v h0 h1
        exact (leaf id (fun e => by obtain ⟨_, h0⟩ := h0; rw [e] at h0; exact h0) (fun e => by obtain ⟨_, h1⟩ := h1; rw [e] at h1; exact h1)).2.2 _ h1
      | fn f n cap ih =>
        rintro v ⟨cs, h1, h2, h3⟩ ⟨cs', h1', h2', h3'⟩
        rw [h1] at h1'
        injection h1' with _ _ h1'; subst h1'
        refine ⟨cs, h1, h2, fun j hj => ?_⟩
        obtain ⟨c, a, b⟩ := h3 j hj
        obtain ⟨c', a', b'⟩ := h3' j hj
        rw [a] at a'; injection a' with a'; subst a'
        exact ⟨c, a, ih j _ b b'⟩
      | agg n get ih =>
        rintro v ⟨cs, h1, h2, h3⟩ ⟨cs', h1', h2', h3'⟩
        rw [h1] at h1'
        injection h1' with h1'; subst h1'
        refine ⟨cs, h1, h2, fun j hj => ?_⟩
        obtain ⟨c, a, p, b⟩ := h3 j hj
        obtain ⟨c', a', p', b'⟩ := h3' j hj
        rw [a] at a'; injection a' with a'; subst a'
        exact ⟨c, a, p, ih j _ b b'⟩
      | tup n get ih =>
        rintro v ⟨cs, h1, h2, h3⟩ ⟨cs', h1', h2', h3'⟩
        rw [h1] at h1'
        injection h1' with h1'; subst h1'
        refine ⟨cs, h1, h2, fun j hj => ?_⟩
        obtain ⟨c, a, b⟩ := h3 j hj
        obtain ⟨c', a', b'⟩ := h3' j hj
        rw [a] at a'; injection a' with a'; subst a'
        exact ⟨c, a, ih j _ b b'⟩
      | un => exact fun _ _ _ => trivial
      | und => exact fun _ _ h => h
      | t x => exact fun v _ h => keep_t (u := .t x) r3 (fun H ι H' ι' F w v (h : Reads F w x v) => (show Reads F w x v from h)) v h
      | nils => exact fun _ _ h => h
      | nilp => exact fun _ _ h => h
      | nilm => exact fun _ _ h => h
      | nilf => exact fun _ _ h => h
      | fp k g => exact fun v _ h => keep_t (u := .fp k g) r3 (fun H ι H' ι' F w v (h : ∃ b o, v = .pointer (some ⟨b, o, none⟩) ∧ F b ∧ ∀ j, j < k → ∃ c, w.cell? ⟨b, o + j, none⟩ = some c ∧ Reads F w (g j) c) => h) v h
    exact fun u v h => key u v h (r.ext u v h)
end Go.Abs
