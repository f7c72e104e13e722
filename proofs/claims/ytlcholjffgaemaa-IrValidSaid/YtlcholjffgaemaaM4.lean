/-
Texts of the proof, part 4: H1 H2 H3 H4 H5 H6 K2 J1.
No statement of the program is proved here.
-/
import Derived.Test.YtlcholjffgaemaaM3
import Derived.Laws.StructEq
import Derived.Laws.Slices
import Derived.MapKept
set_option linter.unusedVariables false
set_option linter.unusedSimpArgs false
set_option linter.unusedSectionVars false
namespace Go.Abs
open Go
variable {P : Program} {d : Option Tmp} {ty : TypeId} {L : List GOp}
def rootsH (H : Heap) : Heap := { H with slot := fun i => if i.p = [] then H.slot i else .unborn }
def callEnv (w : World) (H : Heap) (ι : Id -> Option Nat) (F : Nat -> Prop) : Env := ⟨w, Blocks H ι, rootsH H, ι, F⟩
theorem rootsH_at {H : Heap} {i : Id} (h : i.p = []) : (rootsH H).slot i = H.slot i := if_pos h
theorem rootsH_ne {H : Heap} {i : Id} (h : i.p ≠ []) : (rootsH H).slot i = .unborn := if_neg h
structure Part (Hc Hl : Heap) (m : Id -> Option Id) : Prop where
 next : Nx Hl
 lo : Hl.lo = Hl.next
 obj : ∀ i o', Hl.slot i = .live o' -> (m i = none /\ o'.n = 0) \/ ∃ x o, m i = some x /\ Hc.slot x = .live o /\ o'.ver = o.ver /\ o'.elem = o.elem /\ o'.sz = o.sz /\ o'.n = o.n /\ ∀ r, r < o'.n -> ∀ c, c < o'.sz -> KG Hc Hl m (fun _ => False) (o.get r c) (o'.get r c)
 mp : ∀ i s g', Hl.slot i = .mp s g' -> ∃ x g, m i = some x /\ Hc.slot x = .mp s g /\ ∀ k, (g k = none /\ g' k = none) \/ ∃ u u', g k = some u /\ g' k = some u' /\ KG Hc Hl m (fun _ => False) u u'
 inj : ∀ i j x, (Hl.slot i).is -> (Hl.slot j).is -> m i = some x -> m j = some x -> i = j
theorem FZ_none {H : Heap} {ι : Id -> Option Nat} {F : Nat -> Prop} : FZ H ι (fun _ => False) F = F := by
 funext b
 apply propext
 constructor
 ·rintro (h | ⟨i, hi, _⟩)
  ·exact h
  ·exact hi.elim
 ·exact .inl
theorem Part.rel {E : Env} {ι : Id -> Option Nat} {F : Nat -> Prop} {Hc Hl : Heap} {m : Id -> Option Id} {w : World} (r : RelH E ι F Hc w) (k : Part Hc Hl m) : RelH (callEnv w Hl (mι m ι) F) (mι m ι) F Hl w := by
 have is : ∀ id b, (Hl.slot id).is -> mι m ι id = some b -> ∃ x, m id = some x /\ ι x = some b /\ (Hc.slot x).is := fun id b h hb => by
  obtain ⟨x, hx, hxb⟩ := mι_out hb
  cases hs : Hl.slot id with
  | live o' =>
   rcases k.obj id o' hs with ⟨e, _⟩ | ⟨y, o, hy, ho, _⟩
   ·rw [e] at hx; cases hx
   ·rw [hy] at hx; injection hx with hx; subst hx; exact ⟨y, hy, hxb, by rw [ho]; trivial⟩
  | mp s g => obtain ⟨y, g', hy, ho, _⟩ := k.mp id s g hs; rw [hy] at hx; injection hx with hx; subst hx; exact ⟨y, hy, hxb, by rw [ho]; trivial⟩
  | unborn => rw [hs] at h; exact h.elim
  | dead => rw [hs] at h; exact h.elim
 refine ⟨rfl, rfl, rfl, Nat.le_refl _, fun _ _ _ => rfl, fun id o' h => ?_, fun id s g h => ?_, fun i j b h h' hi hj => ?_,
  fun i b h hi => ?_, fun i b h hi => .inl ⟨i, h, hi⟩, fun i b h hi => ?_, r.frlt, fun b hb => .inl hb, k.next, ?_, fun i hi => ?_⟩
 ·rcases k.obj id o' h with ⟨e1, e2⟩ | ⟨x, o, hm, ho, hv, he, hs, hn, hg⟩
  ·refine ⟨by rw [e2]; exact Nat.zero_le _, ?_⟩
   rw [mι_none e1]; exact e2
  obtain ⟨h1, h2⟩ := r.obj _ o ho
  refine ⟨by rw [hn]; exact h1, ?_⟩
  rw [mι_some hm]
  cases hk : ι x with
  | none => rw [hk] at h2; have h2 : o.n = 0 := h2; show o'.n = 0; omega
  | some b =>
   rw [hk] at h2
   obtain ⟨cur, g1, g2, g3⟩ := h2
   dsimp only
   rw [he, hs]
   refine ⟨cur, g1, by rw [hn]; exact g2, fun i hi j hj => ?_⟩
   obtain ⟨c, a, b, d⟩ := g3 i (by omega) j hj
   have := hg i hi j (by omega) _ _ _ _ _ r d
   rw [FZ_none] at this
   exact ⟨c, a, b, this⟩
 ·obtain ⟨x, g', hm, hg, hk⟩ := k.mp id s g h
  obtain ⟨b, es, clock, g1, g2, g3, g4⟩ := r.mapo _ s g' hg
  refine ⟨b, es, clock, (mι_some hm).trans g1, g2, g3, fun key hkey => ?_⟩
  have := g4 key hkey
  rcases hk key with ⟨e1, e2⟩ | ⟨u, u', e1, e2, e3⟩
  ·rw [e1] at this; rw [e2]; exact this
  ·rw [e1] at this; rw [e2]
   obtain ⟨n, e, a, b, c⟩ := this
   have := e3 _ _ _ _ _ r c
   rw [FZ_none] at this
   exact ⟨n, e, a, b, this⟩
 ·obtain ⟨x, hx1, hx2, hx3⟩ := is i b h hi
  obtain ⟨y, hy1, hy2, hy3⟩ := is j b h' hj
  obtain rfl := r.inj x y b hx3 hy3 hx2 hy2
  exact k.inj i j x h h' hx1 hy1
 ·obtain ⟨x, hx1, hx2, hx3⟩ := is i b h hi
  exact r.nofr _ b hx3 hx2
 ·obtain ⟨x, hx1, hx2, hx3⟩ := is i b h hi
  exact r.lt _ b hx3 hx2
 ·refine Ext.of (fun _ h => h) (fun _ _ => rfl) fun i => ?_
  unfold SlotOk
  show match (rootsH Hl).slot i with | _ => _
  by_cases hp : i.p = []
  ·rw [show (callEnv w Hl (mι m ι) F).H0.slot i = Hl.slot i from rootsH_at hp]
   cases hs : Hl.slot i with
   | unborn => trivial
   | dead => rfl
   | mp s g => exact .inr ⟨⟨s, g, rfl⟩, rfl⟩
   | live o => exact .inr ⟨o, rfl, Nat.le_refl _, fun _ => ⟨rfl, rfl, Nat.le_refl _, rfl, fun b cur hb hc => ⟨cur, hc, rfl⟩⟩⟩
  ·rw [show (callEnv w Hl (mι m ι) F).H0.slot i = .unborn from rootsH_ne hp]
   trivial
 ·show (rootsH Hl).slot i = .unborn
  by_cases hp : i.p = []
  ·rw [rootsH_at hp]
   rcases hi with hi | hi
   ·exact k.next i (by rw [<- k.lo]; exact hi)
   ·exact absurd hp hi
  ·exact rootsH_ne hp
structure Back (Hc Hl Hl' Hc' : Heap) (m n : Id -> Option Id) : Prop where
 lo : Hc'.lo = Hc.lo
 next : Nx Hc'
 out : ∀ i, n i = none -> (Hc'.slot i).is -> (∀ x, (Hl.slot x).is -> m x ≠ some i) /\ SlotLike (Hc.slot i) (Hc'.slot i)
 ninj : ∀ i j x, n i = some x -> n j = some x -> i = j
 low : ∀ i : Id, i.k < Hc.lo -> i.p = [] -> Hc.slot i = .unborn \/ Hc'.slot i = .dead \/ (n i = none /\ SlotLike (Hc.slot i) (Hc'.slot i)) \/
  ∃ x, n i = some x /\ m x = some i /\ x.p = [] /\ SlotLike (Hc.slot i) (Hl.slot x) /\ SlotLike (Hl'.slot x) (Hc'.slot i)
def ι4 (n : Id -> Option Id) (ιc ι3 : Id -> Option Nat) : Id -> Option Nat := fun i => match n i with
 | some x => ι3 x
 | none => ιc i
theorem ι4_some {n : Id -> Option Id} {ιc ι3 : Id -> Option Nat} {i x : Id} (h : n i = some x) : ι4 n ιc ι3 i = ι3 x := by unfold ι4; rw [h]
theorem ι4_none {n : Id -> Option Id} {ιc ι3 : Id -> Option Nat} {i : Id} (h : n i = none) : ι4 n ιc ι3 i = ιc i := by unfold ι4; rw [h]
theorem keep_out {E : Env} {ιc : Id -> Option Nat} {Fc : Nat -> Prop} {Hc Hl Hl' Hc' : Heap} {m n : Id -> Option Id} {w w' : World} {ι3 : Id -> Option Nat} {F3 : Nat -> Prop} (r : RelH E ιc Fc Hc w) (k : Part Hc Hl m)
  (r3 : RelH (callEnv w Hl (mι m ιc) Fc) ι3 F3 Hl' w') {i : Id} (hn : n i = none) (hl : SlotLike (Hc.slot i) (Hc'.slot i)) (hm : (Hc'.slot i).is -> ∀ x, (Hl.slot x).is -> m x ≠ some i) :
  (∀ ver rr c v, VRel Hc ιc Fc w (.ptr i ver rr c) v -> VRel Hc' (ι4 n ιc ι3) F3 w' (.ptr i ver rr c) v) /\ (∀ ver rr c v, VRel Hc ιc Fc w (.sref i ver rr c) v -> VRel Hc' (ι4 n ιc ι3) F3 w' (.sref i ver rr c) v) /\ ∀ v, VRel Hc ιc Fc w (.mref i) v -> VRel Hc' (ι4 n ιc ι3) F3 w' (.mref i) v := by
 have blk : ∀ b, (Hc'.slot i).is -> (Hc.slot i).is -> ιc i = some b -> w'.heap[b]? = w.heap[b]? := fun b hi' hi hb => by
  refine r3.kept b (r.lt i b hi hb) ?_
  rintro ⟨x, hx1, hx2⟩
  obtain ⟨y, hy1, hy2⟩ := mι_out hx2
  have hy3 : (Hc.slot y).is := by
   cases hs : Hl.slot x with
   | live o' =>
    rcases k.obj x o' hs with ⟨e, _⟩ | ⟨z, o, hz, ho, _⟩
    ·rw [e] at hy1; cases hy1
    ·rw [hy1] at hz; injection hz with hz; subst hz; rw [ho]; trivial
   | mp s g => obtain ⟨z, g', hz, ho, _⟩ := k.mp x s g hs; rw [hy1] at hz; injection hz with hz; subst hz; rw [ho]; trivial
   | unborn => rw [hs] at hx1; exact hx1.elim
   | dead => rw [hs] at hx1; exact hx1.elim
  have := r.inj i y b hi hy3 hb hy2
  subst this
  exact hm hi' x hx1 hy1
 refine ⟨?_, ?_, ?_⟩
 ·rintro ver rr c v ⟨h0, h1⟩
  refine ⟨h0, ?_⟩
  cases hs' : Hc'.slot i with
  | dead => trivial
  | mp s g => trivial
  | unborn => rw [hs'] at hl; cases hs : Hc.slot i <;> rw [hs] at hl <;> exact hl.elim
  | live o' =>
   rw [hs'] at hl
   cases hs : Hc.slot i with
   | live o =>
    rw [hs] at hl h1
    obtain ⟨a, b, c, d⟩ := hl
    show ver <= o'.ver /\ _
    rw [ι4_none hn, a, c]; exact h1
   | unborn => rw [hs] at hl; exact hl.elim
   | dead => rw [hs] at hl; exact hl.elim
   | mp _ _ => rw [hs] at hl; exact hl.elim
 ·rintro ver rr c v ⟨h0, h1⟩
  refine ⟨h0, ?_⟩
  cases hs' : Hc'.slot i with
  | dead => trivial
  | mp s g => trivial
  | unborn => rw [hs'] at hl; cases hs : Hc.slot i <;> rw [hs] at hl <;> exact hl.elim
  | live o' =>
   rw [hs'] at hl
   cases hs : Hc.slot i with
   | live o =>
    rw [hs] at hl h1
    obtain ⟨a, b, c, d⟩ := hl
    show ver <= o'.ver /\ _
    rw [ι4_none hn, a, b, c, d]
    refine ⟨h1.1, fun hv => ?_⟩
    obtain ⟨q1, A, cap, q2, q3, q4⟩ := h1.2 hv
    refine ⟨q1, A, cap, q2, q3, fun hc => ?_⟩
    obtain ⟨b, cur, p1, p2, p3, p4⟩ := q4 hc
    exact ⟨b, cur, p1, p2, by rw [blk b (by rw [hs']; trivial) (by rw [hs]; trivial) p1]; exact p3, p4⟩
   | unborn => rw [hs] at hl; exact hl.elim
   | dead => rw [hs] at hl; exact hl.elim
   | mp _ _ => rw [hs] at hl; exact hl.elim
 ·rintro v ⟨h0, h1⟩
  refine ⟨h0, ?_⟩
  cases hs' : Hc'.slot i with
  | dead => trivial
  | live o' => trivial
  | unborn => rw [hs'] at hl; cases hs : Hc.slot i <;> rw [hs] at hl <;> exact hl.elim
  | mp s g =>
   rw [hs'] at hl
   cases hs : Hc.slot i with
   | mp _ _ => rw [hs] at h1; show ∃ b, ι4 n ιc ι3 i = some b /\ _; rw [ι4_none hn]; exact h1
   | unborn => rw [hs] at hl; exact hl.elim
   | dead => rw [hs] at hl; exact hl.elim
   | live _ => rw [hs] at hl; exact hl.elim
theorem keep_in {E : Env} {ιc : Id -> Option Nat} {Fc : Nat -> Prop} {Hc Hl Hl' Hc' : Heap} {m n : Id -> Option Id} {w w' : World} {ι3 : Id -> Option Nat} {F3 : Nat -> Prop} (r : RelH E ιc Fc Hc w)
  (r3 : RelH (callEnv w Hl (mι m ιc) Fc) ι3 F3 Hl' w') {i x : Id} (hn : n i = some x) (hm : m x = some i) (hp : x.p = []) (h1 : SlotLike (Hc.slot i) (Hl.slot x)) (h2 : SlotLike (Hl'.slot x) (Hc'.slot i)) :
  (∀ ver rr c v, VRel Hc ιc Fc w (.ptr i ver rr c) v -> VRel Hc' (ι4 n ιc ι3) F3 w' (.ptr i ver rr c) v) /\ (∀ ver rr c v, VRel Hc ιc Fc w (.sref i ver rr c) v -> VRel Hc' (ι4 n ιc ι3) F3 w' (.sref i ver rr c) v) /\ ∀ v, VRel Hc ιc Fc w (.mref i) v -> VRel Hc' (ι4 n ιc ι3) F3 w' (.mref i) v := by
 have hin : ∀ u u', (∀ v, VRel Hc ιc Fc w u v -> VRel (rootsH Hl) (mι m ιc) Fc w u' v) -> ∀ v, VRel Hc ιc Fc w u v -> VRel Hl' ι3 F3 w' u' v := fun u u' h v hv => r3.ext u' v (h v hv)
 have hroot : (rootsH Hl).slot x = Hl.slot x := rootsH_at hp
 refine ⟨fun ver rr c v hv => ?_, fun ver rr c v hv => ?_, fun v hv => ?_⟩
 ·have := hin (.ptr i ver rr c) (.ptr x ver rr c) (fun v ⟨a, b⟩ => ⟨a, by
   rw [hroot]
   cases hs : Hl.slot x with
   | dead => trivial
   | mp _ _ => trivial
   | unborn => rw [hs] at h1; cases hs' : Hc.slot i <;> rw [hs'] at h1 <;> exact h1.elim
   | live o' =>
    rw [hs] at h1
    cases hs' : Hc.slot i with
    | live o =>
     rw [hs'] at h1 b
     obtain ⟨q1, q2, q3, q4⟩ := h1
     show ver <= o'.ver /\ _
     rw [mι_some hm, q1, q3]; exact b
    | unborn => rw [hs'] at h1; exact h1.elim
    | dead => rw [hs'] at h1; exact h1.elim
    | mp _ _ => rw [hs'] at h1; exact h1.elim⟩) v hv
  obtain ⟨a, b⟩ := this
  refine ⟨a, ?_⟩
  cases hs : Hc'.slot i with
  | dead => trivial
  | mp _ _ => trivial
  | unborn => rw [hs] at h2; cases hs' : Hl'.slot x <;> rw [hs'] at h2 <;> exact h2.elim
  | live o' =>
   rw [hs] at h2
   cases hs' : Hl'.slot x with
   | live o =>
    rw [hs'] at h2 b
    obtain ⟨q1, q2, q3, q4⟩ := h2
    show ver <= o'.ver /\ _
    rw [ι4_some hn, q1, q3]; exact b
   | unborn => rw [hs'] at h2; exact h2.elim
   | dead => rw [hs'] at h2; exact h2.elim
   | mp _ _ => rw [hs'] at h2; exact h2.elim
 ·have := hin (.sref i ver rr c) (.sref x ver rr c) (fun v ⟨a, b⟩ => ⟨a, by
   rw [hroot]
   cases hs : Hl.slot x with
   | dead => trivial
   | mp _ _ => trivial
   | unborn => rw [hs] at h1; cases hs' : Hc.slot i <;> rw [hs'] at h1 <;> exact h1.elim
   | live o' =>
    rw [hs] at h1
    cases hs' : Hc.slot i with
    | live o =>
     rw [hs'] at h1 b
     obtain ⟨q1, q2, q3, q4⟩ := h1
     show ver <= o'.ver /\ _
     rw [mι_some hm, q1, q2, q3, q4]; exact b
    | unborn => rw [hs'] at h1; exact h1.elim
    | dead => rw [hs'] at h1; exact h1.elim
    | mp _ _ => rw [hs'] at h1; exact h1.elim⟩) v hv
  obtain ⟨a, b⟩ := this
  refine ⟨a, ?_⟩
  cases hs : Hc'.slot i with
  | dead => trivial
  | mp _ _ => trivial
  | unborn => rw [hs] at h2; cases hs' : Hl'.slot x <;> rw [hs'] at h2 <;> exact h2.elim
  | live o' =>
   rw [hs] at h2
   cases hs' : Hl'.slot x with
   | live o =>
    rw [hs'] at h2 b
    obtain ⟨q1, q2, q3, q4⟩ := h2
    show ver <= o'.ver /\ _
    rw [ι4_some hn, q1, q2, q3, q4]; exact b
   | unborn => rw [hs'] at h2; exact h2.elim
   | dead => rw [hs'] at h2; exact h2.elim
   | mp _ _ => rw [hs'] at h2; exact h2.elim
 ·have := hin (.mref i) (.mref x) (fun v ⟨a, b⟩ => ⟨a, by
   rw [hroot]
   cases hs : Hl.slot x with
   | dead => trivial
   | live _ => trivial
   | unborn => rw [hs] at h1; cases hs' : Hc.slot i <;> rw [hs'] at h1 <;> exact h1.elim
   | mp _ _ =>
    rw [hs] at h1
    cases hs' : Hc.slot i with
    | mp _ _ => rw [hs'] at b; show ∃ b, mι m ιc x = some b /\ _; rw [mι_some hm]; exact b
    | unborn => rw [hs'] at h1; exact h1.elim
    | dead => rw [hs'] at h1; exact h1.elim
    | live _ => rw [hs'] at h1; exact h1.elim⟩) v hv
  obtain ⟨a, b⟩ := this
  refine ⟨a, ?_⟩
  cases hs : Hc'.slot i with
  | dead => trivial
  | live _ => trivial
  | unborn => rw [hs] at h2; cases hs' : Hl'.slot x <;> rw [hs'] at h2 <;> exact h2.elim
  | mp _ _ =>
   rw [hs] at h2
   cases hs' : Hl'.slot x with
   | mp _ _ => rw [hs'] at b; show ∃ b, ι4 n ιc ι3 i = some b /\ _; rw [ι4_some hn]; exact b
   | unborn => rw [hs'] at h2; exact h2.elim
   | dead => rw [hs'] at h2; exact h2.elim
   | live _ => rw [hs'] at h2; exact h2.elim
theorem keep_t {ιc : Id -> Option Nat} {Fc : Nat -> Prop} {Hc Hl Hl' Hc' : Heap} {m n : Id -> Option Id} {w w' : World} {ι3 : Id -> Option Nat} {F3 : Nat -> Prop} (r3 : RelH (callEnv w Hl (mι m ιc) Fc) ι3 F3 Hl' w') {u : V}
  (h : ∀ H ι H' ι' F w v, VRel H ι F w u v -> VRel H' ι' F w u v) : ∀ v, VRel Hc ιc Fc w u v -> VRel Hc' (ι4 n ιc ι3) F3 w' u v := fun v hv => h _ _ _ _ _ _ _ (r3.ext u v (h _ _ (rootsH Hl) (mι m ιc) _ _ _ hv))
theorem Back.rel {E : Env} {ιc : Id -> Option Nat} {Fc : Nat -> Prop} {Hc Hl Hl' Hc' : Heap} {m n : Id -> Option Id} {w w' : World} {ι3 : Id -> Option Nat} {F3 : Nat -> Prop} (r : RelH E ιc Fc Hc w) (k : Part Hc Hl m)
  (r3 : RelH (callEnv w Hl (mι m ιc) Fc) ι3 F3 Hl' w') (b : Back Hc Hl Hl' Hc' m n)
  (hout : ∀ i o', n i = none -> Hc'.slot i = .live o' -> ∃ o, Hc.slot i = .live o /\ ∀ r, r < o'.n -> ∀ c, c < o'.sz -> ∀ v, VRel Hc ιc Fc w (o.get r c) v -> VRel Hc' (ι4 n ιc ι3) F3 w' (o'.get r c) v)
  (hin : ∀ i x o', n i = some x -> Hc'.slot i = .live o' -> ∃ o, Hl'.slot x = .live o /\ o'.elem = o.elem /\ o'.sz = o.sz /\ o'.n = o.n /\ ∀ r, r < o'.n -> ∀ c, c < o'.sz -> ∀ v, VRel Hl' ι3 F3 w' (o.get r c) v -> VRel Hc' (ι4 n ιc ι3) F3 w' (o'.get r c) v)
  (moutp : ∀ i s g', n i = none -> Hc'.slot i = .mp s g' -> ∃ g, Hc.slot i = .mp s g /\ ∀ k, (g k = none /\ g' k = none) \/ ∃ u u', g k = some u /\ g' k = some u' /\ ∀ v, VRel Hc ιc Fc w u v -> VRel Hc' (ι4 n ιc ι3) F3 w' u' v)
  (minp : ∀ i x s g', n i = some x -> Hc'.slot i = .mp s g' -> ∃ g, Hl'.slot x = .mp s g /\ ∀ k, (g k = none /\ g' k = none) \/ ∃ u u', g k = some u /\ g' k = some u' /\ ∀ v, VRel Hl' ι3 F3 w' u v -> VRel Hc' (ι4 n ιc ι3) F3 w' u' v) :
  RelH E (ι4 n ιc ι3) F3 Hc' w' := by
 have W0 : ∀ b, Blocks Hl (mι m ιc) b -> ∃ x y, (Hl.slot x).is /\ m x = some y /\ (Hc.slot y).is /\ ιc y = some b := by
  rintro b ⟨x, hx1, hx2⟩
  obtain ⟨y, hy1, hy2⟩ := mι_out hx2
  refine ⟨x, y, hx1, hy1, ?_, hy2⟩
  cases hs : Hl.slot x with
  | live o' =>
   rcases k.obj x o' hs with ⟨e, _⟩ | ⟨z, o, hz, ho, _⟩
   ·rw [e] at hy1; cases hy1
   ·rw [hy1] at hz; injection hz with hz; subst hz; rw [ho]; trivial
  | mp s g => obtain ⟨z, g', hz, ho, _⟩ := k.mp x s g hs; rw [hy1] at hz; injection hz with hz; subst hz; rw [ho]; trivial
  | unborn => rw [hs] at hx1; exact hx1.elim
  | dead => rw [hs] at hx1; exact hx1.elim
 -- an object's block: of the callee, or an old one that the callee did not get
 have kind : ∀ i bl, (Hc'.slot i).is -> ι4 n ιc ι3 i = some bl -> (∃ x, n i = some x /\ (Hl'.slot x).is /\ ι3 x = some bl) \/ (n i = none /\ (Hc.slot i).is /\ ιc i = some bl /\ ¬ Blocks Hl (mι m ιc) bl) := fun i bl h hb => by
  cases hn : n i with
  | some x =>
   rw [ι4_some hn] at hb
   refine .inl ⟨x, rfl, ?_, hb⟩
   cases hs : Hc'.slot i with
   | live o' => obtain ⟨o, ho, _⟩ := hin i x o' hn hs; rw [ho]; trivial
   | mp s g => obtain ⟨g', ho, _⟩ := minp i x s g hn hs; rw [ho]; trivial
   | unborn => rw [hs] at h; exact h.elim
   | dead => rw [hs] at h; exact h.elim
  | none =>
   rw [ι4_none hn] at hb
   have hi : (Hc.slot i).is := by
    cases hs : Hc'.slot i with
    | live o' => obtain ⟨o, ho, _⟩ := hout i o' hn hs; rw [ho]; trivial
    | mp s g => obtain ⟨g', ho, _⟩ := moutp i s g hn hs; rw [ho]; trivial
    | unborn => rw [hs] at h; exact h.elim
    | dead => rw [hs] at h; exact h.elim
   refine .inr ⟨rfl, hi, hb, fun hW => ?_⟩
   obtain ⟨x, y, q1, q2, q3, q4⟩ := W0 bl hW
   have := r.inj i y bl hi q3 hb q4
   subst this
   exact (b.out i hn h).1 x q1 q2
 refine ⟨r3.os.trans r.os, r3.tape.trans r.tape, r3.output.trans r.output, Nat.le_trans r.size r3.size, fun bl hb hW => ?_, fun i o' h => ?_, fun i s g h => ?_, fun i j bl h h' hi hj => ?_,
  fun i bl h hi hF => ?_, fun i bl h hi => ?_, fun i bl h hi => ?_, r3.frlt, fun bl hF => ?_, b.next, ?_, by rw [b.lo]; exact r.lo⟩
 ·rw [r3.kept bl (Nat.lt_of_lt_of_le hb r.size) (fun hx => by
   obtain ⟨x, y, q1, q2, q3, q4⟩ := W0 bl hx
   rcases r.own y bl q3 q4 with h | h
   ·exact hW h
   ·omega)]
  exact r.kept bl hb hW
 ·cases hn : n i with
  | some x =>
   obtain ⟨o, ho, he, hs, hnn, hg⟩ := hin i x o' hn h
   obtain ⟨h1, h2⟩ := r3.obj x o ho
   refine ⟨by rw [hnn]; exact h1, ?_⟩
   rw [ι4_some hn]
   cases hk : ι3 x with
   | none => rw [hk] at h2; have h2 : o.n = 0 := h2; show o'.n = 0; omega
   | some bl =>
    rw [hk] at h2
    obtain ⟨cur, g1, g2, g3⟩ := h2
    dsimp only
    rw [he, hs]
    refine ⟨cur, g1, by rw [hnn]; exact g2, fun i hi j hj => ?_⟩
    obtain ⟨c, a, b, d⟩ := g3 i (by omega) j hj
    exact ⟨c, a, b, hg i hi j (by omega) _ d⟩
  | none =>
   obtain ⟨o, ho, hg⟩ := hout i o' hn h
   have hl := (b.out i hn (by rw [h]; trivial)).2
   rw [ho, h] at hl
   obtain ⟨q1, q2, q3, q4⟩ := hl
   obtain ⟨h1, h2⟩ := r.obj i o ho
   refine ⟨by rw [q4]; exact h1, ?_⟩
   rw [ι4_none hn]
   cases hk : ιc i with
   | none => rw [hk] at h2; have h2 : o.n = 0 := h2; show o'.n = 0; omega
   | some bl =>
    rw [hk] at h2
    obtain ⟨cur, g1, g2, g3⟩ := h2
    dsimp only
    rw [q2, q3]
    have hb : w'.heap[bl]? = w.heap[bl]? := by
     rcases kind i bl (by rw [h]; trivial) (by rw [ι4_none hn]; exact hk) with ⟨x, e, _⟩ | ⟨_, a, b, c⟩
     ·rw [hn] at e; cases e
     ·exact r3.kept bl (r.lt i bl a b) c
    refine ⟨cur, by rw [hb]; exact g1, by rw [q4]; exact g2, fun x hx j hj => ?_⟩
    obtain ⟨c, a, b, d⟩ := g3 x (by omega) j hj
    exact ⟨c, a, b, hg x hx j (by omega) _ d⟩
 ·cases hn : n i with
  | some x =>
   obtain ⟨g', hg, hk⟩ := minp i x s g hn h
   obtain ⟨bl, es, clock, g1, g2, g3, g4⟩ := r3.mapo _ s g' hg
   refine ⟨bl, es, clock, (ι4_some hn).trans g1, g2, g3, fun key hkey => ?_⟩
   have := g4 key hkey
   rcases hk key with ⟨e1, e2⟩ | ⟨u, u', e1, e2, e3⟩
   ·rw [e1] at this; rw [e2]; exact this
   ·rw [e1] at this; rw [e2]
    obtain ⟨n, e, a, b, c⟩ := this
    exact ⟨n, e, a, b, e3 _ c⟩
  | none =>
   obtain ⟨g', hg, hk⟩ := moutp i s g hn h
   obtain ⟨bl, es, clock, g1, g2, g3, g4⟩ := r.mapo _ s g' hg
   have hb : w'.heap[bl]? = w.heap[bl]? := by
    rcases kind i bl (by rw [h]; trivial) (by rw [ι4_none hn]; exact g1) with ⟨x, e, _⟩ | ⟨_, a, b, c⟩
    ·rw [hn] at e; cases e
    ·exact r3.kept bl (r.lt i bl a b) c
   refine ⟨bl, es, clock, (ι4_none hn).trans g1, by rw [hb]; exact g2, g3, fun key hkey => ?_⟩
   have := g4 key hkey
   rcases hk key with ⟨e1, e2⟩ | ⟨u, u', e1, e2, e3⟩
   ·rw [e1] at this; rw [e2]; exact this
   ·rw [e1] at this; rw [e2]
    obtain ⟨n, e, a, b, c⟩ := this
    exact ⟨n, e, a, b, e3 _ c⟩
 ·rcases kind i bl h hi with ⟨x, e1, e2, e3⟩ | ⟨e1, e2, e3, e4⟩
  ·rcases kind j bl h' hj with ⟨y, f1, f2, f3⟩ | ⟨f1, f2, f3, f4⟩
   ·have := r3.inj x y bl e2 f2 e3 f3
    subst this
    exact b.ninj i j x e1 f1
   ·rcases r3.own x bl e2 e3 with hw | hw
    ·exact absurd hw f4
    ·have := r.lt j bl f2 f3
     have hw : w.heap.size <= bl := hw
     omega
  ·rcases kind j bl h' hj with ⟨y, f1, f2, f3⟩ | ⟨f1, f2, f3, f4⟩
   ·rcases r3.own y bl f2 f3 with hw | hw
    ·exact absurd hw e4
    ·have := r.lt i bl e2 e3
     have hw : w.heap.size <= bl := hw
     omega
   ·exact r.inj i j bl e2 f2 e3 f3
 ·rcases kind i bl h hi with ⟨x, e1, e2, e3⟩ | ⟨e1, e2, e3, e4⟩
  ·exact r3.nofr x bl e2 e3 hF
  ·rcases r3.frin bl hF with hx | hx | hx
   ·exact r.nofr i bl e2 e3 hx
   ·exact e4 hx
   ·have := r.lt i bl e2 e3
    have hx : w.heap.size <= bl := hx
    omega
 ·rcases kind i bl h hi with ⟨x, e1, e2, e3⟩ | ⟨e1, e2, e3, e4⟩
  ·rcases r3.own x bl e2 e3 with hw | hw
   ·obtain ⟨x, y, q1, q2, q3, q4⟩ := W0 bl hw
    exact r.own y bl q3 q4
   ·exact .inr (Nat.le_trans r.size hw)
  ·exact r.own i bl e2 e3
 ·rcases kind i bl h hi with ⟨x, e1, e2, e3⟩ | ⟨e1, e2, e3, e4⟩
  ·exact r3.lt x bl e2 e3
  ·exact Nat.lt_of_lt_of_le (r.lt i bl e2 e3) r3.size
 ·rcases r3.frin bl hF with hx | hx | hx
  ·exact r.frin bl hx
  ·obtain ⟨x, y, q1, q2, q3, q4⟩ := W0 bl hx
   rcases r.own y bl q3 q4 with h | h
   ·exact .inr (.inl h)
   ·exact .inr (.inr h)
  ·exact .inr (.inr (Nat.le_trans r.size hx))
 ·-- what was related outside
  have low : ∀ id, E.H0.slot id ≠ .unborn -> id.k < Hc.lo /\ id.p = [] := fun id h =>
   ⟨Nat.lt_of_not_le fun hle => h (r.lo id (.inl hle)), Classical.byContradiction fun hp => h (r.lo id (.inr hp))⟩
  have leaf : ∀ id, E.H0.slot id ≠ .unborn -> Hc.slot id ≠ .unborn -> (∀ ver rr c v, VRel Hc ιc Fc w (.ptr id ver rr c) v -> VRel Hc' (ι4 n ιc ι3) F3 w' (.ptr id ver rr c) v) /\ (∀ ver rr c v, VRel Hc ιc Fc w (.sref id ver rr c) v -> VRel Hc' (ι4 n ιc ι3) F3 w' (.sref id ver rr c) v) /\ ∀ v, VRel Hc ιc Fc w (.mref id) v -> VRel Hc' (ι4 n ιc ι3) F3 w' (.mref id) v := fun id h hb => by
   obtain ⟨l1, l2⟩ := low id h
   rcases b.low id l1 l2 with e | e | ⟨e1, e2⟩ | ⟨x, e1, e2, e3, e4, e5⟩
   ·exact absurd e hb
   ·exact ⟨fun _ _ _ v h => ⟨h.1, by rw [e]; trivial⟩, fun _ _ _ v h => ⟨h.1, by rw [e]; trivial⟩, fun v h => ⟨h.1, by rw [e]; trivial⟩⟩
   ·exact keep_out r k r3 e1 e2 (fun his => (b.out id e1 his).1)
   ·exact keep_in r r3 e1 e2 e3 e4 e5
  have key : ∀ u v, VRel E.H0 E.ι0 E.F0 E.w0 u v -> VRel Hc ιc Fc w u v -> VRel Hc' (ι4 n ιc ι3) F3 w' u v := by
   intro u
   induction u with
   | ptr id ver rr c =>
    intro v h0 h1
    exact (leaf id (fun e => by obtain ⟨_, h0⟩ := h0; rw [e] at h0; exact h0) (fun e => by obtain ⟨_, h1⟩ := h1; rw [e] at h1; exact h1)).1 _ _ _ _ h1
   | sref id ver rr c =>
    intro v h0 h1
    exact (leaf id (fun e => by obtain ⟨_, h0⟩ := h0; rw [e] at h0; exact h0) (fun e => by obtain ⟨_, h1⟩ := h1; rw [e] at h1; exact h1)).2.1 _ _ _ _ h1
   | mref id =>
    intro v h0 h1
    exact (leaf id (fun e => by obtain ⟨_, h0⟩ := h0; rw [e] at h0; exact h0) (fun e => by obtain ⟨_, h1⟩ := h1; rw [e] at h1; exact h1)).2.2 _ h1
   | fn f n cap ih =>
    rintro v ⟨cs, h1, h2, h3⟩ ⟨cs', h1', h2', h3'⟩
    rw [h1] at h1'
    injection h1' with _ _ h1'; subst h1'
    refine ⟨cs, h1, h2, fun j hj => ?_⟩
    obtain ⟨c, a, b⟩ := h3 j hj
    obtain ⟨c', a', b'⟩ := h3' j hj
    rw [a] at a'; injection a' with a'; subst a'
    exact ⟨c, a, ih j _ b b'⟩
   | agg n get ih =>
    rintro v ⟨cs, h1, h2, h3⟩ ⟨cs', h1', h2', h3'⟩
    rw [h1] at h1'
    injection h1' with h1'; subst h1'
    refine ⟨cs, h1, h2, fun j hj => ?_⟩
    obtain ⟨c, a, p, b⟩ := h3 j hj
    obtain ⟨c', a', p', b'⟩ := h3' j hj
    rw [a] at a'; injection a' with a'; subst a'
    exact ⟨c, a, p, ih j _ b b'⟩
   | tup n get ih =>
    rintro v ⟨cs, h1, h2, h3⟩ ⟨cs', h1', h2', h3'⟩
    rw [h1] at h1'
    injection h1' with h1'; subst h1'
    refine ⟨cs, h1, h2, fun j hj => ?_⟩
    obtain ⟨c, a, b⟩ := h3 j hj
    obtain ⟨c', a', b'⟩ := h3' j hj
    rw [a] at a'; injection a' with a'; subst a'
    exact ⟨c, a, ih j _ b b'⟩
   | un => exact fun _ _ _ => trivial
   | und => exact fun _ _ h => h
   | t x => exact fun v _ h => keep_t (u := .t x) r3 (fun H ι H' ι' F w v (h : Reads F w x v) => (show Reads F w x v from h)) v h
   | nils => exact fun _ _ h => h
   | nilp => exact fun _ _ h => h
   | nilm => exact fun _ _ h => h
   | nilf => exact fun _ _ h => h
   | fp k g => exact fun v _ h => keep_t (u := .fp k g) r3 (fun H ι H' ι' F w v (h : ∃ b o, v = .pointer (some ⟨b, o, none⟩) /\ F b /\ ∀ j, j < k -> ∃ c, w.cell? ⟨b, o + j, none⟩ = some c /\ Reads F w (g j) c) => h) v h
  exact fun u v h => key u v h (r.ext u v h)
end Go.Abs
namespace Go.Abs
open Go
inductive Sh where
 | un
 | b
 | i (k : IntKind)
 | s
 | fz (τ : Ty)
 | st (n : Nat)
 | fp (τ : Ty) (c : Nat)
 | nils
 | nilp
 | nilm
 | nilf
 | nili
 | ptr (id c : Nat)
 | rptr (id c : Nat)
 | part (id : Nat)
 | full (id : Nat)
 | mref (id : Nat)
 | agg (l : List Sh)
 | tup (l : List Sh)
 | fn (f : FuncId) (l : List Sh)
inductive OSh where
 | dead
 | lst (e : TypeId) (τ : Ty)
 | box (e : TypeId) (τ : Ty)
 | cells (e : TypeId) (l : List Sh)
 | mp (s : Bool) (τ : Ty)
section
variable [SU] [Codes]
mutual
@[reducible] def Sh.D : Sh -> Type
 | .un => Unit
 | .b => Bool
 | .i _ => Int
 | .s => ByteArray
 | .fz τ => List τ.D
 | .st n => SU.D n
 | .fp τ _ => τ.D
 | .nils => Unit
 | .nilp => Unit
 | .nilm => Unit
 | .nilf => Unit
 | .nili => Unit
 | .ptr _ _ => Unit
 | .rptr _ _ => Nat
 | .part _ => Nat × Nat
 | .full _ => Unit
 | .mref _ => Unit
 | .agg l => DS l
 | .tup l => DS l
 | .fn _ l => DS l
@[reducible] def DS : List Sh -> Type
 | [] => Unit
 | a :: l => a.D × DS l
end
@[reducible] def OSh.D : OSh -> Type
 | .dead => Unit
 | .lst _ τ => List τ.D
 | .box _ τ => τ.D
 | .cells _ l => DS l
 | .mp _ τ => MKey -> Option τ.D
@[reducible] def DO : List OSh -> Type
 | [] => Unit
 | a :: l => a.D × DO l
@[reducible] def DT : List (Nat × Sh) -> Type
 | [] => Unit
 | (_, a) :: l => a.D × DT l
mutual
def mkE : (a : Sh) -> a.D -> EV
 | .un, _ => .un
 | .b, x => .b x
 | .i k, x => .i k x
 | .s, x => .s x
 | .fz τ, x => .fz τ x
 | .st n, x => .st n x
 | .fp τ c, x => .fp τ x c
 | .nils, _ => .nils
 | .nilp, _ => .nilp
 | .nilm, _ => .nilm
 | .nilf, _ => .nilf
 | .nili, _ => .nili
 | .ptr id c, _ => .ptr id [] 0 c
 | .rptr id c, r => .ptr id [] r c
 | .part id, r => .sref id [] r.1 r.2
 | .full id, _ => .sfull id []
 | .mref id, _ => .mref id
 | .agg l, x => .agg (mkEs l x)
 | .tup l, x => .tup (mkEs l x)
 | .fn f l, x => .fn f (mkEs l x)
def mkEs : (l : List Sh) -> DS l -> List EV
 | [], _ => []
 | a :: l, x => mkE a x.1 :: mkEs l x.2
end
def mkO : (o : OSh) -> o.D -> OD
 | .dead, _ => .dead
 | .lst e τ, l => .lst ⟨e, τ, l⟩
 | .box e τ, x => .lst ⟨e, τ, [x]⟩
 | .cells e l, x => .cells e (mkEs l x)
 | .mp s τ, g => .mp s τ g
def mkEnv : (l : List (Nat × Sh)) -> DT l -> Nat -> EV
 | [], _, _ => .un
 | (t, a) :: l, x, y => bif Nat.beq y t then mkE a x.1 else mkEnv l x.2 y
def mkObj : (l : List OSh) -> DO l -> Nat -> OD
 | [], _, _ => .none
 | o :: _, x, 0 => mkO o x.1
 | _ :: l, x, j + 1 => mkObj l x.2 j
def mkH (lo : Nat) (os : List OSh) (y : DO os) : EHeap := ⟨os.length, lo, mkObj os y, []⟩
def nthK : List (Option Nat) -> Nat -> Option Nat
 | [], _ => none
 | a :: _, 0 => a
 | _ :: l, j + 1 => nthK l j
def isK (ks : List (Option Nat)) (j k : Nat) : Bool := match nthK ks j with
 | some x => Nat.beq x k
 | none => false
def noK : List (Option Nat) -> Nat -> Bool
 | [], _ => false
 | none :: _, 0 => true
 | some _ :: _, 0 => false
 | _ :: l, j + 1 => noK l j
theorem isK_out {ks : List (Option Nat)} {j k : Nat} (h : isK ks j k = true) : nthK ks j = some k := by
 unfold isK at h
 split at h
 ·rename_i x hx
  rw [hx, Nat.eq_of_beq_eq_true h]
 ·cases h
theorem noK_out : ∀ {ks : List (Option Nat)} {j : Nat}, noK ks j = true -> nthK ks j = none /\ j < ks.length
 | [], _, h => by cases h
 | none :: _, 0, h => ⟨rfl, by simp⟩
 | some _ :: _, 0, h => by cases h
 | none :: l, j + 1, h => by obtain ⟨h1, h2⟩ := noK_out (ks := l) (j := j) h; exact ⟨h1, by simpa using h2⟩
 | some _ :: l, j + 1, h => by obtain ⟨h1, h2⟩ := noK_out (ks := l) (j := j) h; exact ⟨h1, by simpa using h2⟩
theorem nthK_lt : ∀ {ks : List (Option Nat)} {j k : Nat}, nthK ks j = some k -> j < ks.length
 | [], _, _, h => by cases h
 | _ :: _, 0, _, _ => by simp
 | _ :: l, j + 1, k, h => by have := nthK_lt (ks := l) (j := j) h; simpa using this
mutual
def exE (ks : List (Option Nat)) : (a : Sh) -> EV -> Option a.D
 | .un, _ => some ()
 | .b, .b x => some x
 | .i k, .i k' n => bif kindEq k k' then some n else none
 | .s, .s x => some x
 | .fz τ, .fz τ' l => castF List τ' τ l
 | .fz _, .nils => some []
 | .st n, .st k x => castN SU.D k n x
 | .st n, .agg l => bif Codes.fro n then Codes.make n l else none
 | .fp τ c, .fp τ' x c' => bif Nat.beq c c' then castF (fun X => X) τ' τ x else none
 | .nils, .nils => some ()
 | .nilp, .nilp => some ()
 | .nilm, .nilm => some ()
 | .nilf, .nilf => some ()
 | .nili, .nili => some ()
 | .ptr id c, .ptr k p r c' => match p with
  | [] => bif Nat.beq r 0 && Nat.beq c c' && isK ks id k then some () else none
  | _ => none
 | .rptr id c, .ptr k p r c' => match p with
  | [] => bif Nat.beq c c' && isK ks id k then some r else none
  | _ => none
 | .part id, .sref k p r n => match p with
  | [] => bif isK ks id k then some (r, n) else none
  | _ => none
 | .full id, .sfull k p => match p with
  | [] => bif isK ks id k then some () else none
  | _ => none
 | .full id, .nils => bif noK ks id then some () else none
 | .mref id, .mref k => bif isK ks id k then some () else none
 | .agg l, .agg m => exEs ks l m
 | .agg l, .st k x => bif Codes.fro k then exEs ks l (cellsE 0 [] (.st k) x 0 0 (SU.sz k)) else none
 | .tup l, .tup m => exEs ks l m
 | .fn f l, .fn g m => bif Nat.beq f g then exEs ks l m else none
 | _, _ => none
def exEs (ks : List (Option Nat)) : (l : List Sh) -> List EV -> Option (DS l)
 | [], [] => some ()
 | a :: l, u :: m => match exE ks a u with
  | some x => match exEs ks l m with
   | some y => some (x, y)
   | none => none
  | none => none
 | _, _ => none
end
def exO (ks : List (Option Nat)) (k : Nat) : (o : OSh) -> OD -> Option o.D
 | .dead, _ => some ()
 | .lst e τ, .lst v => bif Nat.beq v.e e then castF List v.τ τ v.l else none
 | .box e τ, .lst ⟨e', τ', [x]⟩ => bif Nat.beq e' e then castF (fun X => X) τ' τ x else none
 | .cells e l, .cells e' m => bif Nat.beq e' e then exEs ks l m else none
 | .cells e l, .lst ⟨e', τ', [x]⟩ => bif Nat.beq e' e && froT τ' then exEs ks l (cellsE k [] τ' x 0 0 τ'.sz) else none
 | .mp s τ, .mp s' τ' g => bif s == s' then castF (fun X => MKey -> Option X) τ' τ g else none
 | _, _ => none
def exV : (o : OSh) -> Option o.D
 | .dead => some ()
 | .lst _ τ => bif froT τ then some [] else none
 | _ => none
def exOs (ks : List (Option Nat)) (H : EHeap) : (l : List OSh) -> List (Option Nat) -> Option (DO l)
 | [], [] => some ()
 | o :: l, some k :: m => match exO ks k o (H.obj k) with
  | some x => match exOs ks H l m with
   | some y => some (x, y)
   | none => none
  | none => none
 | o :: l, none :: m => match exV o with
  | some x => match exOs ks H l m with
   | some y => some (x, y)
   | none => none
  | none => none
 | _, _ => none
def exT (ks : List (Option Nat)) (env : Nat -> EV) : (l : List (Nat × Sh)) -> Option (DT l)
 | [] => some ()
 | (t, a) :: l => match exE ks a (env t) with
  | some x => match exT ks env l with
   | some y => some (x, y)
   | none => none
  | none => none
mutual
def bindE : Sh -> EV -> List (Nat × Option Nat) -> List (Nat × Option Nat)
 | .ptr id _, .ptr k _ _ _, b => (id, some k) :: b
 | .rptr id _, .ptr k _ _ _, b => (id, some k) :: b
 | .part id, .sref k _ _ _, b => (id, some k) :: b
 | .full id, .sfull k _, b => (id, some k) :: b
 | .full id, .nils, b => (id, none) :: b
 | .mref id, .mref k, b => (id, some k) :: b
 | .agg l, .agg m, b => bindEs l m b
 | .tup l, .tup m, b => bindEs l m b
 | .fn _ l, .fn _ m, b => bindEs l m b
 | _, _, b => b
def bindEs : List Sh -> List EV -> List (Nat × Option Nat) -> List (Nat × Option Nat)
 | a :: l, u :: m, b => bindEs l m (bindE a u b)
 | _, _, b => b
end
def bindT (env : Nat -> EV) : List (Nat × Sh) -> List (Nat × Option Nat) -> List (Nat × Option Nat)
 | [], b => b
 | (t, a) :: l, b => bindT env l (bindE a (env t) b)
def lookK : List (Nat × Option Nat) -> Nat -> Option (Option Nat)
 | [], _ => none
 | (i, k) :: l, j => bif Nat.beq i j then some k else lookK l j
def bindO (H : EHeap) : List OSh -> Nat -> List (Nat × Option Nat) -> List (Nat × Option Nat)
 | [], _, b => b
 | .cells _ l :: os, j, b => match lookK b j with
  | some (some k) => match H.obj k with
   | .cells _ m => bindO H os (j + 1) (bindEs l m b)
   | _ => bindO H os (j + 1) b
  | _ => bindO H os (j + 1) b
 | _ :: os, j, b => bindO H os (j + 1) b
def ksOf (b : List (Nat × Option Nat)) : List OSh -> Nat -> List (Option Nat)
 | [], _ => []
 | _ :: os, j => (match lookK b j with
  | some k => k
  | none => none) :: ksOf b os (j + 1)
def memK (k : Nat) : List (Option Nat) -> Bool
 | [] => false
 | some x :: l => Nat.beq x k || memK k l
 | none :: l => memK k l
def nodK : List (Option Nat) -> Bool
 | [] => true
 | some x :: l => !memK x l && nodK l
 | none :: l => nodK l
def lowK : Nat -> Nat -> List (Option Nat) -> List OSh -> Bool
 | 0, _, _, _ => true
 | n + 1, j, k :: ks, o :: os => (match o with
  | .dead => true
  | _ => match k with
   | some k => Nat.beq k j
   | none => false) && lowK n (j + 1) ks os
 | _, _, _, _ => false
def idsL : Nat -> Nat -> List OSh -> List (Nat × Option Nat)
 | 0, _, _ => []
 | _ + 1, _, [] => []
 | n + 1, j, .dead :: os => idsL n (j + 1) os
 | n + 1, j, _ :: os => (j, some j) :: idsL n (j + 1) os
end
end Go.Abs
namespace Go.Abs
open Go
section
variable {H H' : Heap} {m : Id -> Option Id} {Z : Id -> Prop}
theorem KG.ptrL {i j : Id} {r c : Nat} (hl : SlotLike (H.slot i) (H'.slot j)) (hm : m j = some i) : KG H H' m Z (.ptr i 0 r c) (.ptr j 0 r c) := by
 rintro E ι F w v rr ⟨h0, h1⟩
 refine ⟨h0, ?_⟩
 cases hs' : H'.slot j with
 | dead => trivial
 | mp s g => trivial
 | unborn => rw [hs'] at hl; cases hs : H.slot i <;> rw [hs] at hl <;> exact hl.elim
 | live o' =>
  rw [hs'] at hl
  cases hs : H.slot i with
  | live o =>
   rw [hs] at hl h1
   obtain ⟨a, b, c, d⟩ := hl
   show 0 <= o'.ver /\ _
   rw [mι_some hm, a, c]; exact h1
  | unborn => rw [hs] at hl; exact hl.elim
  | dead => rw [hs] at hl; exact hl.elim
  | mp _ _ => rw [hs] at hl; exact hl.elim
theorem KG.srefL {i j : Id} {r n : Nat} (hl : SlotLike (H.slot i) (H'.slot j)) (hm : m j = some i) : KG H H' m Z (.sref i 0 r n) (.sref j 0 r n) := by
 rintro E ι F w v rr ⟨h0, h1⟩
 refine ⟨h0, ?_⟩
 cases hs' : H'.slot j with
 | dead => trivial
 | mp s g => trivial
 | unborn => rw [hs'] at hl; cases hs : H.slot i <;> rw [hs] at hl <;> exact hl.elim
 | live o' =>
  rw [hs'] at hl
  cases hs : H.slot i with
  | live o =>
   rw [hs] at hl h1
   obtain ⟨a, b, c, d⟩ := hl
   show 0 <= o'.ver /\ _
   rw [mι_some hm, a, b, c, d]; exact h1
  | unborn => rw [hs] at hl; exact hl.elim
  | dead => rw [hs] at hl; exact hl.elim
  | mp _ _ => rw [hs] at hl; exact hl.elim
theorem KG.mrefL {i j : Id} (hl : SlotLike (H.slot i) (H'.slot j)) (hm : m j = some i) : KG H H' m Z (.mref i) (.mref j) := by
 rintro E ι F w v rr ⟨h0, h1⟩
 refine ⟨h0, ?_⟩
 cases hs' : H'.slot j with
 | dead => trivial
 | live o' => trivial
 | unborn => rw [hs'] at hl; cases hs : H.slot i <;> rw [hs] at hl <;> exact hl.elim
 | mp s g =>
  rw [hs'] at hl
  cases hs : H.slot i with
  | mp _ _ => rw [hs] at h1; rw [mι_some hm]; exact h1
  | unborn => rw [hs] at hl; exact hl.elim
  | dead => rw [hs] at hl; exact hl.elim
  | live _ => rw [hs] at hl; exact hl.elim
theorem KG.deadS {i j : Id} {r n r' n' : Nat} (hd : H'.slot j = .dead) : KG H H' m Z (.sref i 0 r n) (.sref j 0 r' n') := fun E ι F w v rr h => ⟨h.1, by rw [hd]; trivial⟩
theorem KG.deadP {i j : Id} {r n r' n' : Nat} (hd : H'.slot j = .dead) : KG H H' m Z (.ptr i 0 r n) (.ptr j 0 r' n') := fun E ι F w v rr h => ⟨h.1, by rw [hd]; trivial⟩
theorem KG.deadM {i j : Id} (hd : H'.slot j = .dead) : KG H H' m Z (.mref i) (.mref j) := fun E ι F w v rr h => ⟨h.1, by rw [hd]; trivial⟩
end
section
variable [SU] [Codes]
structure Roots (ks : List (Option Nat)) (H H' : EHeap) (m : Id -> Option Id) : Prop where
 sm : ∀ j k, nthK ks j = some k -> (toH H').slot ⟨j, []⟩ = .dead \/ (SlotLike ((toH H).slot ⟨k, []⟩) ((toH H').slot ⟨j, []⟩) /\ H'.len j [] = H.len k [] /\ m ⟨j, []⟩ = some ⟨k, []⟩)
 nn : ∀ j, nthK ks j = none -> j < ks.length -> (toH H').slot ⟨j, []⟩ = .dead \/ ∃ o', (toH H').slot ⟨j, []⟩ = .live o' /\ o'.ver = 0 /\ H'.len j [] = some 0
variable {ks : List (Option Nat)} {H H' : EHeap} {m : Id -> Option Id} {Z : Id -> Prop}
theorem Roots.full (k : Roots ks H H' m) {j i : Nat} (h : nthK ks j = some i) : KG (toH H) (toH H') m Z (toV H.len (.sfull i [])) (toV H'.len (.sfull j [])) := by
 simp only [toV]
 rcases k.sm j i h with hd | ⟨h1, h2, h3⟩
 ·cases H.len i [] <;> cases H'.len j [] <;> exact KG.deadS hd
 ·rw [h2]
  cases H.len i [] <;> exact KG.srefL h1 h3
theorem Roots.nil (k : Roots ks H H' m) {j : Nat} (h : nthK ks j = none) (hl : j < ks.length) : KG (toH H) (toH H') m Z .nils (toV H'.len (.sfull j [])) := by
 simp only [toV]
 rcases k.nn j h hl with hd | ⟨o', h1, h2, h3⟩
 ·have : ∀ n, KG (toH H) (toH H') m Z .nils (.sref ⟨j, []⟩ 0 0 n) := fun n E ι F w v rr h => by
   have h : v = .slice none 0 0 := h
   subst h
   exact ⟨rfl, by rw [hd]; trivial⟩
  cases H'.len j [] <;> exact this _
 ·rw [h3]; exact KG.virt h1 h2.symm
mutual
theorem exE_ok (k : Roots ks H H' m) : ∀ (a : Sh) (u : EV) (x : a.D), exE ks a u = some x -> KG (toH H) (toH H') m Z (toV H.len u) (toV H'.len (mkE a x))
 | .un, u, x, h => by simp only [mkE, toV]; exact KG.un
 | .b, u, x, h => by
  cases u <;> simp only [exE] at h <;> try (cases h; done)
  injection h with h; subst h; simp only [mkE, toV]; exact KG.t _
 | .i k, u, x, h => by
  cases u <;> simp only [exE] at h <;> try (cases h; done)
  have hh := bif_none h
  clear h
  obtain ⟨h1, h⟩ := hh
  have := kindEq_eq h1
  subst this
  injection h with h; subst h; simp only [mkE, toV]; exact KG.t _
 | .s, u, x, h => by
  cases u <;> simp only [exE] at h <;> try (cases h; done)
  injection h with h; subst h; simp only [mkE, toV]; exact KG.t _
 | .fz τ, u, x, h => by
  cases u <;> simp only [exE] at h <;> try (cases h; done)
  ·obtain ⟨e, h⟩ := castL_ok h
   subst e
   obtain rfl := eq_of_heq h
   simp only [mkE, toV]; exact KG.t _
  ·injection h with h; subst h
   simp only [mkE, toV, encL]
   exact KG.of_wk KG.nils (Wk.nils _ _)
 | .st n, u, x, h => by
  cases u <;> simp only [exE] at h <;> try (cases h; done)
  ·obtain ⟨e, h⟩ := castN_ok _ _ _ _ _ h
   subst e
   obtain rfl := eq_of_heq h
   simp only [mkE, toV]; exact KG.agg fun j _ => KG.t _
  ·rename_i l
   have hh := bif_none h
   clear h
   obtain ⟨hf, h⟩ := hh
   obtain ⟨m1, m2⟩ := Codes.make_ok _ _ _ h
   simp only [mkE, toV, m1]
   refine KG.agg fun j hj => ?_
   obtain ⟨u', e1, e2⟩ := m2 j hj
   obtain ⟨u'', e1', e3⟩ := Codes.cell_ok n x j hf
   rw [e1] at e1'
   injection e1' with e1'
   subst e1'
   refine KG.of_wk' (e2 H.len) ?_
   rw [e3 hj]; exact KG.t _
 | .fp τ c, u, x, h => by
  cases u <;> simp only [exE] at h <;> try (cases h; done)
  have hh := bif_none h
  clear h
  obtain ⟨hb, h⟩ := hh
  obtain rfl := natBeq hb
  obtain ⟨e, h⟩ := castI_ok h
  subst e
  obtain rfl := eq_of_heq h
  simp only [mkE, toV]; exact KG.fp
 | .nils, u, x, h => by cases u <;> simp only [exE] at h <;> first | (cases h; done) | (simp only [mkE, toV]; exact KG.nils)
 | .nilp, u, x, h => by cases u <;> simp only [exE] at h <;> first | (cases h; done) | (simp only [mkE, toV]; exact KG.nilp)
 | .nilm, u, x, h => by cases u <;> simp only [exE] at h <;> first | (cases h; done) | (simp only [mkE, toV]; exact KG.nilm)
 | .nilf, u, x, h => by cases u <;> simp only [exE] at h <;> first | (cases h; done) | (simp only [mkE, toV]; exact KG.nilf)
 | .nili, u, x, h => by cases u <;> simp only [exE] at h <;> first | (cases h; done) | (simp only [mkE, toV]; exact KG.t _)
 | .ptr id c, u, x, h => by
  cases u <;> simp only [exE] at h <;> try (cases h; done)
  rename_i i p r c'
  cases p with
  | cons _ _ => cases h
  | nil =>
   have hh := bif_none h
   clear h
   obtain ⟨hb, h⟩ := hh
   simp only [Bool.and_eq_true] at hb
   obtain ⟨⟨b1, b2⟩, b3⟩ := hb
   obtain rfl := natBeq b1
   obtain rfl := natBeq b2
   simp only [mkE, toV]
   rcases k.sm id i (isK_out b3) with hd | ⟨h1, h2, h3⟩
   ·exact KG.deadP hd
   ·exact KG.ptrL h1 h3
 | .rptr id c, u, x, h => by
  cases u <;> simp only [exE] at h <;> try (cases h; done)
  rename_i i p r c'
  cases p with
  | cons _ _ => cases h
  | nil =>
   have hh := bif_none h
   clear h
   obtain ⟨hb, h⟩ := hh
   simp only [Bool.and_eq_true] at hb
   obtain ⟨b2, b3⟩ := hb
   obtain rfl := natBeq b2
   injection h with h
   subst h
   simp only [mkE, toV]
   rcases k.sm id i (isK_out b3) with hd | ⟨h1, h2, h3⟩
   ·exact KG.deadP hd
   ·exact KG.ptrL h1 h3
 | .part id, u, x, h => by
  cases u <;> simp only [exE] at h <;> try (cases h; done)
  rename_i i p r n
  cases p with
  | cons _ _ => cases h
  | nil =>
   have hh := bif_none h
   clear h
   obtain ⟨hb, h⟩ := hh
   injection h with h
   subst h
   simp only [mkE, toV]
   rcases k.sm id i (isK_out hb) with hd | ⟨h1, h2, h3⟩
   ·exact KG.deadS hd
   ·exact KG.srefL h1 h3
 | .full id, u, x, h => by
  cases u <;> simp only [exE] at h <;> try (cases h; done)
  ·rename_i i p
   cases p with
   | cons _ _ => cases h
   | nil =>
    have hh := bif_none h
    clear h
    obtain ⟨hb, h⟩ := hh
    simp only [mkE]
    exact k.full (isK_out hb)
  ·have hh := bif_none h
   clear h
   obtain ⟨hb, h⟩ := hh
   obtain ⟨h1, h2⟩ := noK_out hb
   simp only [mkE]
   rw [show toV H.len .nils = .nils by simp only [toV]]
   exact k.nil h1 h2
 | .mref id, u, x, h => by
  cases u <;> simp only [exE] at h <;> try (cases h; done)
  rename_i i
  have hh := bif_none h
  clear h
  obtain ⟨hb, h⟩ := hh
  simp only [mkE, toV]
  rcases k.sm id i (isK_out hb) with hd | ⟨h1, h2, h3⟩
  ·exact KG.deadM hd
  ·exact KG.mrefL h1 h3
 | .agg l, u, x, h => by
  cases u <;> simp only [exE] at h <;> try (cases h; done)
  ·rename_i k' y
   have hh := bif_none h
   clear h
   obtain ⟨hf, h⟩ := hh
   obtain ⟨e1, e2⟩ := exEs_ok k l _ x h
   rw [cellsE_len] at e1
   simp only [mkE, toV, <- e1]
   refine KG.agg fun j hj => ?_
   have := e2 j (by rw [cellsE_len]; exact hj)
   rw [cellsE_at _ _ _ _ _ _ _ _ _ hj, Nat.zero_add, cellE_F (τ := .st k') hf hj] at this
   exact this
  ·rename_i l'
   obtain ⟨e1, e2⟩ := exEs_ok k l l' x h
   simp only [mkE, toV, <- e1]
   exact KG.agg fun j hj => e2 j hj
 | .tup l, u, x, h => by
  cases u <;> simp only [exE] at h <;> try (cases h; done)
  rename_i l'
  obtain ⟨e1, e2⟩ := exEs_ok k l l' x h
  simp only [mkE, toV, <- e1]
  exact KG.tup fun j hj => e2 j hj
 | .fn f l, u, x, h => by
  cases u <;> simp only [exE] at h <;> try (cases h; done)
  rename_i f' l'
  have hh := bif_none h
  clear h
  obtain ⟨hb, h⟩ := hh
  obtain rfl := natBeq hb
  obtain ⟨e1, e2⟩ := exEs_ok k l l' x h
  simp only [mkE, toV, <- e1]
  exact KG.fn fun j hj => e2 j hj
theorem exEs_ok (k : Roots ks H H' m) : ∀ (l : List Sh) (us : List EV) (x : DS l), exEs ks l us = some x -> us.length = (mkEs l x).length /\ ∀ j, j < us.length -> KG (toH H) (toH H') m Z (toVs H.len us j) (toVs H'.len (mkEs l x) j)
 | [], us, x, h => by
  cases us with
  | nil => exact ⟨rfl, fun j hj => absurd hj (Nat.not_lt_zero _)⟩
  | cons _ _ => cases h
 | a :: l, us, x, h => by
  cases us with
  | nil => cases h
  | cons u us =>
   simp only [exEs] at h
   split at h
   ·rename_i x1 h1
    split at h
    ·rename_i x2 h2
     injection h with h; subst h
     have e := exE_ok k a u x1 h1
     obtain ⟨e1, e2⟩ := exEs_ok k l us x2 h2
     refine ⟨by simp only [mkEs, List.length_cons, e1], fun j hj => ?_⟩
     cases j with
     | zero => simp only [mkEs, toVs]; exact e
     | succ j => simp only [mkEs, toVs]; exact e2 j (by simpa using hj)
    ·cases h
   ·cases h
end
theorem exT_ok (k : Roots ks H H' m) {env : Nat -> EV} : ∀ (l : List (Nat × Sh)) (x : DT l), exT ks env l = some x -> ∀ t, KG (toH H) (toH H') m Z (toV H.len (env t)) (toV H'.len (mkEnv l x t))
 | [], x, h, t => by simp only [mkEnv, toV]; exact KG.un
 | (r, a) :: l, x, h, t => by
  simp only [exT] at h
  split at h
  ·rename_i x1 h1
   split at h
   ·rename_i x2 h2
    injection h with h; subst h
    simp only [mkEnv]
    cases hb : Nat.beq t r with
    | true => obtain rfl := natBeq hb; exact exE_ok k a _ x1 h1
    | false => exact exT_ok k l x2 h2 t
   ·cases h
  ·cases h
def nthO : List OSh -> Nat -> Option OSh
 | [], _ => none
 | o :: _, 0 => some o
 | _ :: l, j + 1 => nthO l j
theorem exOs_at {H : EHeap} : ∀ (l : List OSh) (ms : List (Option Nat)) (y : DO l), exOs ks H l ms = some y -> l.length = ms.length /\ ∀ j, j < l.length -> ∃ o, nthO l j = some o /\
  ((∃ k x, nthK ms j = some k /\ exO ks k o (H.obj k) = some x /\ mkObj l y j = mkO o x) \/ (∃ x, nthK ms j = none /\ exV o = some x /\ mkObj l y j = mkO o x))
 | [], ms, y, h => by
  cases ms with
  | nil => exact ⟨rfl, fun j hj => absurd hj (Nat.not_lt_zero _)⟩
  | cons a ms => cases a <;> cases h
 | o :: l, ms, y, h => by
  cases ms with
  | nil => cases h
  | cons a ms =>
   cases a with
   | some k =>
    simp only [exOs] at h
    split at h
    ·rename_i x1 h1
     split at h
     ·rename_i x2 h2
      injection h with h; subst h
      obtain ⟨e1, e2⟩ := exOs_at l ms x2 h2
      refine ⟨by simp [e1], fun j hj => ?_⟩
      cases j with
      | zero => exact ⟨o, rfl, .inl ⟨k, x1, rfl, h1, rfl⟩⟩
      | succ j => exact e2 j (by simpa using hj)
     ·cases h
    ·cases h
   | none =>
    simp only [exOs] at h
    split at h
    ·rename_i x1 h1
     split at h
     ·rename_i x2 h2
      injection h with h; subst h
      obtain ⟨e1, e2⟩ := exOs_at l ms x2 h2
      refine ⟨by simp [e1], fun j hj => ?_⟩
      cases j with
      | zero => exact ⟨o, rfl, .inr ⟨x1, rfl, h1, rfl⟩⟩
      | succ j => exact e2 j (by simpa using hj)
     ·cases h
    ·cases h
theorem mkObj_out : ∀ (l : List OSh) (y : DO l) (j : Nat), l.length <= j -> mkObj l y j = .none
 | [], _, _, _ => rfl
 | _ :: l, y, 0, h => by simp at h
 | _ :: l, y, j + 1, h => mkObj_out l y.2 j (by simpa using h)
def mK (ks : List (Option Nat)) : Id -> Option Id := fun i => match nthK ks i.k with
 | some k => some ⟨k, i.p⟩
 | none => none
inductive ORead (H : EHeap) (k : Nat) (ks : List (Option Nat)) : (o : OSh) -> o.D -> Prop where
 | dead {x : Unit} : ORead H k ks .dead x
 | lst {e : TypeId} {τ : Ty} {l : List τ.D} (ho : H.obj k = .lst ⟨e, τ, l⟩) : ORead H k ks (.lst e τ) l
 | box {e : TypeId} {τ : Ty} {x : τ.D} (ho : H.obj k = .lst ⟨e, τ, [x]⟩) : ORead H k ks (.box e τ) x
 | cells {e : TypeId} {l : List Sh} {m : List EV} {x : DS l} (ho : H.obj k = .cells e m) (hx : exEs ks l m = some x) : ORead H k ks (.cells e l) x
 | boxc {e : TypeId} {l : List Sh} {τ : Ty} {z : τ.D} {x : DS l} (ho : H.obj k = .lst ⟨e, τ, [z]⟩) (hf : froT τ = true) (hx : exEs ks l (cellsE k [] τ z 0 0 τ.sz) = some x) : ORead H k ks (.cells e l) x
 | mp {s : Bool} {τ : Ty} {g : MKey -> Option τ.D} (ho : H.obj k = .mp s τ g) : ORead H k ks (.mp s τ) g
theorem exO_read {H : EHeap} {k : Nat} : ∀ (o : OSh) (x : o.D), exO ks k o (H.obj k) = some x -> ORead H k ks o x
 | .dead, x, h => .dead
 | .lst e τ, x, h => by
  cases ho : H.obj k <;> rw [ho] at h <;> simp only [exO] at h <;> try (cases h; done)
  rename_i v
  obtain ⟨ve, vτ, vl⟩ := v
  have hh := bif_none h
  clear h
  obtain ⟨hb, h⟩ := hh
  obtain rfl := natBeq hb
  obtain ⟨e1, h⟩ := castL_ok h
  simp only at e1
  subst e1
  obtain rfl := eq_of_heq h
  exact .lst ho
 | .box e τ, x, h => by
  cases ho : H.obj k <;> rw [ho] at h <;> try (cases h; done)
  rename_i v
  obtain ⟨ve, vτ, vl⟩ := v
  match vl, h, ho with
  | [], h, ho => cases h
  | [z], h, ho =>
   simp only [exO] at h
   have hh := bif_none h
   clear h
   obtain ⟨hb, h⟩ := hh
   obtain rfl := natBeq hb
   obtain ⟨e1, h⟩ := castI_ok h
   subst e1
   obtain rfl := eq_of_heq h
   exact .box ho
  | _ :: _ :: _, h, ho => cases h
 | .cells e l, x, h => by
  cases ho : H.obj k <;> rw [ho] at h <;> try (cases h; done)
  ·rename_i v
   obtain ⟨ve, vτ, vl⟩ := v
   match vl, h, ho with
   | [], h, ho => cases h
   | [z], h, ho =>
    simp only [exO] at h
    have hh := bif_none h
    clear h
    obtain ⟨hb, h⟩ := hh
    simp only [Bool.and_eq_true] at hb
    obtain rfl := natBeq hb.1
    exact .boxc ho hb.2 h
   | _ :: _ :: _, h, ho => cases h
  ·simp only [exO] at h
   have hh := bif_none h
   clear h
   obtain ⟨hb, h⟩ := hh
   obtain rfl := natBeq hb
   exact .cells ho h
 | .mp s τ, x, h => by
  cases ho : H.obj k <;> rw [ho] at h <;> simp only [exO] at h <;> try (cases h; done)
  have hh := bif_none h
  clear h
  obtain ⟨hb, h⟩ := hh
  obtain rfl := eq_of_beq hb
  obtain ⟨e1, h⟩ := castF_ok _ _ _ _ _ h
  subst e1
  obtain rfl := eq_of_heq h
  exact .mp ho
end
end Go.Abs
namespace Go.Abs
open Go
section
variable [SU] [Codes]
variable {ks : List (Option Nat)} {H : EHeap} {lo : Nat} {os : List OSh} {y : DO os}
theorem mkH_slot {j : Nat} {p : List Nat} : (toH (mkH lo os y)).slot ⟨j, p⟩ = (mkObj os y j).slot (mkH lo os y).len j p := rfl
theorem mkH_len {j : Nat} {p : List Nat} : (mkH lo os y).len j p = (mkObj os y j).len p := rfl
theorem memK_out : ∀ {l : List (Option Nat)} {k j : Nat}, nthK l j = some k -> memK k l = true
 | [], _, _, h => by cases h
 | some x :: l, k, 0, h => by injection h with h; subst h; simp [memK]
 | none :: l, k, 0, h => by cases h
 | some x :: l, k, j + 1, h => by simp only [memK, Bool.or_eq_true]; exact .inr (memK_out (l := l) h)
 | none :: l, k, j + 1, h => memK_out (l := l) h
theorem nodK_out : ∀ {l : List (Option Nat)} {i j k : Nat}, nodK l = true -> nthK l i = some k -> nthK l j = some k -> i = j
 | [], _, _, _, _, h, _ => by cases h
 | some x :: l, 0, 0, k, _, _, _ => rfl
 | none :: l, 0, _, k, _, h, _ => by cases h
 | none :: l, _ + 1, 0, k, _, _, h => by cases h
 | none :: l, i + 1, j + 1, k, hn, h1, h2 => by rw [nodK_out (l := l) hn h1 h2]
 | some x :: l, 0, j + 1, k, hn, h1, h2 => by
  injection h1 with h1; subst h1
  simp only [nodK, Bool.and_eq_true, Bool.not_eq_true'] at hn
  rw [memK_out (l := l) h2] at hn; cases hn.1
 | some x :: l, i + 1, 0, k, hn, h1, h2 => by
  injection h2 with h2; subst h2
  simp only [nodK, Bool.and_eq_true, Bool.not_eq_true'] at hn
  rw [memK_out (l := l) h1] at hn; cases hn.1
 | some x :: l, i + 1, j + 1, k, hn, h1, h2 => by
  simp only [nodK, Bool.and_eq_true] at hn
  rw [nodK_out (l := l) hn.2 h1 h2]
theorem cellsV_slot {len : Len} {k : Nat} {e : TypeId} {l : List EV} {p : List Nat} {o' : AObj} (h : (OD.cells e l).slot len k p = .live o') : p = [] /\ o' = { elem := e, sz := l.length, ver := 0, n := 1, get := fun _ c => toVs len l c } := by
 cases p with
 | cons _ _ => cases h
 | nil => injection h with h; exact ⟨rfl, h.symm⟩
theorem mK_at {j k : Nat} {p : List Nat} (h : nthK ks j = some k) : mK ks ⟨j, p⟩ = some ⟨k, p⟩ := by simp only [mK, h]
theorem mK_no {j : Nat} {p : List Nat} (h : nthK ks j = none) : mK ks ⟨j, p⟩ = none := by simp only [mK, h]
theorem lst_same {H H' : EHeap} {j k : Nat} {v : LV} (ho : H.obj k = .lst v) (ho' : H'.obj j = .lst v) {m : Id -> Option Id} {Z : Id -> Prop} (hm : ∀ p, m ⟨j, p⟩ = some ⟨k, p⟩) :
  ∀ p o', (toH H').slot ⟨j, p⟩ = .live o' -> ∃ o, (toH H).slot ⟨k, p⟩ = .live o /\ o'.ver = o.ver /\ o'.elem = o.elem /\ o'.sz = o.sz /\ o'.n = o.n /\ ∀ r, r < o'.n -> ∀ c, c < o'.sz -> KG (toH H) (toH H') m Z (o.get r c) (o'.get r c) := fun p o' h => by
 have h : (H'.obj j).slot H'.len j p = .live o' := h
 rw [ho'] at h
 simp only [OD.slot] at h
 cases hv : v.at p with
 | none => rw [hv] at h; cases h
 | some a =>
  rw [hv] at h
  injection h with h
  subst h
  have hat : H.at k p = some a := by simp only [EHeap.at, ho]; exact hv
  have hat' : H'.at j p = some a := by simp only [EHeap.at, ho']; exact hv
  refine ⟨_, slot_lst hat, rfl, rfl, rfl, rfl, fun r hr c hc => ?_⟩
  show KG _ _ _ _ (cellV H.len k p r c (cellC a.τ (a.row r) c)) (cellV H'.len j p r c (cellC a.τ (a.row r) c))
  cases hcc : cellC a.τ (a.row r) c with
  | ev u => exact KG.dat (cellC_dat _ _ _ _ hcc)
  | own t e l =>
   have h1 : (toH H).slot ⟨k, p ++ [c, r]⟩ = .live (LV.obj H.len k (p ++ [c, r]) ⟨t, e, l⟩) := slot_lst (by rw [EHeap.at_append hat, LV.at_one, LV.kid_of hcc])
   have h2 : (toH H').slot ⟨j, p ++ [c, r]⟩ = .live (LV.obj H'.len j (p ++ [c, r]) ⟨t, e, l⟩) := slot_lst (by rw [EHeap.at_append hat', LV.at_one, LV.kid_of hcc])
   exact KG.srefL (by rw [h1, h2]; exact ⟨rfl, rfl, rfl, rfl⟩) (hm _)
theorem roots_ok (h : exOs ks H os ks = some y) : Roots ks H (mkH lo os y) (mK ks) := by
 obtain ⟨e1, e2⟩ := exOs_at os ks y h
 refine ⟨fun j k hj => ?_, fun j hj hl => ?_⟩
 ·obtain ⟨o, -, hx⟩ := e2 j (by rw [e1]; exact nthK_lt hj)
  rcases hx with ⟨k', x, q1, q2, q3⟩ | ⟨x, q1, q2, q3⟩
  ·rw [hj] at q1; injection q1 with q1; subst q1
   rw [mkH_slot, mkH_len, q3]
   have rd := exO_read o x q2
   cases rd with
   | dead => exact .inl rfl
   | lst ho => exact .inr ⟨by show SlotLike ((H.obj k).slot H.len k []) _; rw [ho, slot_flatLst]; simp only [mkO]; rw [slot_flatLst]; exact ⟨rfl, rfl, rfl, rfl⟩, by unfold EHeap.len; rw [ho]; rfl, mK_at hj⟩
   | box ho => exact .inr ⟨by show SlotLike ((H.obj k).slot H.len k []) _; rw [ho, slot_flatLst]; simp only [mkO]; rw [slot_flatLst]; exact ⟨rfl, rfl, rfl, rfl⟩, by unfold EHeap.len; rw [ho]; rfl, mK_at hj⟩
   | cells ho hx =>
    refine .inr ⟨?_, by unfold EHeap.len; rw [ho]; rfl, mK_at hj⟩
    have := (slot_cells ho)
    rw [this]
    exact ⟨rfl, rfl, (exEs_len _ _ _ hx).symm, rfl⟩
   | boxc ho hf hx =>
    refine .inr ⟨?_, by unfold EHeap.len; rw [ho]; simp only [mkO, OD.len, LV.at_nil]; rfl, mK_at hj⟩
    show SlotLike ((H.obj k).slot H.len k []) _
    rw [ho, slot_flatLst]
    have := exEs_len _ _ _ hx
    rw [cellsE_len] at this
    exact ⟨rfl, rfl, this.symm, rfl⟩
   | mp ho => exact .inr ⟨by show SlotLike ((H.obj k).slot H.len k []) _; rw [ho]; trivial, by unfold EHeap.len; rw [ho]; rfl, mK_at hj⟩
  ·rw [hj] at q1; cases q1
 ·obtain ⟨o, -, hx⟩ := e2 j (by rw [e1]; exact hl)
  rcases hx with ⟨k', x, q1, q2, q3⟩ | ⟨x, q1, q2, q3⟩
  ·rw [hj] at q1; cases q1
  ·rw [mkH_slot, mkH_len, q3]
   cases o with
   | dead => exact .inl rfl
   | lst e τ =>
    simp only [exV] at q2
    obtain ⟨hf, q2⟩ := bif_none q2
    injection q2 with q2
    subst q2
    refine .inr ⟨_, slot_flatLst, rfl, ?_⟩
    simp only [mkO, OD.len, LV.at_nil]; rfl
   | _ => cases q2
where
 exEs_len : ∀ (l : List Sh) (us : List EV) (x : DS l), exEs ks l us = some x -> us.length = (mkEs l x).length
  | [], us, x, h => by cases us <;> first | rfl | cases h
  | a :: l, us, x, h => by
   cases us with
   | nil => cases h
   | cons u us =>
    simp only [exEs] at h
    split at h
    ·split at h
     ·rename_i x2 h2
      injection h with h; subst h
      simp only [mkEs, List.length_cons, exEs_len l us x2 h2]
     ·cases h
    ·cases h
theorem objs_ok {Z : Id -> Prop} (h : exOs ks H os ks = some y) : ∀ i o', (toH (mkH lo os y)).slot i = .live o' -> (mK ks i = none /\ o'.n = 0) \/ ∃ x o, mK ks i = some x /\ (toH H).slot x = .live o /\ o'.ver = o.ver /\ o'.elem = o.elem /\ o'.sz = o.sz /\ o'.n = o.n /\
  ∀ r, r < o'.n -> ∀ c, c < o'.sz -> KG (toH H) (toH (mkH lo os y)) (mK ks) Z (o.get r c) (o'.get r c) := by
 have hR : Roots ks H (mkH lo os y) (mK ks) := roots_ok h
 obtain ⟨e1, e2⟩ := exOs_at os ks y h
 rintro ⟨j, p⟩ o' hl
 by_cases hj : j < os.length
 ·obtain ⟨o, -, hx⟩ := e2 j hj
  rcases hx with ⟨k, x, q1, q2, q3⟩ | ⟨x, q1, q2, q3⟩
  ·right
   have rd := exO_read o x q2
   have same : ∀ {e : TypeId} {τ : Ty} {l : List τ.D}, H.obj k = .lst ⟨e, τ, l⟩ -> mkO o x = .lst ⟨e, τ, l⟩ -> ∃ x o, mK ks ⟨j, p⟩ = some x /\ (toH H).slot x = .live o /\ o'.ver = o.ver /\ o'.elem = o.elem /\ o'.sz = o.sz /\ o'.n = o.n /\
     ∀ r, r < o'.n -> ∀ c, c < o'.sz -> KG (toH H) (toH (mkH lo os y)) (mK ks) Z (o.get r c) (o'.get r c) := fun ho1 ho2 => by
    obtain ⟨o1, r1, r2, r3, r4, r5, r6⟩ := lst_same (H := H) (H' := mkH lo os y) (j := j) (k := k) (m := mK ks) (Z := Z) ho1 (q3.trans ho2) (fun p => mK_at q1) p o' hl
    exact ⟨⟨k, p⟩, o1, mK_at q1, r1, r2, r3, r4, r5, r6⟩
   rw [mkH_slot, q3] at hl
   cases rd with
   | dead => cases hl
   | lst ho => exact same ho rfl
   | box ho => exact same ho rfl
   | @cells e l ms x ho hx =>
    obtain ⟨rfl, rfl⟩ := cellsV_slot hl
    obtain ⟨f1, f2⟩ := exEs_ok hR l ms x hx (Z := Z)
    refine ⟨⟨k, []⟩, _, mK_at q1, slot_cells ho, rfl, rfl, f1.symm, rfl, fun r hr c hc => ?_⟩
    exact f2 c (by rw [f1]; exact hc)
   | @boxc e l τ z x ho hf hx =>
    obtain ⟨rfl, rfl⟩ := cellsV_slot hl
    obtain ⟨f1, f2⟩ := exEs_ok hR l _ x hx (Z := Z)
    have hat : H.at k [] = some ⟨e, τ, [z]⟩ := by simp only [EHeap.at, ho, LV.at_nil]
    rw [cellsE_len] at f1 f2
    refine ⟨⟨k, []⟩, _, mK_at q1, slot_lst hat, rfl, rfl, f1.symm, rfl, fun r hr c hc => ?_⟩
    have hc : c < (mkEs l x).length := hc
    have hr : r < 1 := hr
    obtain rfl : r = 0 := by omega
    have := f2 c (by omega)
    rw [cellsE_at _ _ _ _ _ _ _ _ _ (by omega), Nat.zero_add] at this
    have e3 := cellE_V (v := ⟨e, τ, [z]⟩) hat 0 c
    have e4 : LV.row ⟨e, τ, [z]⟩ 0 = z := rfl
    rw [e4] at e3
    rw [e3] at this
    exact this
   | mp ho => simp only [mkO] at hl; cases p <;> cases hl
  ·left
   refine ⟨mK_no q1, ?_⟩
   rw [mkH_slot, q3] at hl
   cases o with
   | dead => cases hl
   | lst e τ =>
    simp only [exV] at q2
    obtain ⟨hf, q2⟩ := bif_none q2
    injection q2 with q2
    subst q2
    simp only [mkO, OD.slot] at hl
    cases p with
    | nil => rw [LV.at_nil] at hl; injection hl with hl; subst hl; rfl
    | cons a b => rw [LV.at_flat (v := ⟨e, τ, []⟩) hf (a :: b) (by simp)] at hl; cases hl
   | _ => cases q2
 ·rw [mkH_slot, mkObj_out os y j (Nat.le_of_not_lt hj)] at hl; cases hl
theorem maps_ok {Z : Id -> Prop} (h : exOs ks H os ks = some y) : ∀ i s g', (toH (mkH lo os y)).slot i = .mp s g' -> ∃ x g, mK ks i = some x /\ (toH H).slot x = .mp s g /\ ∀ k, (g k = none /\ g' k = none) \/ ∃ u u', g k = some u /\ g' k = some u' /\ KG (toH H) (toH (mkH lo os y)) (mK ks) Z u u' := by
 obtain ⟨e1, e2⟩ := exOs_at os ks y h
 rintro ⟨j, p⟩ s g' hl
 by_cases hj : j < os.length
 ·obtain ⟨o, -, hx⟩ := e2 j hj
  rw [mkH_slot] at hl
  obtain ⟨τ, g, r1, r2, r3⟩ := slot_mp hl
  rcases hx with ⟨k, x, q1, q2, q3⟩ | ⟨x, q1, q2, q3⟩
  ·rw [q3] at r1
   have rd := exO_read o x q2
   cases rd with
   | mp ho =>
    injection r1 with a b c
    subst a; subst b
    obtain rfl := eq_of_heq c
    subst r2
    refine ⟨⟨k, []⟩, g', mK_at q1, by show (H.obj k).slot _ _ _ = _; rw [ho, r3]; rfl, fun key => ?_⟩
    subst r3
    dsimp only
    split
    ·exact .inr ⟨_, _, rfl, rfl, KG.t _⟩
    ·exact .inl ⟨rfl, rfl⟩
   | _ => cases r1
  ·rw [q3] at r1
   cases o with
   | mp s τ => cases q2
   | _ => cases r1
 ·rw [mkH_slot, mkObj_out os y j (Nat.le_of_not_lt hj)] at hl; cases hl
theorem mK_inj (hn : nodK ks = true) {i j x : Id} (h1 : mK ks i = some x) (h2 : mK ks j = some x) : i = j := by
 obtain ⟨a, p⟩ := i
 obtain ⟨b, q⟩ := j
 simp only [mK] at h1 h2
 cases ha : nthK ks a with
 | none => rw [ha] at h1; cases h1
 | some k =>
  cases hb : nthK ks b with
  | none => rw [hb] at h2; cases h2
  | some k' =>
   rw [ha] at h1; rw [hb] at h2
   injection h1 with h1; injection h2 with h2
   subst h1
   injection h2 with h2 h3
   subst h2; subst h3
   rw [nodK_out hn ha hb]
theorem mkH_next : Nx (toH (mkH lo os y)) := fun i hi => by
 obtain ⟨j, p⟩ := i
 have hi : os.length <= j := hi
 rw [mkH_slot, mkObj_out os y j hi]; rfl
theorem part_ok (h : exOs ks H os ks = some y) (hn : nodK ks = true) : Part (toH H) (toH (mkH os.length os y)) (mK ks) where
 next := mkH_next
 lo := rfl
 obj := objs_ok h
 mp := maps_ok h
 inj i j x _ _ h1 h2 := mK_inj hn h1 h2
theorem lowK_out : ∀ {n j : Nat} {ks : List (Option Nat)} {os : List OSh}, lowK n j ks os = true -> ∀ i, i < n -> nthO os i = some .dead \/ nthK ks i = some (j + i)
 | 0, _, _, _, _, i, hi => absurd hi (Nat.not_lt_zero _)
 | n + 1, j, [], _, h, i, hi => by cases h
 | n + 1, j, _ :: _, [], h, i, hi => by cases h
 | n + 1, j, k :: ks, o :: os, h, i, hi => by
  simp only [lowK, Bool.and_eq_true] at h
  cases i with
  | zero =>
   cases o with
   | dead => exact .inl rfl
   | _ =>
    right
    cases k with
    | none => exact absurd h.1 (by simp)
    | some k => obtain rfl := natBeq h.1; rfl
  | succ i =>
   rcases lowK_out h.2 i (by omega) with h | h
   ·exact .inl h
   ·right
    show nthK ks i = _
    rw [h]; congr 1; omega
structure SSh where
 sl : List (Nat × Sh)
 os : List OSh
def mkS (nt lo : Nat) (sh : SSh) (x : DT sh.sl) (y : DO sh.os) : ESt := ⟨nt, mkEnv sh.sl x, mkH lo sh.os y⟩
def exS (s : ESt) (ks : List (Option Nat)) (sh : SSh) : Option (DT sh.sl × DO sh.os) := bif nodK ks && lowK s.heap.lo 0 ks sh.os then (match exT ks s.env sh.sl with
 | some x => match exOs ks s.heap sh.os ks with
  | some y => some (x, y)
  | none => none
 | none => none) else none
theorem exS_ok {s : ESt} {sh : SSh} {x : DT sh.sl} {y : DO sh.os} (h : exS s ks sh = some (x, y)) : WeakT s (mkS s.nt s.heap.lo sh x y) := by
 unfold exS at h
 obtain ⟨hb, h⟩ := bif_none h
 simp only [Bool.and_eq_true] at hb
 obtain ⟨hn, hlo⟩ := hb
 split at h
 ·rename_i x' hx
  split at h
  ·rename_i y' hy
   injection h with h
   injection h with h1 h2
   subst h1; subst h2
   have hR : Roots ks s.heap (mkH s.heap.lo sh.os y') (mK ks) := roots_ok hy
   obtain ⟨e1, e2⟩ := exOs_at _ _ _ hy
   refine Weak.gen (mK ks) (fun _ => False) rfl ⟨rfl, mkH_next, fun i o' ho => ?_, fun i sb g' hm => ?_, fun i j x _ _ h1 h2 => mK_inj hn h1 h2, fun i hi hp => ?_⟩ (fun t => exT_ok hR sh.sl x' hx t)
   ·rcases objs_ok (Z := fun _ => False) hy i o' ho with h | ⟨x, o, a, b, c, d, e, f, g⟩
    ·exact .inl h
    ·exact .inr ⟨x, o, a, b, fun h => h, d, e, Nat.le_of_eq f, g⟩
   ·obtain ⟨x, g, a, b, c⟩ := maps_ok (Z := fun _ => False) hy i sb g' hm
    exact ⟨x, g, a, b, fun h => h, c⟩
   ·obtain ⟨j, p⟩ := i
    simp only at hp hi
    subst hp
    right
    have hi : j < s.heap.lo := hi
    rcases lowK_out hlo j hi with h | h
    ·left
     have hj : j < sh.os.length := by
      refine Classical.byContradiction fun hn => ?_
      have : ∀ (l : List OSh) (j : Nat), l.length <= j -> nthO l j = none := by
       intro l
       induction l with
       | nil => intro j _; rfl
       | cons o l ih => intro j hj; cases j with
        | zero => simp at hj
        | succ j => exact ih j (by simpa using hj)
      rw [this _ _ (Nat.le_of_not_lt hn)] at h; cases h
     obtain ⟨o, ho, hx⟩ := e2 j hj
     rw [h] at ho
     injection ho with ho
     subst ho
     rcases hx with ⟨k, x, _, _, q3⟩ | ⟨x, _, _, q3⟩ <;> (show (mkObj sh.os y' j).slot _ _ _ = _; rw [q3]; rfl)
    ·rw [Nat.zero_add] at h
     rcases hR.sm j j h with hd | ⟨q1, q2, q3⟩
     ·exact .inl hd
     ·exact .inr ⟨q3, q1⟩
  ·cases h
 ·cases h
def ksFor (s : ESt) (sh : SSh) : List (Option Nat) := ksOf (bindO s.heap sh.os 0 (bindT s.env sh.sl (idsL s.heap.lo 0 sh.os))) sh.os 0
end
end Go.Abs
namespace Go.Abs
open Go
structure KCl (K : V -> V -> Prop) : Prop where
 un : ∀ u, K u .un
 und : K .und .und
 t : ∀ x, K (.t x) (.t x)
 nils : K .nils .nils
 nilp : K .nilp .nilp
 nilm : K .nilm .nilm
 nilf : K .nilf .nilf
 fp : ∀ n g, K (.fp n g) (.fp n g)
 agg : ∀ n g g', (∀ j, j < n -> K (g j) (g' j)) -> K (.agg n g) (.agg n g')
 tup : ∀ n g g', (∀ j, j < n -> K (g j) (g' j)) -> K (.tup n g) (.tup n g')
 fn : ∀ f n g g', (∀ j, j < n -> K (g j) (g' j)) -> K (.fn f n g) (.fn f n g')
theorem KCl.of {H H' : Heap} {ι ι' : Id -> Option Nat} {F F' : Nat -> Prop} {w w' : World} (ht : ∀ x v, Reads F w x v -> Reads F' w' x v)
  (hfp : ∀ n g v, VRel H ι F w (.fp n g) v -> VRel H' ι' F' w' (.fp n g) v) : KCl (fun u u' => ∀ v, VRel H ι F w u v -> VRel H' ι' F' w' u' v) where
 un u v _ := trivial
 und v h := h
 t x v h := ht x v h
 nils v h := h
 nilp v h := h
 nilm v h := h
 nilf v h := h
 fp n g v h := hfp n g v h
 agg n g g' h v := fun ⟨cs, h1, h2, h3⟩ => ⟨cs, h1, h2, fun j hj => by obtain ⟨c, a, p, b⟩ := h3 j hj; exact ⟨c, a, p, h j hj _ b⟩⟩
 tup n g g' h v := fun ⟨cs, h1, h2, h3⟩ => ⟨cs, h1, h2, fun j hj => by obtain ⟨c, a, b⟩ := h3 j hj; exact ⟨c, a, h j hj _ b⟩⟩
 fn f n g g' h v := fun ⟨cs, h1, h2, h3⟩ => ⟨cs, h1, h2, fun j hj => by obtain ⟨c, a, b⟩ := h3 j hj; exact ⟨c, a, h j hj _ b⟩⟩
section
variable [SU] [Codes]
mutual
def renE (g : Nat -> Option Nat) : EV -> EV
 | .ptr k p r c => match g k with
  | some j => .ptr j p r c
  | none => .un
 | .sref k p r n => match g k with
  | some j => .sref j p r n
  | none => .un
 | .sfull k p => match g k with
  | some j => .sfull j p
  | none => .un
 | .mref k => match g k with
  | some j => .mref j
  | none => .un
 | .agg l => .agg (renEs g l)
 | .tup l => .tup (renEs g l)
 | .fn f l => .fn f (renEs g l)
 | .un => .un
 | .und => .und
 | .b x => .b x
 | .i k n => .i k n
 | .s x => .s x
 | .fz τ l => .fz τ l
 | .fp τ x c => .fp τ x c
 | .st i x => .st i x
 | .nils => .nils
 | .nilp => .nilp
 | .nilm => .nilm
 | .nilf => .nilf
 | .nili => .nili
def renEs (g : Nat -> Option Nat) : List EV -> List EV
 | [] => []
 | a :: l => renE g a :: renEs g l
end
theorem renEs_len (g : Nat -> Option Nat) : ∀ l : List EV, (renEs g l).length = l.length
 | [] => rfl
 | a :: l => by simp [renEs, renEs_len g l]
mutual
theorem KCl.ren {K : V -> V -> Prop} (C : KCl K) {len len' : Len} {g : Nat -> Option Nat} (hp : ∀ id p r c j, g id = some j -> K (.ptr ⟨id, p⟩ 0 r c) (.ptr ⟨j, p⟩ 0 r c)) (hs : ∀ id p r n j, g id = some j -> K (.sref ⟨id, p⟩ 0 r n) (.sref ⟨j, p⟩ 0 r n))
  (hl : ∀ id p j, g id = some j -> len' j p = len id p) (hm : ∀ id j, g id = some j -> K (.mref ⟨id, []⟩) (.mref ⟨j, []⟩)) : ∀ u : EV, K (toV len u) (toV len' (renE g u))
 | .ptr id p r c => by
  simp only [renE]
  cases hg : g id with
  | none => simp only [toV]; exact C.un _
  | some j => simp only [toV]; exact hp id p r c j hg
 | .sref id p r n => by
  simp only [renE]
  cases hg : g id with
  | none => simp only [toV]; exact C.un _
  | some j => simp only [toV]; exact hs id p r n j hg
 | .sfull id p => by
  simp only [renE]
  cases hg : g id with
  | none => simp only [toV]; exact C.un _
  | some j =>
   simp only [toV]
   rw [hl id p j hg]
   cases len id p <;> exact hs id p 0 _ j hg
 | .mref id => by
  simp only [renE]
  cases hg : g id with
  | none => simp only [toV]; exact C.un _
  | some j => simp only [toV]; exact hm id j hg
 | .agg l => by simp only [renE, toV, renEs_len]; exact C.agg _ _ _ fun j hj => KCl.rens C hp hs hl hm l j
 | .tup l => by simp only [renE, toV, renEs_len]; exact C.tup _ _ _ fun j hj => KCl.rens C hp hs hl hm l j
 | .fn f l => by simp only [renE, toV, renEs_len]; exact C.fn _ _ _ _ fun j hj => KCl.rens C hp hs hl hm l j
 | .un => by simp only [renE, toV]; exact C.un _
 | .und => by simp only [renE, toV]; exact C.und
 | .b _ => by simp only [renE, toV]; exact C.t _
 | .i _ _ => by simp only [renE, toV]; exact C.t _
 | .s _ => by simp only [renE, toV]; exact C.t _
 | .fz _ _ => by simp only [renE, toV]; exact C.t _
 | .fp _ _ _ => by simp only [renE, toV]; exact C.fp _ _
 | .st _ _ => by simp only [renE, toV]; exact C.agg _ _ _ fun j _ => C.t _
 | .nils => by simp only [renE, toV]; exact C.nils
 | .nilp => by simp only [renE, toV]; exact C.nilp
 | .nilm => by simp only [renE, toV]; exact C.nilm
 | .nilf => by simp only [renE, toV]; exact C.nilf
 | .nili => by simp only [renE, toV]; exact C.t _
theorem KCl.rens {K : V -> V -> Prop} (C : KCl K) {len len' : Len} {g : Nat -> Option Nat} (hp : ∀ id p r c j, g id = some j -> K (.ptr ⟨id, p⟩ 0 r c) (.ptr ⟨j, p⟩ 0 r c)) (hs : ∀ id p r n j, g id = some j -> K (.sref ⟨id, p⟩ 0 r n) (.sref ⟨j, p⟩ 0 r n))
  (hl : ∀ id p j, g id = some j -> len' j p = len id p) (hm : ∀ id j, g id = some j -> K (.mref ⟨id, []⟩) (.mref ⟨j, []⟩)) : ∀ (l : List EV) (j : Nat), K (toVs len l j) (toVs len' (renEs g l) j)
 | [], j => by simp only [renEs, toVs]; exact C.un _
 | a :: l, 0 => by simp only [renEs, toVs]; exact KCl.ren C hp hs hl hm a
 | a :: l, j + 1 => by simp only [renEs, toVs]; exact KCl.rens C hp hs hl hm l j
end
mutual
theorem KCl.scrub {K : V -> V -> Prop} (C : KCl K) {H : Heap} {len len' : Len} {f : Nat -> List Nat -> Option EV} (hp : ∀ id p r c, H.slot ⟨id, p⟩ ≠ .unborn -> f id p = none -> K (.ptr ⟨id, p⟩ 0 r c) (.ptr ⟨id, p⟩ 0 r c))
  (hs : ∀ id p r n, H.slot ⟨id, p⟩ ≠ .unborn -> f id p = none -> K (.sref ⟨id, p⟩ 0 r n) (.sref ⟨id, p⟩ 0 r n)) (hl : ∀ id p, H.slot ⟨id, p⟩ ≠ .unborn -> f id p = none -> len' id p = len id p \/ ∀ n n', K (.sref ⟨id, p⟩ 0 0 n) (.sref ⟨id, p⟩ 0 0 n'))
  (hm : ∀ id, H.slot ⟨id, []⟩ ≠ .unborn -> f id [] = none -> K (.mref ⟨id, []⟩) (.mref ⟨id, []⟩)) (hu : ∀ id p u, f id p = some u -> u = .un) : ∀ u : EV, Born H (toV len u) -> K (toV len u) (toV len' (Abs.scrub f u))
 | .ptr id p r c, hb => by
  simp only [Abs.scrub]
  cases hf : f id p with
  | some u => simp only [toV]; exact C.un _
  | none => simp only [toV] at hb ⊢; exact hp id p r c hb hf
 | .sref id p r n, hb => by
  simp only [Abs.scrub]
  cases hf : f id p with
  | some u => simp only [toV]; exact C.un _
  | none => simp only [toV] at hb ⊢; exact hs id p r n hb hf
 | .sfull id p, hb => by
  simp only [Abs.scrub]
  cases hf : f id p with
  | some u => rw [hu id p u hf]; simp only [toV]; exact C.un _
  | none =>
   simp only [toV] at hb ⊢
   have hb' : H.slot ⟨id, p⟩ ≠ .unborn := by cases hx : len id p <;> rw [hx] at hb <;> exact hb
   rcases hl id p hb' hf with e | e
   ·rw [e]
    cases len id p <;> exact hs id p 0 _ hb' hf
   ·cases len id p <;> cases len' id p <;> exact e _ _
 | .mref id, hb => by
  simp only [Abs.scrub]
  cases hf : f id [] with
  | some u => simp only [toV]; exact C.un _
  | none => simp only [toV] at hb ⊢; exact hm id hb hf
 | .agg l, hb => by simp only [Abs.scrub, toV, scrubs_len] at hb ⊢; exact C.agg _ _ _ fun j hj => KCl.scrubs C hp hs hl hm hu l j (hb j hj)
 | .tup l, hb => by simp only [Abs.scrub, toV, scrubs_len] at hb ⊢; exact C.tup _ _ _ fun j hj => KCl.scrubs C hp hs hl hm hu l j (hb j hj)
 | .fn g l, hb => by simp only [Abs.scrub, toV, scrubs_len] at hb ⊢; exact C.fn _ _ _ _ fun j hj => KCl.scrubs C hp hs hl hm hu l j (hb j hj)
 | .un, _ => by simp only [Abs.scrub, toV]; exact C.un _
 | .und, _ => by simp only [Abs.scrub, toV]; exact C.und
 | .b _, _ => by simp only [Abs.scrub, toV]; exact C.t _
 | .i _ _, _ => by simp only [Abs.scrub, toV]; exact C.t _
 | .s _, _ => by simp only [Abs.scrub, toV]; exact C.t _
 | .fz _ _, _ => by simp only [Abs.scrub, toV]; exact C.t _
 | .fp _ _ _, _ => by simp only [Abs.scrub, toV]; exact C.fp _ _
 | .st _ _, _ => by simp only [Abs.scrub, toV]; exact C.agg _ _ _ fun j _ => C.t _
 | .nils, _ => by simp only [Abs.scrub, toV]; exact C.nils
 | .nilp, _ => by simp only [Abs.scrub, toV]; exact C.nilp
 | .nilm, _ => by simp only [Abs.scrub, toV]; exact C.nilm
 | .nilf, _ => by simp only [Abs.scrub, toV]; exact C.nilf
 | .nili, _ => by simp only [Abs.scrub, toV]; exact C.t _
theorem KCl.scrubs {K : V -> V -> Prop} (C : KCl K) {H : Heap} {len len' : Len} {f : Nat -> List Nat -> Option EV} (hp : ∀ id p r c, H.slot ⟨id, p⟩ ≠ .unborn -> f id p = none -> K (.ptr ⟨id, p⟩ 0 r c) (.ptr ⟨id, p⟩ 0 r c))
  (hs : ∀ id p r n, H.slot ⟨id, p⟩ ≠ .unborn -> f id p = none -> K (.sref ⟨id, p⟩ 0 r n) (.sref ⟨id, p⟩ 0 r n)) (hl : ∀ id p, H.slot ⟨id, p⟩ ≠ .unborn -> f id p = none -> len' id p = len id p \/ ∀ n n', K (.sref ⟨id, p⟩ 0 0 n) (.sref ⟨id, p⟩ 0 0 n'))
  (hm : ∀ id, H.slot ⟨id, []⟩ ≠ .unborn -> f id [] = none -> K (.mref ⟨id, []⟩) (.mref ⟨id, []⟩)) (hu : ∀ id p u, f id p = some u -> u = .un) : ∀ (l : List EV) (j : Nat), Born H (toVs len l j) -> K (toVs len l j) (toVs len' (Abs.scrubs f l) j)
 | [], j, _ => by simp only [Abs.scrubs, toVs]; exact C.un _
 | a :: l, 0, hb => by simp only [Abs.scrubs, toVs] at hb ⊢; exact KCl.scrub C hp hs hl hm hu a hb
 | a :: l, j + 1, hb => by simp only [Abs.scrubs, toVs] at hb ⊢; exact KCl.scrubs C hp hs hl hm hu l j hb
end
def renO (g : Nat -> Option Nat) : OD -> OD
 | .cells e l => .cells e (renEs g l)
 | .lst v => .lst v
 | .mp s τ f => .mp s τ f
 | .dead => .dead
 | .none => .none
 | .hole _ _ _ _ => .dead
theorem renO_len {g : Nat -> Option Nat} (o : OD) (p : List Nat) : (renO g o).len p = o.len p := by
 cases o <;> first | rfl | (cases p <;> rfl)
structure CT (P : Program) (f : FuncId) (args : List EV) (H : EHeap) (K : EV -> EHeap -> Prop) : Prop where
 out : ∀ E ι F w (cargs : Array Value), RelH E ι F (toH H) w -> args.length = cargs.size -> (∀ j, j < args.length -> VRel (toH H) ι F w (toV H.len (nthE args j)) (cargs.getD j undef)) ->
  Calls P f cargs w fun e w' => ∃ v ι' F' H' cv, e = .returned cv /\ RelH E ι' F' (toH H') w' /\ VRel (toH H') ι' F' w' (toV H'.len v) cv /\ K v H'
def mkArgs : (l : List (Nat × Sh)) -> DT l -> List EV
 | [], _ => []
 | (_, a) :: l, x => mkE a x.1 :: mkArgs l x.2
structure Ctr (P : Program) where
 f : FuncId
 fnok : FnOk P f
 ar : List (Nat × Sh)
 os : List OSh
 rv : Sh
 ro : List OSh
 F : DT ar -> DO os -> Option (rv.D × DO ro)
 ok : ∀ x y r, F x y = some r -> CT P f (mkArgs ar x) (mkH os.length os y) (fun v H' => v = mkE rv r.1 /\ H' = mkH os.length ro r.2)
def ixK : List (Option Nat) -> Nat -> Option Nat
 | [], _ => none
 | some k :: l, j => bif Nat.beq k j then some 0 else (match ixK l j with
  | some i => some (i + 1)
  | none => none)
 | none :: l, j => match ixK l j with
  | some i => some (i + 1)
  | none => none
theorem ixK_out : ∀ {ks : List (Option Nat)} {j i : Nat}, ixK ks j = some i -> nthK ks i = some j
 | [], _, _, h => by cases h
 | some k :: l, j, i, h => by
  simp only [ixK] at h
  cases hb : Nat.beq k j with
  | true => rw [hb] at h; injection h with h; subst h; obtain rfl := natBeq hb; rfl
  | false =>
   rw [hb] at h
   simp only [cond_false] at h
   cases hi : ixK l j with
   | none => rw [hi] at h; cases h
   | some x => rw [hi] at h; injection h with h; subst h; exact ixK_out (ks := l) hi
 | none :: l, j, i, h => by
  simp only [ixK] at h
  cases hi : ixK l j with
  | none => rw [hi] at h; cases h
  | some x => rw [hi] at h; injection h with h; subst h; exact ixK_out (ks := l) hi
theorem ixK_none : ∀ {ks : List (Option Nat)} {j : Nat}, ixK ks j = none -> ∀ i, nthK ks i ≠ some j
 | [], _, _, i => by simp [nthK]
 | some k :: l, j, h, i => by
  simp only [ixK] at h
  cases hb : Nat.beq k j with
  | true => rw [hb] at h; cases h
  | false =>
   rw [hb] at h
   simp only [cond_false] at h
   cases hi : ixK l j with
   | some x => rw [hi] at h; cases h
   | none =>
    cases i with
    | zero => intro e; injection e with e; subst e; simp at hb
    | succ i => exact ixK_none (ks := l) hi i
 | none :: l, j, h, i => by
  simp only [ixK] at h
  cases hi : ixK l j with
  | some x => rw [hi] at h; cases h
  | none =>
   cases i with
   | zero => intro e; cases e
   | succ i => exact ixK_none (ks := l) hi i
def ltKs (n : Nat) : List (Option Nat) -> Bool
 | [] => true
 | some k :: l => Nat.blt k n && ltKs n l
 | none :: l => ltKs n l
theorem ltKs_out {n : Nat} : ∀ {ks : List (Option Nat)} {i k : Nat}, ltKs n ks = true -> nthK ks i = some k -> k < n
 | [], _, _, _, h => by cases h
 | some x :: l, 0, k, hl, h => by
  simp only [ltKs, Bool.and_eq_true] at hl
  injection h with h; subst h; exact Nat.le_of_ble_eq_true hl.1
 | none :: l, 0, k, hl, h => by cases h
 | some x :: l, i + 1, k, hl, h => by
  simp only [ltKs, Bool.and_eq_true] at hl
  exact ltKs_out (ks := l) hl.2 h
 | none :: l, i + 1, k, hl, h => ltKs_out (ks := l) hl h
def outK (ks : List (Option Nat)) (n0 : Nat) (i : Nat) : Option Nat := bif Nat.blt i ks.length then nthK ks i else some (n0 + (i - ks.length))
def nestF (ks : List (Option Nat)) : Nat -> List Nat -> Option EV := fun id p => match p with
 | [] => none
 | _ => match ixK ks id with
  | some _ => some .un
  | none => none
def callH (H : EHeap) (ks : List (Option Nat)) (Hl : EHeap) : EHeap := { next := H.next + (Hl.next - ks.length), lo := H.lo, md := H.md, obj := fun j => match ixK ks j with
 | some i => renO (outK ks H.next) (Hl.obj i)
 | none => bif Nat.blt j H.next then scrubO (nestF ks) (H.obj j) else renO (outK ks H.next) (Hl.obj (j - H.next + ks.length)) }
def lenOk (H Hl : EHeap) : List (Option Nat) -> Nat -> Bool
 | [], _ => true
 | some k :: l, i => (match Hl.obj i with
  | .dead => true
  | _ => match H.len k [], Hl.len i [] with
   | some a, some b => decide (b = a)
   | none, none => true
   | _, _ => false) && lenOk H Hl l (i + 1)
 | none :: l, i => lenOk H Hl l (i + 1)
theorem lenOk_out {H Hl : EHeap} : ∀ {ks : List (Option Nat)} {n i k : Nat}, lenOk H Hl ks n = true -> nthK ks i = some k -> Hl.obj (n + i) = .dead \/ Hl.len (n + i) [] = H.len k []
 | [], _, _, _, _, h => by cases h
 | some x :: l, n, 0, k, hl, h => by
  simp only [lenOk, Bool.and_eq_true] at hl
  injection h with h; subst h
  have hl := hl.1
  rw [Nat.add_zero]
  split at hl
  ·rename_i e; exact .inl e
  ·right
   split at hl
   ·rename_i a b e1 e2; rw [e1, e2, of_decide_eq_true hl]
   ·rename_i e1 e2; rw [e1, e2]
   ·cases hl
 | none :: l, n, 0, k, hl, h => by cases h
 | some x :: l, n, i + 1, k, hl, h => by
  simp only [lenOk, Bool.and_eq_true] at hl
  have := lenOk_out (ks := l) (n := n + 1) (i := i) hl.2 h
  rwa [Nat.add_assoc, Nat.add_comm 1 i] at this
 | none :: l, n, i + 1, k, hl, h => by
  have := lenOk_out (ks := l) (n := n + 1) (i := i) hl h
  rwa [Nat.add_assoc, Nat.add_comm 1 i] at this
end
end Go.Abs
namespace Go.Abs
open Go
variable {P : Program} {d : Option Tmp} {ty : TypeId} {L : List GOp} {ρ : Type}
section
variable [SU] [Codes] {Q : Exit -> ESt -> Prop}
theorem ixK_of {ks : List (Option Nat)} (hn : nodK ks = true) {i j : Nat} (h : nthK ks i = some j) : ixK ks j = some i := by
 cases hx : ixK ks j with
 | none => exact absurd h (ixK_none hx i)
 | some x => rw [nodK_out hn (ixK_out hx) h]
def nK (ks : List (Option Nat)) (n0 : Nat) : Id -> Option Id := fun i => match ixK ks i.k with
 | some x => some ⟨x, i.p⟩
 | none => if i.k < n0 then none else some ⟨i.k - n0 + ks.length, i.p⟩
theorem ren_slots {g : Nat -> Option Nat} {len len' : Len} {k k' : Nat} {o : OD} {p : List Nat} (h : o.slot len k p ≠ .unborn) : SlotLike (o.slot len k p) ((renO g o).slot len' k' p) := by
 cases o with
 | none => exact absurd rfl h
 | dead => trivial
 | lst v =>
  simp only [renO, OD.slot] at h ⊢
  cases hv : v.at p with
  | none => rw [hv] at h; exact absurd rfl h
  | some a => exact ⟨rfl, rfl, rfl, rfl⟩
 | cells e l =>
  cases p with
  | cons x y => exact absurd rfl h
  | nil => exact ⟨rfl, rfl, by simp only [renEs_len], rfl⟩
 | hole v q r c => simp only [renO, OD.slot]; cases (OD.hole v q r c).slot len k p <;> trivial
 | mp s τ g =>
  cases p with
  | cons x y => exact absurd rfl h
  | nil => trivial
theorem ren_live {K : V -> V -> Prop} (C : KCl K) {g : Nat -> Option Nat} {len len' : Len} {k k' : Nat} {o : OD} {p : List Nat} {a' : AObj} (h : (renO g o).slot len' k' p = .live a')
  (hE : ∀ u : EV, K (toV len u) (toV len' (renE g u))) (hs : ∀ q n, K (.sref ⟨k, q⟩ 0 0 n) (.sref ⟨k', q⟩ 0 0 n)) :
  ∃ a, o.slot len k p = .live a /\ a'.elem = a.elem /\ a'.sz = a.sz /\ a'.n = a.n /\ ∀ r, r < a'.n -> ∀ c, c < a'.sz -> K (a.get r c) (a'.get r c) := by
 cases o with
 | none => cases h
 | dead => cases h
 | hole v q r c => cases h
 | mp s τ g => cases p <;> cases h
 | cells e l =>
  cases p with
  | cons x y => cases h
  | nil =>
   injection h with h; subst h
   refine ⟨_, rfl, rfl, by simp only [renEs_len], rfl, fun r hr c hc => ?_⟩
   show K (toVs len l c) (toVs len' (renEs g l) c)
   rw [toVs_eq, toVs_eq]
   have e : (renEs g l).getD c .un = renE g (l.getD c .un) := by
    have : ∀ (l : List EV) (c : Nat), (renEs g l).getD c .un = renE g (l.getD c .un) := by
     intro l
     induction l with
     | nil => intro c; simp [renEs, renE]
     | cons a l ih => intro c; cases c with
      | zero => simp [renEs]
      | succ c => simpa [renEs] using ih c
    exact this l c
   rw [e]; exact hE _
 | lst v =>
  simp only [renO, OD.slot] at h ⊢
  cases hv : v.at p with
  | none => rw [hv] at h; cases h
  | some a =>
   rw [hv] at h
   injection h with h; subst h
   refine ⟨_, rfl, rfl, rfl, rfl, fun r hr c hc => ?_⟩
   show K (cellV len k p r c (cellC a.τ (a.row r) c)) (cellV len' k' p r c (cellC a.τ (a.row r) c))
   cases hcc : cellC a.τ (a.row r) c with
   | ev u =>
    have hd := cellC_dat _ _ _ _ hcc
    have := hE u
    have e : renE g u = u := by cases u <;> first | (cases hd; done) | simp only [renE]
    rw [e] at this; exact this
   | own t e l => exact hs _ _
def seqT : Nat -> List (Nat × Sh) -> Bool
 | _, [] => true
 | j, (i, _) :: l => Nat.beq i j && seqT (j + 1) l
theorem seqT_env : ∀ {l : List (Nat × Sh)} {n : Nat} {x : DT l}, seqT n l = true -> ∀ j, nthE (mkArgs l x) j = mkEnv l x (n + j)
 | [], n, x, h, j => by simp [mkArgs, mkEnv, nthE]
 | (i, a) :: l, n, x, h, j => by
  simp only [seqT, Bool.and_eq_true] at h
  obtain rfl := natBeq h.1
  cases j with
  | zero => simp only [mkArgs, nthE, mkEnv, Nat.add_zero, Nat.beq_refl, cond_true]
  | succ j =>
   simp only [mkArgs, nthE, mkEnv, natBeq_ne (show ¬ i + (j + 1) = i by omega), cond_false]
   rw [seqT_env h.2 j, Nat.add_assoc, Nat.add_comm 1 j]
theorem mkArgs_len : ∀ (l : List (Nat × Sh)) (x : DT l), (mkArgs l x).length = l.length
 | [], _ => rfl
 | _ :: l, x => by simp [mkArgs, mkArgs_len l x.2]
def deadOk : List OSh -> List OSh -> Bool
 | [], _ => true
 | .dead :: os, .dead :: ro => deadOk os ro
 | .dead :: _, _ => false
 | _ :: os, _ :: ro => deadOk os ro
 | _ :: _, [] => false
theorem deadOk_out : ∀ {os ro : List OSh}, deadOk os ro = true -> os.length <= ro.length /\ ∀ j, nthO os j = some .dead -> nthO ro j = some .dead
 | [], ro, _ => ⟨Nat.zero_le _, fun j h => by cases h⟩
 | o :: os, [], h => by cases o <;> cases h
 | o :: os, o' :: ro, h => by
  have key : deadOk os ro = true /\ (o = .dead -> o' = .dead) := by
   cases o <;> first
    | exact ⟨h, fun e => by cases e⟩
    | (cases o' <;> first | exact ⟨h, fun _ => rfl⟩ | cases h)
  obtain ⟨h1, h2⟩ := deadOk_out key.1
  refine ⟨by simpa using h1, fun j hj => ?_⟩
  cases j with
  | zero => injection hj with hj; subst hj; show some o' = _; rw [key.2 rfl]
  | succ j => exact h2 j hj
theorem mkObj_dead : ∀ {l : List OSh} {y : DO l} {j : Nat}, nthO l j = some .dead -> mkObj l y j = .dead
 | [], _, _, h => by cases h
 | o :: l, y, 0, h => by injection h with h; subst h; rfl
 | _ :: l, y, j + 1, h => mkObj_dead (l := l) h
theorem mkO_root {o : OSh} {x : o.D} {len : Len} {k : Nat} : (mkO o x).slot len k [] ≠ .unborn := by
 cases o <;> simp only [mkO, OD.slot, LV.at_nil] <;> simp
theorem mkObj_root : ∀ {l : List OSh} {y : DO l} {j : Nat} {len : Len} {k : Nat}, j < l.length -> (mkObj l y j).slot len k [] ≠ .unborn
 | [], _, _, _, _, h => absurd h (Nat.not_lt_zero _)
 | o :: l, y, 0, _, _, h => mkO_root
 | _ :: l, y, j + 1, _, _, h => mkObj_root (l := l) (by simpa using h)
def isNil {α : Type} : List α -> Bool
 | [] => true
 | _ => false
theorem isNil_out {α : Type} {l : List α} (h : isNil l = true) : l = [] := by
 cases l with
 | nil => rfl
 | cons a l => cases h
theorem call_back {E : Env} {ι : Id -> Option Nat} {F : Nat -> Prop} {s : ESt} {w : World} (r : RelH E ι F (toH s.heap) w) (hf : Fair s) (c : Ctr P) {ks : List (Option Nat)} (hn : nodK ks = true) (hlt : ltKs s.heap.next ks = true)
  (hd : deadOk c.os c.ro = true) {y : DO c.os} (hy : exOs ks s.heap c.os ks = some y) {res : c.rv.D × DO c.ro}
  (hlen : lenOk s.heap (mkH c.os.length c.ro res.2) ks 0 = true) {w' : World} {ι3 : Id -> Option Nat} {F3 : Nat -> Prop} {cv : Value} (r3 : RelH (callEnv w (toH (mkH c.os.length c.os y)) (mι (mK ks) ι) F) ι3 F3 (toH (mkH c.os.length c.ro res.2)) w')
  (hv : VRel (toH (mkH c.os.length c.ro res.2)) ι3 F3 w' (toV (mkH c.os.length c.ro res.2).len (mkE c.rv res.1)) cv) :
  ∃ ι' F', RelH E ι' F' (toH (callH s.heap ks (mkH c.os.length c.ro res.2))) w' /\
   (∀ u v, Born (toH s.heap) (toV s.heap.len u) -> VRel (toH s.heap) ι F w (toV s.heap.len u) v -> VRel (toH (callH s.heap ks (mkH c.os.length c.ro res.2))) ι' F' w' (toV (callH s.heap ks (mkH c.os.length c.ro res.2)).len (scrub (nestF ks) u)) v) /\
   VRel (toH (callH s.heap ks (mkH c.os.length c.ro res.2))) ι' F' w' (toV (callH s.heap ks (mkH c.os.length c.ro res.2)).len (renE (outK ks s.heap.next) (mkE c.rv res.1))) cv /\ (isNil c.os = true -> Grown w w') := by
 obtain ⟨ks_len, hobjs⟩ := exOs_at _ _ _ hy
 obtain ⟨hdl, hdd⟩ := deadOk_out hd
 let Hl := mkH c.os.length c.os y
 let Hl' := mkH c.os.length c.ro res.2
 let H' := callH s.heap ks Hl'
 have pt : Part (toH s.heap) (toH Hl) (mK ks) := part_ok hy hn
 have hR : Roots ks s.heap Hl (mK ks) := roots_ok hy
 -- names
 have lt0 : ∀ {i k : Nat}, nthK ks i = some k -> k < s.heap.next := fun h => ltKs_out hlt h
 have objk : ∀ {j i : Nat}, ixK ks j = some i -> H'.obj j = renO (outK ks s.heap.next) (Hl'.obj i) := fun h => by simp only [H', callH, h]
 have objo : ∀ {j : Nat}, ixK ks j = none -> j < s.heap.next -> H'.obj j = scrubO (nestF ks) (s.heap.obj j) := fun {j} h h2 => by
  show (match ixK ks j with | some i => _ | none => bif Nat.blt j s.heap.next then _ else _) = _
  rw [h]
  dsimp only
  rw [blt_true h2]; rfl
 have objn : ∀ {j : Nat}, ixK ks j = none -> ¬ j < s.heap.next -> H'.obj j = renO (outK ks s.heap.next) (Hl'.obj (j - s.heap.next + ks.length)) := fun {j} h h2 => by
  show (match ixK ks j with | some i => _ | none => bif Nat.blt j s.heap.next then _ else _) = _
  rw [h]
  dsimp only
  rw [blt_false (Nat.le_of_not_lt h2)]; rfl
 have nnk : ∀ {j i : Nat} {p : List Nat}, ixK ks j = some i -> nK ks s.heap.next ⟨j, p⟩ = some ⟨i, p⟩ := fun h => by simp only [nK, h]
 have nno : ∀ {j : Nat} {p : List Nat}, ixK ks j = none -> j < s.heap.next -> nK ks s.heap.next ⟨j, p⟩ = none := fun h h2 => by simp only [nK, h, if_pos h2]
 have nnn : ∀ {j : Nat} {p : List Nat}, ixK ks j = none -> ¬ j < s.heap.next -> nK ks s.heap.next ⟨j, p⟩ = some ⟨j - s.heap.next + ks.length, p⟩ := fun h h2 => by simp only [nK, h, if_neg h2]
 have oldlt : ∀ {id : Nat} {p : List Nat}, (toH s.heap).slot ⟨id, p⟩ ≠ .unborn -> id < s.heap.next := fun h => Classical.byContradiction fun hc => h (hf.next ⟨_, _⟩ (Nat.le_of_not_lt hc))
 have outo : ∀ {i : Id}, nK ks s.heap.next i = none -> ixK ks i.k = none /\ i.k < s.heap.next := fun {i} h => by
  simp only [nK] at h
  cases hi : ixK ks i.k with
  | some x => rw [hi] at h; cases h
  | none =>
   rw [hi] at h
   simp only at h
   by_cases hl : i.k < s.heap.next
   ·exact ⟨rfl, hl⟩
   ·rw [if_neg hl] at h; cases h
 have nsome : ∀ {i x : Id}, nK ks s.heap.next i = some x -> H'.obj i.k = renO (outK ks s.heap.next) (Hl'.obj x.k) /\ x.p = i.p /\ ((x.k < ks.length /\ nthK ks x.k = some i.k) \/ (¬ i.k < s.heap.next /\ x.k = i.k - s.heap.next + ks.length)) := fun {i x} h => by
  cases hi : ixK ks i.k with
  | some z =>
   have := nnk (p := i.p) hi
   have h : nK ks s.heap.next ⟨i.k, i.p⟩ = some x := h
   rw [this] at h
   injection h with h; subst h
   exact ⟨objk hi, rfl, .inl ⟨nthK_lt (ixK_out hi), ixK_out hi⟩⟩
  | none =>
   by_cases hl : i.k < s.heap.next
   ·have h : nK ks s.heap.next ⟨i.k, i.p⟩ = some x := h
    rw [nno hi hl] at h; cases h
   ·have h : nK ks s.heap.next ⟨i.k, i.p⟩ = some x := h
    rw [nnn hi hl] at h
    injection h with h; subst h
    exact ⟨objn hi hl, rfl, .inr ⟨hl, rfl⟩⟩
 have slot_like : ∀ {i x : Id}, nK ks s.heap.next i = some x -> (toH Hl').slot x ≠ .unborn -> SlotLike ((toH Hl').slot x) ((toH H').slot i) := fun {i x} h hu => by
  obtain ⟨e1, e2, _⟩ := nsome h
  show SlotLike _ ((H'.obj i.k).slot H'.len i.k i.p)
  rw [e1, <- e2]
  exact ren_slots hu
 have root_in : ∀ {id i : Nat}, ixK ks id = some i -> (toH H').slot ⟨id, []⟩ = .dead \/ (SlotLike ((toH s.heap).slot ⟨id, []⟩) ((toH Hl).slot ⟨i, []⟩) /\ SlotLike ((toH Hl').slot ⟨i, []⟩) ((toH H').slot ⟨id, []⟩)) := fun {id i} h => by
  have hi := ixK_out h
  have hil : i < c.os.length := by rw [ks_len]; exact nthK_lt hi
  have hil2 : i < c.ro.length := Nat.lt_of_lt_of_le hil hdl
  have hu : (toH Hl').slot ⟨i, []⟩ ≠ .unborn := mkObj_root (l := c.ro) (y := res.2) hil2
  have sl := slot_like (i := ⟨id, []⟩) (nnk h) hu
  rcases hR.sm i id hi with hdead | ⟨q1, q2, q3⟩
  ·left
   -- the callee did not get it
   obtain ⟨o, ho, _⟩ := hobjs i hil
   have hod : o = .dead := by
    have hdead : (mkObj c.os y i).slot Hl.len i [] = .dead := hdead
    have key : ∀ (l : List OSh) (y : DO l) (j : Nat) (o : OSh), nthO l j = some o -> (mkObj l y j).slot Hl.len i [] = .dead -> o = .dead := by
     intro l
     induction l with
     | nil => intro y j o h; cases h
     | cons a l ih =>
      intro y j o h hdd
      cases j with
      | zero =>
       injection h with h; subst h
       cases a <;> simp only [mkObj, mkO, OD.slot, LV.at_nil] at hdd <;> first | rfl | cases hdd
      | succ j => exact ih y.2 j o h hdd
    exact key _ _ _ _ ho hdead
   subst hod
   show (H'.obj id).slot _ _ _ = _
   rw [objk h]
   show (renO _ (mkObj c.ro res.2 i)).slot _ _ _ = _
   rw [mkObj_dead (hdd i ho)]; rfl
  ·exact .inr ⟨q1, sl⟩
 have bk : Back (toH s.heap) (toH Hl) (toH Hl') (toH H') (mK ks) (nK ks s.heap.next) := by
  refine ⟨rfl, fun i hi => ?_, fun i hi his => ?_, fun i j x h1 h2 => ?_, fun i hi hp => ?_⟩
  ·have hi : s.heap.next + (c.ro.length - ks.length) <= i.k := hi
   have h1 : ixK ks i.k = none := by
    cases hx : ixK ks i.k with
    | none => rfl
    | some z => have := lt0 (ixK_out hx); omega
   show (H'.obj i.k).slot _ _ _ = _
   rw [objn h1 (by omega)]
   show (renO _ (mkObj c.ro res.2 (i.k - s.heap.next + ks.length))).slot _ _ _ = _
   rw [mkObj_out _ _ _ (by omega)]; rfl
  ·obtain ⟨h1, h2⟩ := outo hi
   refine ⟨fun x hx e => ?_, ?_⟩
   ·obtain ⟨a, p⟩ := x
    simp only [mK] at e
    cases ha : nthK ks a with
    | none => rw [ha] at e; cases e
    | some k =>
     rw [ha] at e
     injection e with e
     subst e
     exact ixK_none h1 a ha
   ·show SlotLike ((s.heap.obj i.k).slot s.heap.len i.k i.p) ((H'.obj i.k).slot H'.len i.k i.p)
    have his : ((H'.obj i.k).slot H'.len i.k i.p).is := his
    rw [objo h1 h2] at his ⊢
    refine scrub_slots fun hu => ?_
    rw [scrub_unborn.2 hu] at his; exact his
  ·obtain ⟨a1, a2, a3⟩ := nsome h1
   obtain ⟨b1, b2, b3⟩ := nsome h2
   obtain ⟨ik, ip⟩ := i
   obtain ⟨jk, jp⟩ := j
   have hp : ip = jp := a2.symm.trans b2
   subst hp
   have : ik = jk := by
    rcases a3 with ⟨q1, q2⟩ | ⟨q1, q2⟩ <;> rcases b3 with ⟨p1, p2⟩ | ⟨p1, p2⟩
    ·rw [q2] at p2; injection p2
    ·omega
    ·omega
    ·simp only at q1 q2 p1 p2; omega
   rw [this]
  ·by_cases hu : (toH s.heap).slot i = .unborn
   ·exact .inl hu
   ·right
    obtain ⟨j, p⟩ := i
    simp only at hp
    subst hp
    have hl := oldlt hu
    cases hx : ixK ks j with
    | none =>
     right; left
     refine ⟨nno hx hl, ?_⟩
     show SlotLike _ ((H'.obj j).slot H'.len j [])
     rw [objo hx hl]
     exact scrub_slots hu
    | some i =>
     rcases root_in hx with hdead | ⟨q1, q2⟩
     ·exact .inl hdead
     ·exact .inr (.inr ⟨⟨i, []⟩, nnk hx, mK_at (ixK_out hx), rfl, q1, q2⟩)
 let ι5 := ι4 (nK ks s.heap.next) ι ι3
 have CX : KCl (fun u u' => ∀ v, VRel (toH s.heap) ι F w u v -> VRel (toH H') ι5 F3 w' u' v) :=
  KCl.of (fun x v h => r3.ext (.t x) v h) (fun n g v h => r3.ext (.fp n g) v h)
 have CY : KCl (fun u u' => ∀ v, VRel (toH Hl') ι3 F3 w' u v -> VRel (toH H') ι5 F3 w' u' v) := KCl.of (fun x v h => h) (fun n g v h => h)
 -- names of the callee's
 have gn : ∀ {i j : Nat} {p : List Nat}, outK ks s.heap.next i = some j -> nK ks s.heap.next ⟨j, p⟩ = some ⟨i, p⟩ /\ H'.obj j = renO (outK ks s.heap.next) (Hl'.obj i) := fun {i j p} h => by
  simp only [outK] at h
  by_cases hi : i < ks.length
  ·rw [blt_true hi, cond_true] at h
   have := ixK_of hn h
   exact ⟨nnk this, objk this⟩
  ·rw [blt_false (Nat.le_of_not_lt hi), cond_false] at h
   injection h with h
   have h1 : ixK ks j = none := by
    cases hx : ixK ks j with
    | none => rfl
    | some z => have := lt0 (ixK_out hx); omega
   have e : j - s.heap.next + ks.length = i := by omega
   refine ⟨by rw [nnn h1 (by omega), e], by rw [objn h1 (by omega), e]⟩
 have leafY : ∀ {x i : Id}, nK ks s.heap.next i = some x -> (∀ rr cc v, VRel (toH Hl') ι3 F3 w' (.ptr x 0 rr cc) v -> VRel (toH H') ι5 F3 w' (.ptr i 0 rr cc) v) /\ (∀ rr cc v, VRel (toH Hl') ι3 F3 w' (.sref x 0 rr cc) v -> VRel (toH H') ι5 F3 w' (.sref i 0 rr cc) v) /\ ∀ v, VRel (toH Hl') ι3 F3 w' (.mref x) v -> VRel (toH H') ι5 F3 w' (.mref i) v := fun {x i} h => by
  have e4 : ι5 i = ι3 x := ι4_some h
  refine ⟨fun rr cc v ⟨a, b⟩ => ⟨a, ?_⟩, fun rr cc v ⟨a, b⟩ => ⟨a, ?_⟩, fun v ⟨a, b⟩ => ⟨a, ?_⟩⟩
  ·have hl := slot_like h (fun e => by rw [e] at b; exact b)
   cases hs : (toH H').slot i with
   | dead => trivial
   | mp _ _ => trivial
   | unborn => rw [hs] at hl; cases hs' : (toH Hl').slot x <;> rw [hs'] at hl <;> exact hl.elim
   | live o' =>
    rw [hs] at hl
    cases hs' : (toH Hl').slot x with
    | live o =>
     rw [hs'] at hl b
     obtain ⟨q1, q2, q3, q4⟩ := hl
     show 0 <= o'.ver /\ _
     rw [e4, q1, q3]; exact b
    | unborn => rw [hs'] at hl; exact hl.elim
    | dead => rw [hs'] at hl; exact hl.elim
    | mp _ _ => rw [hs'] at hl; exact hl.elim
  ·have hl := slot_like h (fun e => by rw [e] at b; exact b)
   cases hs : (toH H').slot i with
   | dead => trivial
   | mp _ _ => trivial
   | unborn => rw [hs] at hl; cases hs' : (toH Hl').slot x <;> rw [hs'] at hl <;> exact hl.elim
   | live o' =>
    rw [hs] at hl
    cases hs' : (toH Hl').slot x with
    | live o =>
     rw [hs'] at hl b
     obtain ⟨q1, q2, q3, q4⟩ := hl
     show 0 <= o'.ver /\ _
     rw [e4, q1, q2, q3, q4]; exact b
    | unborn => rw [hs'] at hl; exact hl.elim
    | dead => rw [hs'] at hl; exact hl.elim
    | mp _ _ => rw [hs'] at hl; exact hl.elim
  ·have hl := slot_like h (fun e => by rw [e] at b; exact b)
   cases hs : (toH H').slot i with
   | dead => trivial
   | live _ => trivial
   | unborn => rw [hs] at hl; cases hs' : (toH Hl').slot x <;> rw [hs'] at hl <;> exact hl.elim
   | mp _ _ =>
    rw [hs] at hl
    cases hs' : (toH Hl').slot x with
    | mp _ _ => rw [hs'] at b; show ∃ b, ι5 i = some b /\ _; rw [e4]; exact b
    | unborn => rw [hs'] at hl; exact hl.elim
    | dead => rw [hs'] at hl; exact hl.elim
    | live _ => rw [hs'] at hl; exact hl.elim
 have EY : ∀ u : EV, ∀ v, VRel (toH Hl') ι3 F3 w' (toV Hl'.len u) v -> VRel (toH H') ι5 F3 w' (toV H'.len (renE (outK ks s.heap.next) u)) v := fun u => CY.ren (len := Hl'.len) (len' := H'.len)
  (fun id p rr cc j hj => (leafY (gn (p := p) hj).1).1 rr cc) (fun id p rr cc j hj => (leafY (gn (p := p) hj).1).2.1 rr cc)
  (fun id p j hj => by show (H'.obj j).len p = (Hl'.obj id).len p; rw [(gn (p := p) hj).2, renO_len]) (fun id j hj => (leafY (gn (p := []) hj).1).2.2) u
 -- names of the caller's
 have leafX : ∀ {id : Nat} {p : List Nat}, (toH s.heap).slot ⟨id, p⟩ ≠ .unborn -> nestF ks id p = none -> (toH H').slot ⟨id, p⟩ = .dead \/ ((∀ ver rr cc v, VRel (toH s.heap) ι F w (.ptr ⟨id, p⟩ ver rr cc) v -> VRel (toH H') ι5 F3 w' (.ptr ⟨id, p⟩ ver rr cc) v) /\
   (∀ ver rr cc v, VRel (toH s.heap) ι F w (.sref ⟨id, p⟩ ver rr cc) v -> VRel (toH H') ι5 F3 w' (.sref ⟨id, p⟩ ver rr cc) v) /\ (∀ v, VRel (toH s.heap) ι F w (.mref ⟨id, p⟩) v -> VRel (toH H') ι5 F3 w' (.mref ⟨id, p⟩) v)) := fun {id p} hb hfn => by
  have hl := oldlt hb
  cases hx : ixK ks id with
  | none =>
   right
   have hsl : SlotLike ((toH s.heap).slot ⟨id, p⟩) ((toH H').slot ⟨id, p⟩) := by
    show SlotLike _ ((H'.obj id).slot H'.len id p)
    rw [objo hx hl]; exact scrub_slots hb
   exact keep_out r pt r3 (nno hx hl) hsl (fun his => (bk.out _ (nno hx hl) his).1)
  | some i =>
   have hp : p = [] := by
    cases p with
    | nil => rfl
    | cons a b => simp only [nestF, hx] at hfn; cases hfn
   subst hp
   rcases root_in hx with hdead | ⟨q1, q2⟩
   ·exact .inl hdead
   ·exact .inr (keep_in r r3 (nnk hx) (mK_at (ixK_out hx)) rfl q1 q2)
 have EX : ∀ u : EV, Born (toH s.heap) (toV s.heap.len u) -> ∀ v, VRel (toH s.heap) ι F w (toV s.heap.len u) v -> VRel (toH H') ι5 F3 w' (toV H'.len (scrub (nestF ks) u)) v := fun u hb => CX.scrub (H := toH s.heap) (len := s.heap.len) (len' := H'.len) (f := nestF ks)
  (fun id p rr cc hb hfn => by
   rcases leafX hb hfn with hdead | h
   ·exact fun v h => ⟨h.1, by rw [hdead]; trivial⟩
   ·exact h.1 0 rr cc)
  (fun id p rr cc hb hfn => by
   rcases leafX hb hfn with hdead | h
   ·exact fun v h => ⟨h.1, by rw [hdead]; trivial⟩
   ·exact h.2.1 0 rr cc)
  (fun id p hb hfn => by
   have hl := oldlt hb
   cases hx : ixK ks id with
   | none =>
    left
    exact EHeap.len_scrub (objo hx hl) p
   | some i =>
    have hp : p = [] := by
     cases p with
     | nil => rfl
     | cons a b => simp only [nestF, hx] at hfn; cases hfn
    subst hp
    rcases lenOk_out hlen (ixK_out hx) with e | e
    ·right
     rw [Nat.zero_add] at e
     intro n n' v h
     refine ⟨h.1, ?_⟩
     have : (toH H').slot ⟨id, []⟩ = .dead := by
      show (H'.obj id).slot _ _ _ = _
      rw [objk hx]
      show (renO _ (Hl'.obj i)).slot _ _ _ = _
      have e : Hl'.obj i = .dead := e
      rw [e]; rfl
     rw [this]; trivial
    ·left
     rw [Nat.zero_add] at e
     show (H'.obj id).len [] = _
     rw [objk hx, renO_len]
     exact e)
  (fun id hb hfn => by
   rcases leafX hb hfn with hdead | h
   ·exact fun v h => ⟨h.1, by rw [hdead]; trivial⟩
   ·exact h.2.2)
  (fun id p u h => by
   simp only [nestF] at h
   cases p with
   | nil => cases h
   | cons a b =>
    cases hx : ixK ks id <;> rw [hx] at h <;> first | (cases h; done) | (injection h with h; exact h.symm)) u hb
 refine ⟨ι5, F3, Back.rel r pt r3 bk (fun i o' hi ho => ?_) (fun i x o' hi ho => ?_) (fun i sb g' hi hm => ?_) (fun i x sb g' hi hm => ?_), fun u v hb h => EX u hb v h, EY _ _ hv, fun hn => ⟨r3.size, fun b hb => r3.kept b hb (by
  rintro ⟨id, his, _⟩
  have hz : mkObj c.os y id.k = .none := mkObj_out _ _ _ (by rw [isNil_out hn]; exact Nat.zero_le _)
  have e : (toH Hl).slot id = (mkObj c.os y id.k).slot Hl.len id.k id.p := rfl
  rw [e, hz] at his
  exact his)⟩⟩
 ·obtain ⟨h1, h2⟩ := outo hi
  obtain ⟨j, p⟩ := i
  have ho : (H'.obj j).slot H'.len j p = .live o' := ho
  have hobj := objo h1 h2
  -- an untouched object
  have kcell : ∀ (p : List Nat) (r c : Nat) (x : Cell), (∀ u, x = .ev u -> u.dat = true) -> Born (toH s.heap) (cellV s.heap.len j p r c x) -> ∀ v, VRel (toH s.heap) ι F w (cellV s.heap.len j p r c x) v -> VRel (toH H') ι5 F3 w' (cellV H'.len j p r c x) v := fun p r c x hd hx => by
   cases x with
   | ev u =>
    have := EX u hx
    have e : scrub (nestF ks) u = u := by
     have hd := hd u rfl
     cases u <;> first | (cases hd; done) | simp only [scrub]
    rw [e] at this
    exact this
   | own t e l =>
    intro v hv
    simp only [cellV] at hx hv ⊢
    have hfn : nestF ks j (p ++ [c, r]) = none := by
     simp only [nestF]
     cases p ++ [c, r] <;> simp [h1]
    rcases leafX hx hfn with hdead | h
    ·exact ⟨hv.1, by rw [hdead]; trivial⟩
    ·exact h.2.1 _ _ _ v hv
  rw [hobj] at ho
  cases hO : s.heap.obj j with
  | none => rw [hO] at ho; cases ho
  | dead => rw [hO] at ho; cases ho
  | lst v =>
   rw [hO] at ho
   simp only [scrubO, OD.slot] at ho
   cases hv : v.at p with
   | none => rw [hv] at ho; cases ho
   | some a =>
    rw [hv] at ho
    injection ho with ho; subst ho
    have hat : s.heap.at j p = some a := by simp only [EHeap.at, hO]; exact hv
    exact ⟨_, slot_lst hat, fun r hr c hc => kcell p r c _ (cellC_dat _ _ _) (hf.obj _ _ (slot_lst hat) r hr c hc)⟩
  | cells e l =>
   rw [hO] at ho
   cases p with
   | cons x y => cases ho
   | nil =>
    injection ho with ho; subst ho
    refine ⟨_, slot_cells hO, fun r hr c hc => ?_⟩
    have hc : c < l.length := by simpa only [scrubs_len] using hc
    have hr : r < 1 := hr
    have hbb := hf.obj _ _ (slot_cells hO) r hr c hc
    show ∀ v, VRel _ _ _ _ (toVs s.heap.len l c) v -> VRel _ _ _ _ (toVs H'.len (scrubs (nestF ks) l) c) v
    have hbb : Born (toH s.heap) (toVs s.heap.len l c) := hbb
    rw [toVs_eq] at hbb ⊢
    rw [toVs_eq]
    have e : (scrubs (nestF ks) l).getD c .un = scrub (nestF ks) (l.getD c .un) := by
     have : ∀ (l : List EV) (c : Nat), (scrubs (nestF ks) l).getD c .un = scrub (nestF ks) (l.getD c .un) := by
      intro l
      induction l with
      | nil => intro c; simp [scrubs, scrub]
      | cons a l ih => intro c; cases c with
       | zero => simp [scrubs]
       | succ c => simpa [scrubs] using ih c
     exact this l c
    rw [e]
    exact EX _ hbb
  | hole v q r c =>
   rw [hO] at ho
   simp only [scrubO, OD.slot] at ho
   split at ho
   ·cases ho
   ·rename_i hnn
    cases hv : v.at p with
    | none => rw [hv] at ho; cases ho
    | some a =>
     rw [hv] at ho
     injection ho with ho; subst ho
     have hl : (toH s.heap).slot ⟨j, p⟩ = .live (a.holed s.heap.len j p q r c) := by
      show (s.heap.obj j).slot _ _ _ = _
      rw [hO]; simp only [OD.slot, hv, if_neg hnn]
     refine ⟨_, hl, fun r' hr c' hc => ?_⟩
     have hbb := hf.obj _ _ hl r' hr c' hc
     simp only [LV.holed] at hbb ⊢
     split
     ·exact fun v _ => trivial
     ·rename_i hne
      rw [if_neg hne] at hbb
      exact kcell p r' c' _ (cellC_dat _ _ _) hbb
  | mp sb τ g =>
   rw [hO] at ho
   cases p <;> cases ho
 ·obtain ⟨e1, e2, _⟩ := nsome hi
  obtain ⟨j, p⟩ := i
  obtain ⟨xk, xp⟩ := x
  simp only at e1 e2
  subst e2
  have ho : (H'.obj j).slot H'.len j xp = .live o' := ho
  rw [e1] at ho
  have hgx : ∀ q, nK ks s.heap.next ⟨j, q⟩ = some ⟨xk, q⟩ := fun q => by
   simp only [nK] at hi ⊢
   cases hx : ixK ks j with
   | some z => rw [hx] at hi; injection hi with hi; injection hi with hi _; subst hi; rfl
   | none =>
    rw [hx] at hi
    simp only at hi ⊢
    by_cases hl : j < s.heap.next
    ·rw [if_pos hl] at hi; cases hi
    ·rw [if_neg hl] at hi ⊢
     injection hi with hi; injection hi with hi _; rw [hi]
  obtain ⟨a, q1, q2, q3, q4, q5⟩ := ren_live CY (k := xk) ho EY (fun q n => (leafY (hgx q)).2.1 0 n)
  exact ⟨a, q1, q2, q3, q4, q5⟩
 ·obtain ⟨h1, h2⟩ := outo hi
  obtain ⟨j, p⟩ := i
  have hm : (H'.obj j).slot H'.len j p = .mp sb g' := hm
  rw [objo h1 h2] at hm
  obtain ⟨q1, q2⟩ := scrub_mp (len := s.heap.len) hm
  refine ⟨g', q1, fun key => ?_⟩
  rcases q2 key with e | ⟨y, e⟩
  ·exact .inl ⟨e, e⟩
  ·exact .inr ⟨_, _, e, e, fun v h => CX.t y v h⟩
 ·obtain ⟨e1, e2, _⟩ := nsome hi
  obtain ⟨j, p⟩ := i
  obtain ⟨xk, xp⟩ := x
  simp only at e1 e2
  subst e2
  have hm : (H'.obj j).slot H'.len j xp = .mp sb g' := hm
  rw [e1] at hm
  obtain ⟨τ, g, m1, m2, m3⟩ := slot_mp hm
  subst m2
  have hO : Hl'.obj xk = .mp sb τ g := by
   cases hO : Hl'.obj xk <;> rw [hO] at m1 <;> first | (cases m1; done) | (simp only [renO] at m1; exact m1)
  refine ⟨g', by show (Hl'.obj xk).slot _ _ _ = _; rw [hO, m3]; rfl, fun key => ?_⟩
  subst m3
  dsimp only
  split
  ·exact .inr ⟨_, _, rfl, rfl, fun v h => h⟩
  ·exact .inl ⟨rfl, rfl⟩
theorem call_rel {E : Env} {ι : Id -> Option Nat} {F : Nat -> Prop} {s : ESt} {w : World} (r : RelH E ι F (toH s.heap) w) (hf : Fair s) (c : Ctr P) {ks : List (Option Nat)} (hn : nodK ks = true) (hlt : ltKs s.heap.next ks = true)
  (hq : seqT 0 c.ar = true) (hd : deadOk c.os c.ro = true) {us : List EV} {x : DT c.ar} {y : DO c.os} (hx : exT ks (nthE us) c.ar = some x) (hy : exOs ks s.heap c.os ks = some y) {res : c.rv.D × DO c.ro} (hF : c.F x y = some res)
  (hlen : lenOk s.heap (mkH c.os.length c.ro res.2) ks 0 = true) {cargs : Array Value} (hsz : c.ar.length = cargs.size) (ha : ∀ j, j < cargs.size -> VRel (toH s.heap) ι F w (toV s.heap.len (nthE us j)) (cargs.getD j undef)) :
  Calls P c.f cargs w fun e w' => ∃ cv ι' F', e = .returned cv /\ RelH E ι' F' (toH (callH s.heap ks (mkH c.os.length c.ro res.2))) w' /\
   (∀ u v, Born (toH s.heap) (toV s.heap.len u) -> VRel (toH s.heap) ι F w (toV s.heap.len u) v -> VRel (toH (callH s.heap ks (mkH c.os.length c.ro res.2))) ι' F' w' (toV (callH s.heap ks (mkH c.os.length c.ro res.2)).len (scrub (nestF ks) u)) v) /\
   VRel (toH (callH s.heap ks (mkH c.os.length c.ro res.2))) ι' F' w' (toV (callH s.heap ks (mkH c.os.length c.ro res.2)).len (renE (outK ks s.heap.next) (mkE c.rv res.1))) cv /\ (isNil c.os = true -> Grown w w') := by
 let Hl := mkH c.os.length c.os y
 have pt : Part (toH s.heap) (toH Hl) (mK ks) := part_ok hy hn
 have hR : Roots ks s.heap Hl (mK ks) := roots_ok hy
 have r2 := pt.rel r
 have hargs : ∀ j, j < (mkArgs c.ar x).length -> VRel (toH Hl) (mι (mK ks) ι) F w (toV Hl.len (nthE (mkArgs c.ar x) j)) (cargs.getD j undef) := fun j hj => by
  rw [mkArgs_len] at hj
  rw [seqT_env hq j, Nat.zero_add]
  have := exT_ok (Z := fun _ => False) hR c.ar x hx j _ _ _ _ _ r (ha j (by omega))
  rw [FZ_none] at this
  exact this
 refine ((c.ok x y res hF).out _ _ _ _ cargs r2 (by rw [mkArgs_len]; exact hsz) hargs).mono fun e w' ⟨v, ι3, F3, Hx, cv, h1, r3, hv, h4, h5⟩ => ?_
 subst h4
 subst h5
 obtain ⟨ι', F', q1, q2, q3, q4⟩ := call_back r hf c hn hlt hd hy hlen r3 hv
 exact ⟨cv, ι', F', h1, q1, q2, q3, q4⟩
end
end Go.Abs
namespace Go.Abs
open Go
variable {P : Program}
def T.ff : T -> Prop
 | .sl _ n _ => n = 0
 | .ifc _ x => T.ff x
 | _ => True
def V.ff : V -> Prop
 | .t x => T.ff x
 | .fp _ _ => False
 | .agg n g => ∀ j, j < n -> V.ff (g j)
 | .tup n g => ∀ j, j < n -> V.ff (g j)
 | .fn _ n g => ∀ j, j < n -> V.ff (g j)
 | _ => True
theorem Reads.ff {F F' : Nat -> Prop} {w : World} : ∀ {x : T} {v : Value}, T.ff x -> Reads F w x v -> Reads F' w x v := by
 intro x
 induction x with
 | any => exact fun _ h => h
 | bool b => exact fun _ h => h
 | int k n => exact fun _ h => h
 | str s => exact fun _ h => h
 | nilI => exact fun _ h => h
 | ifc t x ih => rintro v hf ⟨c, h1, h2⟩; exact ⟨c, h1, ih hf h2⟩
 | sl sz n get ih =>
  rintro v hf ⟨A, cap, h1, h2, h3, h4⟩
  have hf : n = 0 := hf
  exact ⟨A, cap, h1, h2, h3, fun hn => by omega⟩
theorem VRel.ff {H : Heap} {ι : Id -> Option Nat} {F F' : Nat -> Prop} {w : World} : ∀ {u : V} {v : Value}, V.ff u -> VRel H ι F w u v -> VRel H ι F' w u v := by
 intro u
 induction u with
 | t x => exact fun hf h => Reads.ff hf h
 | fp m g => exact fun hf _ => hf.elim
 | agg n g ih => rintro v hf ⟨cs, h1, h2, h3⟩; exact ⟨cs, h1, h2, fun j hj => by obtain ⟨c, a, p, b⟩ := h3 j hj; exact ⟨c, a, p, ih j (hf j hj) b⟩⟩
 | tup n g ih => rintro v hf ⟨cs, h1, h2, h3⟩; exact ⟨cs, h1, h2, fun j hj => by obtain ⟨c, a, b⟩ := h3 j hj; exact ⟨c, a, ih j (hf j hj) b⟩⟩
 | fn f n g ih => rintro v hf ⟨cs, h1, h2, h3⟩; exact ⟨cs, h1, h2, fun j hj => by obtain ⟨c, a, b⟩ := h3 j hj; exact ⟨c, a, ih j (hf j hj) b⟩⟩
 | _ => exact fun _ h => h
structure Heap.ff (H : Heap) : Prop where
 obj : ∀ i o, H.slot i = .live o -> ∀ r, r < o.n -> ∀ c, c < o.sz -> V.ff (o.get r c)
 mp : ∀ i s g, H.slot i = .mp s g -> ∀ k u, g k = some u -> V.ff u
theorem RelH.unlend {w w' : World} {Hl H' : Heap} {ι' ι3 : Id -> Option Nat} {F F3 L : Nat -> Prop} (r3 : RelH (callEnv w Hl ι' (fun b => F b \/ L b)) ι3 F3 H' w') (hFL : ∀ b, F b -> ¬ L b) (hF : ∀ b, F b -> b < w.heap.size /\ ¬ Blocks Hl ι' b) (hff : H'.ff) :
  RelH (callEnv w Hl ι' F) ι3 (fun b => F3 b /\ ¬ L b) H' w' := by
 have up : ∀ b, F b -> F3 b /\ ¬ L b := fun b hb => by
  refine ⟨?_, hFL b hb⟩
  obtain ⟨b', o', e1, e2, _⟩ := r3.ext (.fp 0 (fun _ => .any)) (.pointer (some ⟨b, 0, none⟩)) ⟨b, 0, rfl, .inl hb, fun j hj => absurd hj (Nat.not_lt_zero _)⟩
  injection e1 with e1; injection e1 with e1; injection e1 with e1
  subst e1; exact e2
 have hw : ∀ b, F b -> w'.heap[b]? = w.heap[b]? := fun b hb => r3.kept b (hF b hb).1 (hF b hb).2
 refine ⟨r3.os, r3.tape, r3.output, r3.size, r3.kept, fun i o h => ?_, fun i s g h => ?_, r3.inj, fun i b h hi hb => r3.nofr i b h hi hb.1, r3.own, r3.lt, fun b hb => r3.frlt b hb.1, fun b hb => ?_, r3.next, ?_, r3.lo⟩
 ·obtain ⟨h1, h2⟩ := r3.obj i o h
  refine ⟨h1, ?_⟩
  cases hk : ι3 i with
  | none => rw [hk] at h2; exact h2
  | some b =>
   rw [hk] at h2
   obtain ⟨cur, g1, g2, g3⟩ := h2
   exact ⟨cur, g1, g2, fun r hr c hc => by obtain ⟨x, a, p, q⟩ := g3 r hr c hc; exact ⟨x, a, p, VRel.ff (hff.obj i o h r hr c hc) q⟩⟩
 ·obtain ⟨b, es, clock, g1, g2, g3, g4⟩ := r3.mapo i s g h
  refine ⟨b, es, clock, g1, g2, g3, fun k hk => ?_⟩
  have := g4 k hk
  cases hg : g k with
  | none => rw [hg] at this; exact this
  | some u =>
   rw [hg] at this
   obtain ⟨n, e, a, b, c⟩ := this
   exact ⟨n, e, a, b, VRel.ff (hff.mp i s g h k u hg) c⟩
 ·rcases r3.frin b hb.1 with (h | h) | h | h
  ·exact .inl h
  ·exact absurd h hb.2
  ·exact .inr (.inl h)
  ·exact .inr (.inr h)
 ·show Ext (rootsH Hl) ι' F w H' ι3 (fun b => F3 b /\ ¬ L b) w'
  intro u
  induction u with
  | un => exact fun _ _ => trivial
  | und => exact fun _ h => h
  | t x => exact fun v h => Reads.mono up hw x v h
  | nils => exact fun _ h => h
  | nilp => exact fun _ h => h
  | nilm => exact fun _ h => h
  | nilf => exact fun _ h => h
  | ptr id ver r c => exact fun v h => r3.ext (.ptr id ver r c) v h
  | sref id ver r n => exact fun v h => r3.ext (.sref id ver r n) v h
  | mref id => exact fun v h => r3.ext (.mref id) v h
  | fp m g =>
   rintro v ⟨b, o, h1, h2, h3⟩
   refine ⟨b, o, h1, up b h2, fun j hj => ?_⟩
   obtain ⟨c, hc1, hc2⟩ := h3 j hj
   refine ⟨c, ?_, Reads.mono up hw _ _ hc2⟩
   unfold World.cell? at hc1 ⊢
   simp only at hc1 ⊢
   rw [hw b h2]
   exact hc1
  | fn f n cap ih => rintro v ⟨cs, h1, h2, h3⟩; exact ⟨cs, h1, h2, fun j hj => by obtain ⟨c, a, b⟩ := h3 j hj; exact ⟨c, a, ih j _ b⟩⟩
  | agg n get ih => rintro v ⟨cs, h1, h2, h3⟩; exact ⟨cs, h1, h2, fun j hj => by obtain ⟨c, a, p, b⟩ := h3 j hj; exact ⟨c, a, p, ih j _ b⟩⟩
  | tup n get ih => rintro v ⟨cs, h1, h2, h3⟩; exact ⟨cs, h1, h2, fun j hj => by obtain ⟨c, a, b⟩ := h3 j hj; exact ⟨c, a, ih j _ b⟩⟩
section
variable [SU] [Codes]
def DatOk (τ τ' : Ty) (f : τ.D -> τ'.D) : Prop := ∀ (H : EHeap) (id : Nat) (p : List Nat) (e : TypeId) (l : List τ.D), H.at id p = some ⟨e, τ, l⟩ -> ∀ (E : Env) (ι : Id -> Option Nat) (F : Nat -> Prop) (w : World) (v : Value), RelH E ι F (toH H) w ->
 VRel (toH H) ι F w (.sref ⟨id, p⟩ 0 0 l.length) v -> Reads (fun b => F b \/ ∃ q, ((toH H).slot ⟨id, q⟩).is /\ ι ⟨id, q⟩ = some b) w (encL τ' (l.map f)) v
theorem DatOk.of {τ τ' : Ty} {f : τ.D -> τ'.D} (hsz : τ'.sz = τ.sz) (hc : ∀ x c, c < τ.sz -> (∃ u, cellC τ x c = .ev u /\ ∀ len, toV len u = .t (encC τ' (f x) c)) \/
  ∃ t e l e' g, cellC τ x c = .own t e l /\ DatOk e e' g /\ encC τ' (f x) c = encL e' (l.map g)) : DatOk τ τ' f := by
 intro H id p e l hat E ι F w v r ⟨h0, h1⟩
 have hlive := slot_lst hat
 rw [hlive] at h1
 obtain ⟨hn, A, cap, g1, g2, g3⟩ := h1.2 rfl
 obtain ⟨o1, o2⟩ := r.obj _ _ hlive
 refine ⟨A, cap, by rw [List.length_map]; exact g1, by rw [List.length_map]; exact g2, by rw [List.length_map]; exact o1, fun hpos => ?_⟩
 rw [List.length_map] at hpos
 obtain ⟨b, cur, p1, p2, p3, p4⟩ := g3 (by omega)
 rw [p1] at o2
 obtain ⟨cur', q1, q2, q3⟩ := o2
 rw [p3] at q1
 injection q1 with q1
 injection q1 with q1
 subst q1
 refine ⟨b, 0, by rw [p2, Nat.zero_mul], .inr ⟨p, by rw [hlive]; trivial, p1⟩, fun i hi j hj => ?_⟩
 rw [List.length_map] at hi
 rw [hsz] at hj
 obtain ⟨c', r1, r2, r3⟩ := q3 i hi j hj
 refine ⟨c', ?_, ?_⟩
 ·rw [Nat.zero_add, hsz]
  simp [World.cell?, p3]; exact r1
 ·have er : (l.map f).getD i τ'.z = f (l.getD i τ.z) := by simp [List.getD_eq_getElem?_getD, hi]
  show Reads _ w (encC τ' ((l.map f).getD i τ'.z) j) c'
  rw [er]
  have r3 : VRel (toH H) ι F w (cellV H.len id p i j (cellC τ (l.getD i τ.z) j)) c' := r3
  rcases hc (l.getD i τ.z) j hj with ⟨u, e1, e2⟩ | ⟨t, e', l', τ2, g, e1, e2, e3⟩
  ·rw [e1] at r3
   simp only [cellV] at r3
   rw [e2] at r3
   exact Reads.mono (fun b hb => .inl hb) (fun _ _ => rfl) _ _ r3
  ·rw [e1] at r3
   have hk : H.at id (p ++ [j, i]) = some ⟨t, e', l'⟩ := by
    rw [EHeap.at_append hat, LV.at_one]
    exact LV.kid_of e1
   rw [e3]
   exact e2 H id (p ++ [j, i]) t l' hk E ι F w c' r r3
theorem DatOk.fro {τ : Ty} (h : froT τ = true) : DatOk τ τ (fun x => x) := DatOk.of rfl fun x c hc => by
 obtain ⟨u, e1, e2⟩ := cellC_enc τ x c h
 exact .inl ⟨u, e1, fun len => e2 hc len⟩
structure DatT (i : Nat) where
 j : Nat
 f : SU.D i -> SU.D j
class Dats where
 d : (i : Nat) -> Option (DatT i)
 ok : ∀ i x, d i = some x -> DatOk (.st i) (.st x.j) x.f
variable [Dats]
def datE (v : LV) : EV := match v with
 | ⟨_, .st i, l⟩ => bif Codes.fro i then .fz (.st i) l else (match Dats.d i with
  | some x => .fz (.st x.j) (l.map x.f)
  | none => .un)
 | ⟨_, τ, l⟩ => bif froT τ then .fz τ l else .un
theorem datE_ok {H : EHeap} {id : Nat} {p : List Nat} {v : LV} (hat : H.at id p = some v) {E : Env} {ι : Id -> Option Nat} {F : Nat -> Prop} {w : World} {c : Value} (r : RelH E ι F (toH H) w)
  (h : VRel (toH H) ι F w (.sref ⟨id, p⟩ 0 0 v.l.length) c) {len : Len} {H' : Heap} {ι' : Id -> Option Nat} {F' : Nat -> Prop} (hF : ∀ b, (F b \/ ∃ q, ((toH H).slot ⟨id, q⟩).is /\ ι ⟨id, q⟩ = some b) -> F' b) : VRel H' ι' F' w (toV len (datE v)) c := by
 have key : ∀ {τ τ' : Ty} {f : τ.D -> τ'.D} {e : TypeId} {l : List τ.D}, DatOk τ τ' f -> H.at id p = some ⟨e, τ, l⟩ -> VRel (toH H) ι F w (.sref ⟨id, p⟩ 0 0 l.length) c -> VRel H' ι' F' w (toV len (.fz τ' (l.map f))) c := fun hd ha hv => by
  simp only [toV]
  exact Reads.mono hF (fun _ _ => rfl) _ _ (hd H id p _ _ ha E ι F w c r hv)
 have flat : ∀ {τ : Ty} {e : TypeId} {l : List τ.D}, H.at id p = some ⟨e, τ, l⟩ -> VRel (toH H) ι F w (.sref ⟨id, p⟩ 0 0 l.length) c -> VRel H' ι' F' w (toV len (bif froT τ then .fz τ l else .un)) c := fun {τ e l} ha hv => by
  cases hf : froT τ with
  | false => simp only [cond_false, toV]; exact trivial
  | true =>
   have := key (f := fun x => x) (DatOk.fro hf) ha hv
   rw [List.map_id'] at this
   simp only [cond_true]; exact this
 obtain ⟨e, τ, l⟩ := v
 cases τ with
 | st i =>
  simp only [datE]
  cases hf : Codes.fro i with
  | true =>
   have := flat hat h
   have hf' : froT (.st i) = true := hf
   rw [hf'] at this
   exact this
  | false =>
   simp only [cond_false]
   cases hd : Dats.d i with
   | none => simp only [toV]; exact trivial
   | some x => exact key (Dats.ok i x hd) hat h
 | bool => exact flat hat h
 | int k => exact flat hat h
 | str => exact flat hat h
 | sl e' => exact flat hat h
 | ol t e' => exact flat hat h
def lendF (H : EHeap) (ks : List (Option Nat)) : Nat -> List Nat -> Option EV := fun id p => match ixK ks id with
 | some _ => none
 | none => some (match H.at id p with
  | some v => datE v
  | none => .un)
def lendH (H : EHeap) (ks : List (Option Nat)) : EHeap := { next := H.next, lo := H.lo, md := H.md, obj := fun j => match ixK ks j with
 | some _ => scrubO (lendF H ks) (H.obj j)
 | none => bif Nat.blt j H.next then .dead else .none }
def lentM (ks : List (Option Nat)) : Id -> Option Id := fun i => match ixK ks i.k with
 | some _ => some i
 | none => none
def lentZ (ks : List (Option Nat)) : Id -> Prop := fun i => ixK ks i.k = none
theorem lend_scrub {s : ESt} (hf : Fair s) (ks : List (Option Nat)) : ScrubOk (lendF s.heap ks) s.heap (toH s.heap) (lendH s.heap ks) (lentM ks) (lentZ ks) := by
 have hobj : ∀ j i, ixK ks j = some i -> (lendH s.heap ks).obj j = scrubO (lendF s.heap ks) (s.heap.obj j) := fun j i h => by simp only [lendH, h]
 refine ⟨fun id p u h => ?_, fun id p h hb => ?_, fun id p h hb => ?_⟩
 ·simp only [lendF] at h
  cases hx : ixK ks id with
  | some i => rw [hx] at h; cases h
  | none =>
   rw [hx] at h
   injection h with h
   cases hat : s.heap.at id p with
   | none => rw [hat] at h; subst h; simp only [toV]; exact KG.un
   | some v =>
    rw [hat] at h
    subst h
    intro E ι F w c r hv
    simp only [toV, EHeap.len_at hat] at hv
    exact datE_ok hat r hv (fun b hb => hb.imp (fun h => h) fun ⟨q, q1, q2⟩ => ⟨⟨id, q⟩, hx, q1, q2⟩)
 ·simp only [lendF] at h
  cases hx : ixK ks id with
  | none => rw [hx] at h; cases h
  | some i =>
   refine .inr ⟨?_, by simp only [lentM, hx]⟩
   show SlotLike _ (((lendH s.heap ks).obj id).slot _ id p)
   rw [hobj id i hx]
   exact scrub_slots hb
 ·simp only [lendF] at h
  cases hx : ixK ks id with
  | none => rw [hx] at h; cases h
  | some i => exact EHeap.len_scrub (hobj id i hx) p
theorem lend_gen {s : ESt} (hf : Fair s) (ks : List (Option Nat)) : Gen (toH s.heap) (toH (lendH s.heap ks)) (lentM ks) (lentZ ks) := by
 have hobj : ∀ j i, ixK ks j = some i -> (lendH s.heap ks).obj j = scrubO (lendF s.heap ks) (s.heap.obj j) := fun j i h => by simp only [lendH, h]
 have hno : ∀ j p, ixK ks j = none -> ((toH (lendH s.heap ks)).slot ⟨j, p⟩ = .dead) \/ ((toH (lendH s.heap ks)).slot ⟨j, p⟩ = .unborn /\ s.heap.next <= j) := fun j p h => by
  show ((lendH s.heap ks).obj j).slot _ j p = .dead \/ (((lendH s.heap ks).obj j).slot _ j p = .unborn /\ _)
  simp only [lendH, h]
  by_cases hl : j < s.heap.next
  ·rw [blt_true hl]; exact .inl rfl
  ·rw [blt_false (Nat.le_of_not_lt hl)]; exact .inr ⟨rfl, Nat.le_of_not_lt hl⟩
 refine Gen.scrub (fun j => ixK ks j = none) (lend_scrub hf ks) hf.obj (fun j hj => ?_) (fun i hi o' ho' => ?_) (fun i hi sb g' hm => ?_) (fun i j x hi h1' h2' e1 e2 => ?_) rfl (fun i hi => ?_) (fun i hi hil hip => ?_)
 ·cases hx : ixK ks j with
  | none => exact absurd hx hj
  | some i => exact ⟨fun p => by simp only [lendF, hx], hobj j i hx, fun p => by simp only [lentM, hx], fun p h => (by have h : ixK ks j = none := h; rw [hx] at h; cases h), fun p => rfl⟩
 ·obtain ⟨j, p⟩ := i
  rcases hno j p hi with h | ⟨h, _⟩ <;> rw [h] at ho' <;> cases ho'
 ·obtain ⟨j, p⟩ := i
  rcases hno j p hi with h | ⟨h, _⟩ <;> rw [h] at hm <;> cases hm
 ·obtain ⟨j', p⟩ := i
  rcases hno j' p hi with h | ⟨h, _⟩ <;> rw [h] at h1' <;> exact h1'.elim
 ·obtain ⟨j, p⟩ := i
  have hi : s.heap.next <= j := hi
  cases hx : ixK ks j with
  | none =>
   rcases hno j p hx with h | ⟨h, _⟩
   ·exfalso
    have h : ((lendH s.heap ks).obj j).slot _ j p = .dead := h
    simp only [lendH, hx] at h
    rw [blt_false hi] at h
    cases h
   ·exact h
  | some x =>
   show ((lendH s.heap ks).obj j).slot _ j p = .unborn
   rw [hobj j x hx, scrub_unborn (len := s.heap.len)]
   exact hf.next ⟨j, p⟩ hi
 ·obtain ⟨j, p⟩ := i
  rcases hno j p hi with h | ⟨h, h2⟩
  ·exact .inr (.inl h)
  ·exact .inl (hf.next ⟨j, p⟩ h2)
theorem lent_ι {ι : Id -> Option Nat} {ks : List (Option Nat)} (hn : nodK ks = true) : mι (mK ks) (mι (lentM ks) ι) = mι (mK ks) ι := by
 funext i
 unfold mι mK
 cases h : nthK ks i.k with
 | none => rfl
 | some k =>
  simp only [lentM]
  rw [ixK_of hn h]
structure FFok (rv : Sh) (ro : List OSh) (n : Nat) (r : rv.D × DO ro) : Prop where
 v : V.ff (toV (mkH n ro r.2).len (mkE rv r.1))
 h : Heap.ff (toH (mkH n ro r.2))
theorem lend_rel {E : Env} {ι : Id -> Option Nat} {F : Nat -> Prop} {s : ESt} {w : World} (r : RelH E ι F (toH s.heap) w) (hf : Fair s) (c : Ctr P) {ks : List (Option Nat)} (hn : nodK ks = true) (hlt : ltKs s.heap.next ks = true)
  (hq : seqT 0 c.ar = true) (hd : deadOk c.os c.ro = true) {us : List EV} {x : DT c.ar} {y : DO c.os} (hx : exT ks (nthE (scrubs (lendF s.heap ks) us)) c.ar = some x) (hy : exOs ks s.heap c.os ks = some y) (hyk : exOs ks (lendH s.heap ks) c.os ks = some y)
  {res : c.rv.D × DO c.ro} (hF : c.F x y = some res) (hff : FFok c.rv c.ro c.os.length res)
  (hlen : lenOk s.heap (mkH c.os.length c.ro res.2) ks 0 = true) {cargs : Array Value} (hsz : c.ar.length = cargs.size) (ha : ∀ j, j < cargs.size -> Born (toH s.heap) (toV s.heap.len (nthE us j)) /\ VRel (toH s.heap) ι F w (toV s.heap.len (nthE us j)) (cargs.getD j undef)) :
  Calls P c.f cargs w fun e w' => ∃ cv ι' F', e = .returned cv /\ RelH E ι' F' (toH (callH s.heap ks (mkH c.os.length c.ro res.2))) w' /\
   (∀ u v, Born (toH s.heap) (toV s.heap.len u) -> VRel (toH s.heap) ι F w (toV s.heap.len u) v -> VRel (toH (callH s.heap ks (mkH c.os.length c.ro res.2))) ι' F' w' (toV (callH s.heap ks (mkH c.os.length c.ro res.2)).len (scrub (nestF ks) u)) v) /\
   VRel (toH (callH s.heap ks (mkH c.os.length c.ro res.2))) ι' F' w' (toV (callH s.heap ks (mkH c.os.length c.ro res.2)).len (renE (outK ks s.heap.next) (mkE c.rv res.1))) cv /\ (isNil c.os = true -> Grown w w') := by
 let Hl := mkH c.os.length c.os y
 have sc := lend_scrub hf ks
 have rk := Gen.rel r (lend_gen hf ks)
 have pk : Part (toH (lendH s.heap ks)) (toH Hl) (mK ks) := part_ok hyk hn
 have hR : Roots ks (lendH s.heap ks) Hl (mK ks) := roots_ok hyk
 have pt : Part (toH s.heap) (toH Hl) (mK ks) := part_ok hy hn
 have r2 := pk.rel rk
 have r20 := pt.rel r
 have hargs : ∀ j, j < (mkArgs c.ar x).length -> VRel (toH Hl) (mι (mK ks) (mι (lentM ks) ι)) (FZ (toH s.heap) ι (lentZ ks) F) w (toV Hl.len (nthE (mkArgs c.ar x) j)) (cargs.getD j undef) := fun j hj => by
  rw [mkArgs_len] at hj
  rw [seqT_env hq j, Nat.zero_add]
  obtain ⟨hb, hv⟩ := ha j (by omega)
  have e : nthE (scrubs (lendF s.heap ks) us) j = scrub (lendF s.heap ks) (nthE us j) := by
   have : ∀ (l : List EV) (j : Nat), nthE (scrubs (lendF s.heap ks) l) j = scrub (lendF s.heap ks) (nthE l j) := by
    intro l
    induction l with
    | nil => intro j; simp [scrubs, nthE, scrub]
    | cons a l ih => intro j; cases j with
     | zero => simp [scrubs, nthE]
     | succ j => simpa [scrubs, nthE] using ih j
   exact this us j
  have h1 := sc.keeps (nthE us j) hb E ι F w _ r hv
  rw [<- e] at h1
  have := exT_ok (Z := fun _ => False) hR c.ar x hx j _ _ _ _ _ rk h1
  rw [FZ_none] at this
  exact this
 refine ((c.ok x y res hF).out _ _ _ _ cargs r2 (by rw [mkArgs_len]; exact hsz) hargs).mono fun e w' ⟨v, ι3, F3, Hx, cv, h1, r3, hv, h4, h5⟩ => ?_
 subst h4
 subst h5
 have r3 : RelH (callEnv w (toH Hl) (mι (mK ks) ι) (fun b => F b \/ ∃ i, lentZ ks i /\ ((toH s.heap).slot i).is /\ ι i = some b)) ι3 F3 (toH (mkH c.os.length c.ro res.2)) w' := by
  have := r3
  rw [lent_ι hn] at this
  exact this
 have r3' := r3.unlend (fun b hb ⟨i, _, hi, hib⟩ => r.nofr i b hi hib hb) (fun b hb => ⟨r.frlt b hb, fun ⟨i, hi, hib⟩ => r20.nofr i b hi hib hb⟩) hff.h
 obtain ⟨ι', F', q1, q2, q3, q4⟩ := call_back r hf c hn hlt hd hy hlen r3' (VRel.ff hff.v hv)
 exact ⟨cv, ι', F', h1, q1, q2, q3, q4⟩
class FFs where
 st : Nat -> Bool
 ok : ∀ i, st i = true -> Codes.fro i = true /\ ∀ (x : SU.D i) c, c < SU.sz i -> T.ff (SU.enc i x c)
variable [FFs]
def ffTy : Ty -> Bool
 | .bool => true
 | .int _ => true
 | .str => true
 | .st i => FFs.st i
 | .sl _ => false
 | .ol _ e => ffTy e
def ffSh : Sh -> Bool
 | .un => true
 | .b => true
 | .i _ => true
 | .s => true
 | .fz _ => false
 | .st n => FFs.st n
 | .fp _ _ => false
 | .nils => true
 | .nilp => true
 | .nilm => true
 | .nilf => true
 | .nili => true
 | .ptr _ _ => true
 | .rptr _ _ => true
 | .part _ => true
 | .full _ => true
 | .mref _ => true
 | .agg l => ffShs l
 | .tup l => ffShs l
 | .fn _ l => ffShs l
where ffShs : List Sh -> Bool
 | [] => true
 | a :: l => ffSh a && ffShs l
theorem ffTy_own {τ : Ty} (h : ffTy τ = true) {x : τ.D} {c : Nat} {t : TypeId} {e : Ty} {l : List e.D} (hc : cellC τ x c = .own t e l) : ffTy e = true := by
 cases τ with
 | st i => obtain ⟨u, e1, _⟩ := Codes.cell_ok i x c (FFs.ok i h).1; simp only [cellC] at hc; rw [e1] at hc; cases hc
 | ol t' e' => cases c with
  | zero => simp only [cellC] at hc; injection hc with h1 h2; subst h2; exact h
  | succ c => cases hc
 | bool => cases c <;> cases hc
 | int k => cases c <;> cases hc
 | str => cases c <;> cases hc
 | sl e' => cases h
theorem ffTy_ev {τ : Ty} (h : ffTy τ = true) {x : τ.D} {c : Nat} {u : EV} (hs : c < τ.sz) (hc : cellC τ x c = .ev u) (len : Len) : V.ff (toV len u) := by
 cases τ with
 | st i =>
  obtain ⟨h1, h2⟩ := FFs.ok i h
  obtain ⟨u', e1, e2⟩ := Codes.cell_ok i x c h1
  simp only [cellC] at hc
  rw [e1] at hc
  injection hc with hc
  subst hc
  rw [e2 hs]
  exact h2 x c hs
 | ol t' e' => cases c with
  | zero => cases hc
  | succ c => injection hc with hc; subst hc; simp only [toV]; trivial
 | bool => cases c <;> (injection hc with hc; subst hc; simp only [toV]; trivial)
 | int k => cases c <;> (injection hc with hc; subst hc; simp only [toV]; trivial)
 | str => cases c <;> (injection hc with hc; subst hc; simp only [toV]; trivial)
 | sl e' => cases h
theorem ffTy_at : ∀ (p : List Nat) (v a : LV), ffTy v.τ = true -> v.at p = some a -> ffTy a.τ = true
 | [], v, a, h, ha => by rw [LV.at_nil] at ha; injection ha with ha; exact ha ▸ h
 | [_], v, a, h, ha => by rw [LV.at_odd] at ha; cases ha
 | c :: r :: p, v, a, h, ha => by
  rw [LV.at_cons] at ha
  cases hk : v.kid c r with
  | none => rw [hk] at ha; cases ha
  | some k => rw [hk] at ha; exact ffTy_at p k a (ffTy_own h (LV.kid_some hk)) ha
def LV.ffP (v : LV) : Prop := ∀ p a, v.at p = some a -> ∀ r, r < a.l.length -> ∀ c, c < a.τ.sz -> ∀ u, cellC a.τ (a.row r) c = .ev u -> ∀ len, V.ff (toV len u)
theorem ffTy_ffP {v : LV} (h : ffTy v.τ = true) : v.ffP := fun p a ha r hr c hc u hu len => ffTy_ev (ffTy_at p v a h ha) hc hu len
mutual
theorem ffSh_ok (len : Len) : ∀ (a : Sh) (x : a.D), ffSh a = true -> V.ff (toV len (mkE a x))
 | .un, _, _ => by simp only [mkE, toV]; trivial
 | .b, _, _ => by simp only [mkE, toV]; trivial
 | .i _, _, _ => by simp only [mkE, toV]; trivial
 | .s, _, _ => by simp only [mkE, toV]; trivial
 | .fz _, _, h => by cases h
 | .st n, x, h => by simp only [mkE, toV]; exact fun j hj => (FFs.ok n h).2 x j hj
 | .fp _ _, _, h => by cases h
 | .nils, _, _ => by simp only [mkE, toV]; trivial
 | .nilp, _, _ => by simp only [mkE, toV]; trivial
 | .nilm, _, _ => by simp only [mkE, toV]; trivial
 | .nilf, _, _ => by simp only [mkE, toV]; trivial
 | .nili, _, _ => by simp only [mkE, toV]; trivial
 | .ptr _ _, _, _ => by simp only [mkE, toV]; trivial
 | .rptr _ _, _, _ => by simp only [mkE, toV]; trivial
 | .part _, _, _ => by simp only [mkE, toV]; trivial
 | .full id, _, _ => by
  simp only [mkE, toV]
  split <;> trivial
 | .mref _, _, _ => by simp only [mkE, toV]; trivial
 | .agg l, x, h => by simp only [mkE, toV]; exact fun j _ => ffShs_ok len l x h j
 | .tup l, x, h => by simp only [mkE, toV]; exact fun j _ => ffShs_ok len l x h j
 | .fn _ l, x, h => by simp only [mkE, toV]; exact fun j _ => ffShs_ok len l x h j
theorem ffShs_ok (len : Len) : ∀ (l : List Sh) (x : DS l), ffSh.ffShs l = true -> ∀ j, V.ff (toVs len (mkEs l x) j)
 | [], _, _, j => by simp only [mkEs, toVs]; trivial
 | a :: l, x, h, j => by
  simp only [ffSh.ffShs, Bool.and_eq_true] at h
  cases j with
  | zero => simp only [mkEs, toVs]; exact ffSh_ok len a x.1 h.1
  | succ j => simp only [mkEs, toVs]; exact ffShs_ok len l x.2 h.2 j
end
def OD.ffP (o : OD) : Prop := ∀ len k p, (∀ a, o.slot len k p = .live a -> ∀ r, r < a.n -> ∀ c, c < a.sz -> V.ff (a.get r c)) /\ ∀ s g, o.slot len k p = .mp s g -> ∀ x u, g x = some u -> V.ff u
theorem LV.ffO {v : LV} (h : v.ffP) : OD.ffP (.lst v) := fun len k p => by
 refine ⟨fun a ha r hr c hc => ?_, fun s g hg => ?_⟩
 ·simp only [OD.slot] at ha
  cases hv : v.at p with
  | none => rw [hv] at ha; cases ha
  | some b =>
   rw [hv] at ha
   injection ha with ha; subst ha
   show V.ff (cellV len k p r c (cellC b.τ (b.row r) c))
   cases hcc : cellC b.τ (b.row r) c with
   | ev u => exact h p b hv r hr c hc u hcc len
   | own t e l => trivial
 ·simp only [OD.slot] at hg
  cases hv : v.at p <;> rw [hv] at hg <;> cases hg
section
open Classical
variable {ρ : Type}
noncomputable def ffK : (ro : List OSh) -> DO ro -> Option ρ -> Option ρ
 | [], _, K => K
 | .dead :: l, y, K => ffK l y.2 K
 | .lst e τ :: l, y, K => bif ffTy τ then ffK l y.2 K else grd (okB (LV.ffP ⟨e, τ, y.1⟩)) (ffK l y.2 K)
 | .box e τ :: l, y, K => bif ffTy τ then ffK l y.2 K else grd (okB (LV.ffP ⟨e, τ, [y.1]⟩)) (ffK l y.2 K)
 | .cells _ m :: l, y, K => bif ffSh.ffShs m then ffK l y.2 K else none
 | .mp _ τ :: l, y, K => bif (ffTy τ && froT τ) && Nat.blt 0 τ.sz then ffK l y.2 K else none
theorem ffK_out {K : Option ρ} {res : ρ} : ∀ (ro : List OSh) (y : DO ro), ffK ro y K = some res -> (∀ j, OD.ffP (mkObj ro y j)) /\ K = some res
 | [], y, h => ⟨fun j len k p => ⟨fun a ha => (by cases j <;> cases ha), fun s g hg => (by cases j <;> cases hg)⟩, h⟩
 | o :: l, y, h => by
  have step : OD.ffP (mkO o y.1) -> ffK l y.2 K = some res -> (∀ j, OD.ffP (mkObj (o :: l) y j)) /\ K = some res := fun h1 h2 => by
   obtain ⟨a, b⟩ := ffK_out l y.2 h2
   exact ⟨fun j => by cases j with
    | zero => exact h1
    | succ j => exact a j, b⟩
  cases o with
  | dead => exact step (fun len k p => ⟨fun a ha => (by cases ha), fun s g hg => (by cases hg)⟩) h
  | lst e τ =>
   unfold ffK at h
   cases hb : ffTy τ with
   | true => rw [hb] at h; exact step (LV.ffO (ffTy_ffP hb)) h
   | false =>
    rw [hb] at h
    simp only [cond_false] at h
    obtain ⟨h1, h2⟩ := grd_out h
    exact step (LV.ffO (okB_out h1)) h2
  | box e τ =>
   unfold ffK at h
   cases hb : ffTy τ with
   | true => rw [hb] at h; exact step (LV.ffO (ffTy_ffP hb)) h
   | false =>
    rw [hb] at h
    simp only [cond_false] at h
    obtain ⟨h1, h2⟩ := grd_out h
    exact step (LV.ffO (okB_out h1)) h2
  | cells e m =>
   unfold ffK at h
   obtain ⟨hb, h⟩ := bif_none h
   refine step (fun len k p => ⟨fun a ha r hr c hc => ?_, fun s g hg => ?_⟩) h
   ·cases p with
    | nil => injection ha with ha; subst ha; exact ffShs_ok len m y.1 hb c
    | cons _ _ => cases ha
   ·cases p <;> cases hg
  | mp s τ =>
   unfold ffK at h
   obtain ⟨hb, h⟩ := bif_none h
   simp only [Bool.and_eq_true] at hb
   refine step (fun len k p => ⟨fun a ha => ?_, fun s g hg x u hu => ?_⟩) h
   ·cases p <;> cases ha
   ·cases p with
    | cons _ _ => cases hg
    | nil =>
     injection hg with h1 h2
     subst h2
     dsimp only at hu
     split at hu
     ·rename_i z hz
      injection hu with hu; subst hu
      obtain ⟨u', e1, e2⟩ := cellC_enc τ z 0 hb.1.2
      have hs : 0 < τ.sz := Nat.le_of_ble_eq_true hb.2
      have := ffTy_ev hb.1.1 hs e1 (fun _ _ => Option.none)
      rw [e2 hs] at this
      exact this
     ·cases hu
theorem ffK_FF {rv : Sh} {ro : List OSh} {n : Nat} {r : rv.D × DO ro} (hv : ffSh rv = true) (h : ∀ j, OD.ffP (mkObj ro r.2 j)) : FFok rv ro n r :=
 ⟨ffSh_ok _ _ _ hv, ⟨fun i o ho => (h i.k _ _ _).1 o ho, fun i s g hg => (h i.k _ _ _).2 s g hg⟩⟩
end
end
end Go.Abs
namespace Go.Abs
open Go
variable {P : Program} {Q : Exit -> St -> Prop} {st : St} {L : List GOp} {d : Option Tmp} {ty : TypeId}
theorem O.makeFunc {f : FuncId} {caps : Array Operand} : QV P ⟨d, .makeFunc (.func f) #[] caps, ty, none⟩ (.fn f caps.size (fun j => st.eval (caps.getD j (.func 0)))) st := fun E ι F a w r =>
 ⟨.func (.func f) #[] (caps.map a.eval), by simp [execOp, GOp.oper, Instr.makeFunc], _, rfl, by simp, fun j hj => ⟨a.eval (caps.getD j (.func 0)), by simp [hj, Array.getD], r.eval _⟩⟩
def Heap.setM (H : Heap) (id : Id) (s : Bool) (g : MKey -> Option V) : Heap := { H with slot := fun i => bif Id.beq i id then .mp s g else H.slot i }
def Heap.addM (H : Heap) (s : Bool) (g : MKey -> Option V) : Heap := { next := H.next + 1, slot := fun i => bif Id.beq i ⟨H.next, []⟩ then .mp s g else H.slot i, lo := H.lo }
def MapIs (H : Heap) (ι : Id -> Option Nat) (F : Nat -> Prop) (w : World) (s : Bool) (g : MKey -> Option V) (es : Array MapEntry) : Prop :=
 (∀ e ∈ es.toList, ∃ k : MKey, k.isS = s /\ e.key = k.val) /\
  ∀ k : MKey, k.isS = s -> match g k with
   | none => ∀ e ∈ es.toList, e.key ≠ k.val
   | some u => ∃ (i : Nat) (e : MapEntry), es[i]? = some e /\ (e.key = k.val /\ ∀ j, j < i -> ∀ e', es[j]? = some e' -> e'.key ≠ k.val) /\ VRel H ι F w u e.val
theorem MapIs.ext {H H' : Heap} {ι ι' : Id -> Option Nat} {F F' : Nat -> Prop} {w w' : World} {s : Bool} {g : MKey -> Option V} {es : Array MapEntry} (h : MapIs H ι F w s g es) (x : Ext H ι F w H' ι' F' w') : MapIs H' ι' F' w' s g es := by
 refine ⟨h.1, fun k hk => ?_⟩
 have := h.2 k hk
 cases hg : g k with
 | none => rw [hg] at this; exact this
 | some u => rw [hg] at this; obtain ⟨i, e, a, b, c⟩ := this; exact ⟨i, e, a, b, x _ _ c⟩
theorem RelH.stepM {E : Env} {ι : Id -> Option Nat} {F : Nat -> Prop} {H : Heap} {w : World} (r : RelH E ι F H w) (id : Id) (b : Nat) (s : Bool) (g : MKey -> Option V) (es' : Array MapEntry) (clock' : Nat) (w' : World) (H' : Heap)
  (hH : ∀ i, H'.slot i = if i = id then .mp s g else H.slot i) (hn : ∀ i, H'.next <= i.k -> i ≠ id /\ H.next <= i.k) (hlo : H'.lo = H.lo)
  (hos : w'.os = w.os) (htape : w'.tape = w.tape) (hout : w'.output = w.output) (hsz : w.heap.size <= w'.heap.size) (hoth : ∀ k, k ≠ b -> k < w.heap.size -> w'.heap[k]? = w.heap[k]?)
  (hb' : w'.heap[b]? = some (.map es' clock'))
  (hfresh : b = w.heap.size \/ (ι id = some b /\ (H.slot id).is))
  (hmap : MapIs H ι F w s g es')
  (hslot : match H.slot id with
   | .unborn => True
   | .mp _ _ => ι id = some b
   | _ => False) :
  RelH E (upd ι id b) F H' w' /\ Ext H ι F w H' (upd ι id b) F w' := by
 have hbF : ¬ F b := by
  rcases hfresh with h | ⟨h1, h2⟩
  ·intro hf; have := r.frlt b hf; omega
  ·exact r.nofr id b h2 h1
 have hF : ∀ k, F k -> w'.heap[k]? = w.heap[k]? := fun k hk => hoth k (fun e => hbF (e ▸ hk)) (r.frlt k hk)
 have hne : ∀ i k, i ≠ id -> (H.slot i).is -> ι i = some k -> k ≠ b := by
  intro i k hi hl hk e
  subst e
  rcases hfresh with h | ⟨h1, h2⟩
  ·have := r.lt i k hl hk; omega
  ·exact hi (r.inj i id k hl h2 hk h1)
 have ho : ∀ i k, i ≠ id -> (H.slot i).is -> ι i = some k -> w'.heap[k]? = w.heap[k]? := fun i k hi hl hk => hoth k (hne i k hi hl hk) (r.lt i k hl hk)
 have hx : Ext H ι F w H' (upd ι id b) F w' := by
  refine Ext.of (fun _ h => h) hF fun i => ?_
  unfold SlotOk
  by_cases hi : i = id
  ·subst hi
   rw [hH, if_pos rfl]
   cases hs : H.slot i with
   | unborn => trivial
   | dead => rw [hs] at hslot; exact hslot.elim
   | live o => rw [hs] at hslot; exact hslot.elim
   | mp s0 g0 =>
    rw [hs] at hslot
    exact .inr ⟨⟨s, g, rfl⟩, by simp only [upd, if_true]; exact hslot.symm⟩
  ·rw [hH, if_neg hi]
   cases hs : H.slot i with
   | unborn => trivial
   | dead => rfl
   | mp s g => exact .inr ⟨⟨s, g, rfl⟩, by simp [upd, hi]⟩
   | live o =>
    refine .inr ⟨o, rfl, Nat.le_refl _, fun _ => ⟨rfl, rfl, Nat.le_refl _, by simp [upd, hi], fun b0 cur hb0 hcur => ⟨cur, ?_, rfl⟩⟩⟩
    rw [ho i b0 hi (by rw [hs]; trivial) hb0]; exact hcur
 have hid : (H'.slot id) = .mp s g := by rw [hH, if_pos rfl]
 have hwas : ∀ i, i ≠ id -> (H'.slot i).is -> (H.slot i).is := fun i hi h => by rw [hH, if_neg hi] at h; exact h
 have hι : ∀ i, i ≠ id -> upd ι id b i = ι i := fun i hi => by simp [upd, hi]
 have hιd : upd ι id b id = some b := by simp [upd]
 have hblt : b < w'.heap.size := (Array.getElem?_eq_some_iff.1 hb').1
 refine ⟨⟨hos.trans r.os, htape.trans r.tape, hout.trans r.output, Nat.le_trans r.size hsz, fun k hk hW => ?_, fun i o hi => ?_, fun i s' g' hi => ?_, fun i i' k hi hi' hk hk' => ?_, fun i k hi hk => ?_,
  fun i k hi hk => ?_, fun i k hi hk => ?_, fun k hk => Nat.lt_of_lt_of_le (r.frlt k hk) hsz, r.frin, fun i hi => ?_, r.ext.trans hx, by rw [hlo]; exact r.lo⟩, hx⟩
 ·have hkb : k ≠ b := by
   intro e; subst e
   rcases hfresh with h | ⟨h1, h2⟩
   ·have := r.size; omega
   ·rcases r.own id k h2 h1 with h | h
    ·exact hW h
    ·omega
  rw [hoth k hkb (Nat.lt_of_lt_of_le hk r.size)]
  exact r.kept k hk hW
 ·have h : i ≠ id := fun e => by subst e; rw [hid] at hi; cases hi
  rw [hH, if_neg h] at hi
  obtain ⟨h1, h2⟩ := r.obj i o hi
  refine ⟨h1, ?_⟩
  rw [hι i h]
  cases hk : ι i with
  | none => rw [hk] at h2; exact h2
  | some k =>
   rw [hk] at h2
   obtain ⟨cur, g1, g2, g3⟩ := h2
   exact ⟨cur, by rw [ho i k h (by rw [hi]; trivial) hk]; exact g1, g2, fun i hi j hj => by obtain ⟨c, a, b, d⟩ := g3 i hi j hj; exact ⟨c, a, b, hx _ _ d⟩⟩
 ·by_cases h : i = id
  ·subst h
   rw [hid] at hi
   injection hi with e1 e2
   subst e1; subst e2
   exact ⟨b, es', clock', hιd, hb', (hmap.ext hx).1, (hmap.ext hx).2⟩
  ·rw [hH, if_neg h] at hi
   obtain ⟨k, es, clock, g1, g2, g3, g4⟩ := r.mapo i s' g' hi
   refine ⟨k, es, clock, by rw [hι i h]; exact g1, by rw [ho i k h (by rw [hi]; trivial) g1]; exact g2, g3, fun key hkey => ?_⟩
   have := g4 key hkey
   cases hg : g' key with
   | none => rw [hg] at this; exact this
   | some u => rw [hg] at this; obtain ⟨n, e, a, b, c⟩ := this; exact ⟨n, e, a, b, hx _ _ c⟩
 ·by_cases h : i = id
  ·by_cases h' : i' = id
   ·exact h.trans h'.symm
   ·subst h
    rw [hιd] at hk
    rw [hι i' h'] at hk'
    exact absurd (Option.some.inj hk).symm (hne i' k h' (hwas i' h' hi') hk')
  ·by_cases h' : i' = id
   ·subst h'
    rw [hιd] at hk'
    rw [hι i h] at hk
    exact absurd (Option.some.inj hk').symm (hne i k h (hwas i h hi) hk)
   ·rw [hι i h] at hk
    rw [hι i' h'] at hk'
    exact r.inj i i' k (hwas i h hi) (hwas i' h' hi') hk hk'
 ·by_cases h : i = id
  ·subst h; rw [hιd] at hk; rw [<- Option.some.inj hk]; exact hbF
  ·rw [hι i h] at hk; exact r.nofr i k (hwas i h hi) hk
 ·by_cases h : i = id
  ·subst h; rw [hιd] at hk
   rw [<- Option.some.inj hk]
   rcases hfresh with h | ⟨h1, h2⟩
   ·right; rw [h]; exact r.size
   ·exact r.own i b h2 h1
  ·rw [hι i h] at hk; exact r.own i k (hwas i h hi) hk
 ·by_cases h : i = id
  ·subst h; rw [hιd] at hk; rw [<- Option.some.inj hk]; exact hblt
  ·rw [hι i h] at hk; exact Nat.lt_of_lt_of_le (r.lt i k (hwas i h hi) hk) hsz
 ·obtain ⟨h1, h2⟩ := hn i hi
  rw [hH, if_neg h1]; exact r.next i h2
structure MapT (P : Program) (t : TypeId) (s : Bool) (e : TypeId) : Prop where
 d : ∃ k, P.underlying t = some (.map k e) /\ P.underlying k = some (if s = true then .string else .int .i64)
theorem MKey.val_inj {a b : MKey} (h : a.val = b.val) : a = b := by
 cases a <;> cases b <;> simp [MKey.val] at h <;> simp [h]
theorem beq_mkey {a b : MKey} (h : a.isS = b.isS) : Instr.sameNow (if a.isS = true then .string else .int .i64) a.val b.val = some (decide (a = b)) := by
 cases a <;> cases b <;> first | (cases h; done) | skip
 ·rename_i m n
  simp only [MKey.isS, MKey.val, Instr.sameNow, Bool.false_eq_true, if_false, if_true]
  simp only [Option.some.injEq]
  by_cases e : m = n <;> simp [e]
 ·rename_i m n
  simp only [MKey.isS, MKey.val, Instr.sameNow, if_true]
  simp only [Option.some.injEq]
  by_cases e : m = n
  ·subst e; simpa using (MapKept.bytes_beq m m).2 rfl
  ·have : (m == n) = false := by
    cases h2 : (m == n) with
    | false => rfl
    | true => exact absurd ((MapKept.bytes_beq m n).1 h2) e
   simp [this, e]
theorem findNow_run {s : Bool} {k : MKey} (hk : k.isS = s) : ∀ (l : List MapEntry) (i : Nat), (∀ e ∈ l, ∃ q : MKey, q.isS = s /\ e.key = q.val) ->
  (Instr.findNow (if s = true then .string else .int .i64) k.val l i = some none /\ ∀ e ∈ l, e.key ≠ k.val) \/
  ∃ j e, l[j]? = some e /\ (e.key = k.val /\ ∀ j', j' < j -> ∀ e', l[j']? = some e' -> e'.key ≠ k.val) /\ Instr.findNow (if s = true then .string else .int .i64) k.val l i = some (some (i + j, e.val))
 | [], i, h => .inl ⟨rfl, fun e he => by cases he⟩
 | e :: l, i, h => by
  obtain ⟨q, hq, he⟩ := h e (by simp)
  have hb : Instr.sameNow (if s = true then .string else .int .i64) k.val e.key = some (decide (k = q)) := by rw [he, <- hk]; exact beq_mkey (by rw [hk, hq])
  simp only [Instr.findNow, hb]
  by_cases hkq : k = q
  ·refine .inr ⟨0, e, rfl, ⟨by rw [he, hkq], fun j' hj => absurd hj (Nat.not_lt_zero _)⟩, ?_⟩
   rw [decide_eq_true hkq]; rfl
  ·rw [decide_eq_false hkq]
   rcases findNow_run hk l (i + 1) (fun e he => h e (by simp [he])) with ⟨h1, h2⟩ | ⟨j, e', h1, h2, h3⟩
   ·refine .inl ⟨h1, fun e' he' => ?_⟩
    rcases List.mem_cons.1 he' with rfl | he'
    ·rw [he]; exact fun x => hkq (MKey.val_inj x).symm
    ·exact h2 e' he'
   ·refine .inr ⟨j + 1, e', by simpa using h1, ⟨h2.1, fun j' hj e2 he2 => ?_⟩, by rw [h3]; simp; omega⟩
    cases j' with
    | zero => simp at he2; subst he2; rw [he]; exact fun x => hkq (MKey.val_inj x).symm
    | succ j' => exact h2.2 j' (by omega) e2 (by simpa using he2)
section
variable {t e : TypeId} {s : Bool} {w : World}
theorem findKey_run {kt : TypeId} (hd : P.underlying kt = some (if s = true then .string else .int .i64)) {k : MKey} (hk : k.isS = s) {es : List MapEntry} (h : ∀ e ∈ es, ∃ q : MKey, q.isS = s /\ e.key = q.val) :
  ((Instr.findKey kt k.val es).run P w = .ok none w /\ ∀ e ∈ es, e.key ≠ k.val) \/
  ∃ (j : Nat) (e : MapEntry), es[j]? = some e /\ (e.key = k.val /\ ∀ j', j' < j -> ∀ e', es[j']? = some e' -> e'.key ≠ k.val) /\ (Instr.findKey kt k.val es).run P w = .ok (some (j, e.val)) w := by
 rcases findNow_run hk es 0 h with ⟨h1, h2⟩ | ⟨j, e, h1, h2, h3⟩
 ·refine .inl ⟨?_, h2⟩
  simp only [Instr.findKey, Sem.run_bind, run_underlying' hd, Result.andThen_ok, h1]; rfl
 ·refine .inr ⟨j, e, h1, h2, ?_⟩
  simp only [Instr.findKey, Sem.run_bind, run_underlying' hd, Result.andThen_ok, h3, Nat.zero_add]; rfl
theorem checkKey_run {kt : TypeId} {em : Bool} (hd : P.underlying kt = some (if s = true then .string else .int .i64)) {k : MKey} (hk : k.isS = s) (n : Nat) : (Instr.checkKey em (n + 1) kt k.val).run P w = .ok () w := by
 simp only [Instr.checkKey, Sem.run_bind, run_underlying' hd, Result.andThen_ok]
 cases s <;> cases k <;> first | (cases hk; done) | rfl
theorem getObj_run {b : Nat} {es : Array MapEntry} {c : Nat} (h : w.heap[b]? = some (.map es c)) : (getObj b).run P w = .ok (.map es c) w := MapKept.run_getObj_map h
end
theorem sameBits_mkey (n : Nat) (k : MKey) : Instr.sameBits n k.val k.val = true := by
 cases k with
 | i m => simp [MKey.val, Instr.sameBits]
 | s b => simp only [MKey.val, Instr.sameBits]; exact (MapKept.bytes_beq b b).2 rfl
theorem map_eval {E : Env} {ι : Id -> Option Nat} {F : Nat -> Prop} {a : Act} {w : World} (r : Rel E ι F st a w) {x : Operand} {id : Id} {s : Bool} {g : MKey -> Option V} (hx : st.eval x = .mref id) (ho : st.heap.slot id = .mp s g) :
  ∃ b es clock, a.eval x = .map (some b) /\ ι id = some b /\ w.heap[b]? = some (.map es clock) /\ MapIs st.heap ι F w s g es := by
 have hr := r.eval x
 rw [hx] at hr
 obtain ⟨_, h2⟩ := hr
 rw [ho] at h2
 obtain ⟨b, hb, hv⟩ := h2
 obtain ⟨b', es, clock, g1, g2, g3, g4⟩ := r.h.mapo _ s g ho
 rw [hb] at g1; injection g1 with g1; subst g1
 exact ⟨b, es, clock, hv, hb, g2, g3, g4⟩
theorem SL.makeMap {t : TypeId} {s : Bool} (hk : SL P L Q ((st.on (st.heap.addM s (fun _ => none))).put d (.mref ⟨st.heap.next, []⟩))) : SL P (⟨d, .makeMap t none, ty, none⟩ :: L) Q st :=
 SL.value rfl fun E ι F a w r => by
  obtain ⟨g1, g2⟩ := r.h.stepM ⟨st.heap.next, []⟩ w.heap.size s (fun _ => none) #[] 0 (w.alloc (.map #[] 0)) (st.heap.addM s (fun _ => none)) (fun i => by
    simp only [Heap.addM]
    by_cases h : i = ⟨st.heap.next, []⟩
    ·rw [if_pos h, Id.beq_iff.2 h]; rfl
    ·have : Id.beq i ⟨st.heap.next, []⟩ = false := by
      cases hb : Id.beq i ⟨st.heap.next, []⟩ with
      | false => rfl
      | true => exact absurd (Id.beq_iff.1 hb) h
     rw [if_neg h, this]; rfl)
   (fun i hi => by
    have hi : st.heap.next + 1 <= i.k := hi
    exact ⟨fun e => by subst e; exact absurd hi (by simp), by omega⟩) rfl rfl rfl rfl (by show w.heap.size <= (w.heap.push _).size; simp) (fun k _ hk => (MapKept.heap_alloc w _).2 k hk) (MapKept.heap_alloc w _).1 (.inl rfl)
   ⟨fun e he => by simp at he, fun k hk e he => by simp at he⟩ (by rw [r.h.next _ (Nat.le_refl _)]; trivial)
  refine ⟨.map (some w.heap.size), _, _, F, _, .mref ⟨st.heap.next, []⟩, ?_, g1, g2, ⟨rfl, ?_⟩, hk⟩
  ·rfl
  ·have : (st.heap.addM s (fun _ => none)).slot ⟨st.heap.next, []⟩ = .mp s (fun _ => none) := by simp only [Heap.addM, Id.beq_refl]; rfl
   rw [this]
   exact ⟨w.heap.size, by simp [upd], rfl⟩
def putK (g : MKey -> Option V) (k : MKey) (u : V) : MKey -> Option V := fun x => if x = k then some u else g x
theorem SL.mapUpdate {t e : TypeId} {s : Bool} (ht : MapT P t s e) {x y z : Operand} {id : Id} {g : MKey -> Option V} {k : MKey} {u : V} (hx : st.eval x = .mref id) (ho : st.heap.slot id = .mp s g) (hks : k.isS = s)
  (hy : ∀ E ι F a w, Rel E ι F st a w -> a.eval y = k.val) (hz : ∀ E ι F a w, Rel E ι F st a w -> VRel st.heap ι F w u (a.eval z))
  (hk : SL P L Q ((st.on (st.heap.setM id s (putK g k u))).put d .un)) : SL P (⟨d, .mapUpdate t x y z, ty, none⟩ :: L) Q st :=
 SL.skip rfl fun E ι F a w r => by
  obtain ⟨kt, hd, hdk⟩ := ht.d
  obtain ⟨b, es, clock, hv, hb, hh, hm⟩ := map_eval r hx ho
  have hu := hz E ι F a w r
  have hlt : b < w.heap.size := (Array.getElem?_eq_some_iff.1 hh).1
  have key : ∃ es' clock', (Instr.mapUpdate t (a.eval x) (a.eval y) (a.eval z)).run P w = .ok () { w with heap := w.heap.setIfInBounds b (.map es' clock') } /\ MapIs st.heap ι F w s (putK g k u) es' := by
   rw [hv, hy E ι F a w r]
   rcases findKey_run (w := w) hdk hks hm.1 with ⟨h1, h2⟩ | ⟨j, en, h1, h2, h3⟩
   ·refine ⟨es.push ⟨k.val, a.eval z, clock⟩, clock + 1, ?_, ?_, fun q hq => ?_⟩
    ·simp only [Instr.mapUpdate, Sem.run_bind, run_underlying' hd, Result.andThen_ok, getObj_run hh, checkKey_run hdk hks 9999, h1, MapKept.run_setObj_map _ hh]
    ·intro en hen
     rw [Array.toList_push] at hen
     rcases List.mem_append.1 hen with hen | hen
     ·exact hm.1 en hen
     ·simp only [List.mem_singleton] at hen; subst hen; exact ⟨k, hks, rfl⟩
    ·unfold putK
     by_cases hqk : q = k
     ·subst hqk
      rw [if_pos rfl]
      refine ⟨es.size, ⟨q.val, a.eval z, clock⟩, by simp, ⟨rfl, fun j hj e' he' => ?_⟩, hu⟩
      rw [Array.getElem?_push_lt hj] at he'
      injection he' with he'
      exact h2 e' (by rw [<- he']; exact Array.getElem_mem_toList _)
     ·rw [if_neg hqk]
      have h4 := hm.2 q hq
      cases hg : g q with
      | none =>
       rw [hg] at h4
       intro en hen
       rw [Array.toList_push] at hen
       rcases List.mem_append.1 hen with hen | hen
       ·exact h4 en hen
       ·simp only [List.mem_singleton] at hen; subst hen; exact fun x => hqk (MKey.val_inj x).symm
      | some v =>
       rw [hg] at h4
       obtain ⟨i, en, h5, h6, h7⟩ := h4
       have hi : i < es.size := (Array.getElem?_eq_some_iff.1 h5).1
       refine ⟨i, en, by rw [Array.getElem?_push_lt hi, <- h5]; exact (Array.getElem?_eq_getElem hi).symm, ⟨h6.1, fun j hj e' he' => h6.2 j hj e' ?_⟩, h7⟩
       rw [Array.getElem?_push_lt (by omega)] at he'
       rw [<- he']; exact Array.getElem?_eq_getElem _
   ·have hj : j < es.size := by
     have := (List.getElem?_eq_some_iff.1 h1).1
     simpa using this
    have hje : es[j]? = some en := by rw [<- Array.getElem?_toList]; exact h1
    have hmod : ∀ i : Nat, (es.modify j fun e => { e with key := k.val, val := a.eval z })[i]? = if j = i then es[i]?.map (fun e => { e with key := k.val, val := a.eval z }) else es[i]? := fun i => by
     rw [Array.getElem?_modify]
    refine ⟨es.modify j fun e => { e with key := k.val, val := a.eval z }, clock, ?_, ?_, fun q hq => ?_⟩
    ·simp only [Instr.mapUpdate, Sem.run_bind, run_underlying' hd, Result.andThen_ok, getObj_run hh, checkKey_run hdk hks 9999, h3]
     have : ((Option.map (fun x => x.key) es[j]?).getD k.val) = k.val := by rw [hje]; exact h2.1
     rw [this]
     simp only [Instr.keyThatStays, sameBits_mkey, if_true, Sem.run_pure, Result.andThen_ok, MapKept.run_setObj_map _ hh]
    ·intro e2 he2
     obtain ⟨i, hi, rfl⟩ := List.getElem_of_mem he2
     have h8 := hmod i
     have hi' : i < es.size := by simpa using hi
     have h9 : (es.modify j fun e => { e with key := k.val, val := a.eval z })[i]? = some ((es.modify j fun e => { e with key := k.val, val := a.eval z }).toList[i]) := by
      rw [<- Array.getElem?_toList]; exact List.getElem?_eq_getElem hi
     rw [h9] at h8
     by_cases hji : j = i
     ·rw [if_pos hji, Array.getElem?_eq_getElem hi'] at h8
      injection h8 with h8
      rw [h8]; exact ⟨k, hks, rfl⟩
     ·rw [if_neg hji, Array.getElem?_eq_getElem hi'] at h8
      injection h8 with h8
      rw [h8]; exact hm.1 _ (Array.getElem_mem_toList _)
    ·unfold putK
     have hkey : ∀ (i : Nat) e', (es.modify j fun e => { e with key := k.val, val := a.eval z })[i]? = some e' -> ∃ e0, es[i]? = some e0 /\ e0.key = e'.key := by
      intro i e' he'
      rw [hmod] at he'
      by_cases hji : j = i
      ·subst hji
       rw [if_pos rfl, hje] at he'
       injection he' with he'
       subst he'
       exact ⟨en, hje, h2.1⟩
      ·rw [if_neg hji] at he'
       exact ⟨e', he', rfl⟩
     by_cases hqk : q = k
     ·subst hqk
      rw [if_pos rfl]
      refine ⟨j, ⟨q.val, a.eval z, en.born⟩, by rw [hmod, if_pos rfl, hje]; rfl, ⟨rfl, fun i hi e' he' => ?_⟩, hu⟩
      obtain ⟨e0, q1, q2⟩ := hkey i e' he'
      rw [<- q2]
      exact h2.2 i hi e0 (by rw [Array.getElem?_toList]; exact q1)
     ·rw [if_neg hqk]
      have h4 := hm.2 q hq
      cases hg : g q with
      | none =>
       rw [hg] at h4
       intro e2 he2
       obtain ⟨i, hi, rfl⟩ := List.getElem_of_mem he2
       obtain ⟨e0, q1, q2⟩ := hkey i _ (by rw [<- Array.getElem?_toList]; exact List.getElem?_eq_getElem hi)
       rw [<- q2]
       have hi0 := (Array.getElem?_eq_some_iff.1 q1)
       obtain ⟨hi0, q1⟩ := hi0
       exact h4 e0 (by rw [<- q1]; exact Array.getElem_mem_toList _)
      | some v =>
       rw [hg] at h4
       obtain ⟨i, e2, h5, h6, h7⟩ := h4
       have hji : j ≠ i := fun e => by
        subst e
        rw [hje] at h5; injection h5 with h5; subst h5
        exact hqk (MKey.val_inj (h6.1.symm.trans h2.1))
       refine ⟨i, e2, by rw [hmod, if_neg hji]; exact h5, ⟨h6.1, fun i' hi' e' he' => ?_⟩, h7⟩
       obtain ⟨e0, q1, q2⟩ := hkey i' e' he'
       rw [<- q2]; exact h6.2 i' hi' e0 q1
  obtain ⟨es', clock', hrun, hm'⟩ := key
  obtain ⟨g1, g2⟩ := r.h.stepM id b s (putK g k u) es' clock' { w with heap := w.heap.setIfInBounds b (.map es' clock') } (st.heap.setM id s (putK g k u)) (fun i => by
    simp only [Heap.setM]
    by_cases h : i = id
    ·rw [if_pos h, Id.beq_iff.2 h]; rfl
    ·have : Id.beq i id = false := by
      cases hb : Id.beq i id with
      | false => rfl
      | true => exact absurd (Id.beq_iff.1 hb) h
     rw [if_neg h, this]; rfl)
   (fun i hi => ⟨fun e => (by subst e; rw [r.h.next _ hi] at ho; cases ho), hi⟩) rfl rfl rfl rfl (by simp) (fun k hk _ => (MapKept.heap_set hh).2 k hk) (MapKept.heap_set hh).1 (.inr ⟨hb, by rw [ho]; trivial⟩) hm' (by rw [ho]; exact hb)
  refine ⟨_, _, F, _, ?_, g1, g2, hk⟩
  simp only [execOp, GOp.oper, Sem.run_bind, hrun, Result.andThen_ok, Sem.run_pure]
theorem O.lookup {t e : TypeId} {s : Bool} (ht : MapT P t s e) {zv : Value} [hz : TyZero P e zv] {x y : Operand} {id : Id} {g : MKey -> Option V} {k : MKey} (hx : st.eval x = .mref id) (ho : st.heap.slot id = .mp s g) (hks : k.isS = s)
  (hy : ∀ E ι F a w, Rel E ι F st a w -> a.eval y = k.val) :
  QV P ⟨d, .lookup t x y false, ty, none⟩ ((g k).getD (V.ofValue zv)) st /\ QV P ⟨d, .lookup t x y true, ty, none⟩ (.tup 2 (fun j => if j = 0 then (g k).getD (V.ofValue zv) else .t (.bool (g k).isSome))) st := by
 have hzr : ∀ w : World, (zeroValue e).run P w = .ok zv w := fun w => zero_run w
 have key : ∀ E ι F a w, Rel E ι F st a w -> ∃ v, VRel st.heap ι F w ((g k).getD (V.ofValue zv)) v /\ (∀ ok, (Instr.lookup t (a.eval x) (a.eval y) ok).run P w = .ok (if ok = true then .tuple #[v, .bool (g k).isSome] else v) w) := by
  intro E ι F a w r
  obtain ⟨kt, hd, hdk⟩ := ht.d
  obtain ⟨b, es, clock, hv, hb, hh, hm⟩ := map_eval r hx ho
  rw [hv, hy E ι F a w r]
  have h4 := hm.2 k hks
  rcases findKey_run (w := w) hdk hks hm.1 with ⟨h1, h2⟩ | ⟨j, en, h1, h2, h3⟩
  ·have hg : g k = none := by
    cases hg : g k with
    | none => rfl
    | some u =>
     rw [hg] at h4
     obtain ⟨i, en, h5, h6, _⟩ := h4
     obtain ⟨hi, h5⟩ := Array.getElem?_eq_some_iff.1 h5
     exact absurd h6.1 (h2 en (by rw [<- h5]; exact Array.getElem_mem_toList _))
   rw [hg]
   refine ⟨zv, V.ofValue_rel _ _ _ _ _, fun ok => ?_⟩
   simp only [Instr.lookup, Sem.run_bind, run_underlying' hd, Result.andThen_ok, getObj_run hh, Sem.run_pure, checkKey_run hdk hks 9999, h1, hzr]
   cases ok <;> rfl
  ·have h1' : es[j]? = some en := by rw [<- Array.getElem?_toList]; exact h1
   obtain ⟨hj, h1''⟩ := Array.getElem?_eq_some_iff.1 h1'
   cases hg : g k with
   | none => rw [hg] at h4; exact absurd h2.1 (h4 en (by rw [<- h1'']; exact Array.getElem_mem_toList _))
   | some u =>
    rw [hg] at h4
    obtain ⟨i, e2, h5, h6, h7⟩ := h4
    have hij : i = j := by
     rcases Nat.lt_trichotomy i j with h | h | h
     ·exact absurd h6.1 (h2.2 i h e2 (by rw [Array.getElem?_toList]; exact h5))
     ·exact h
     ·exact absurd h2.1 (h6.2 j h en h1')
    subst hij
    rw [h1'] at h5; injection h5 with h5; subst h5
    refine ⟨en.val, h7, fun ok => ?_⟩
    simp only [Instr.lookup, Sem.run_bind, run_underlying' hd, Result.andThen_ok, getObj_run hh, Sem.run_pure, checkKey_run hdk hks 9999, h3]
    cases ok <;> rfl
 constructor
 ·intro E ι F a w r
  obtain ⟨v, h1, h2⟩ := key E ι F a w r
  refine ⟨v, ?_, h1⟩
  simp only [execOp, GOp.oper, Sem.run_bind, h2, Result.andThen_ok, Sem.run_pure]; rfl
 ·intro E ι F a w r
  obtain ⟨v, h1, h2⟩ := key E ι F a w r
  refine ⟨_, by simp only [execOp, GOp.oper, Sem.run_bind, h2, Result.andThen_ok, Sem.run_pure, if_true], #[v, .bool (g k).isSome], rfl, rfl, fun j hj => ?_⟩
  match j, hj with
  | 0, _ => exact ⟨v, rfl, h1⟩
  | 1, _ => exact ⟨_, rfl, rfl⟩
end Go.Abs
