/-
Memory told anew, in general: objects get other names, some are forgotten, some become data that is only read.
No statement of the program is proved here.
-/
import Derived.Test.YtlcholjffgaemaaB1
set_option linter.unusedVariables false
set_option linter.unusedSimpArgs false
namespace Go.Abs
open Go

/-- The frozen blocks, with those of some objects. -/
def FZ (H : Heap) (ι : Id → Option Nat) (Z : Id → Prop) (F : Nat → Prop) (b : Nat) : Prop := F b ∨ ∃ i, Z i ∧ (H.slot i).is ∧ ι i = some b

/-- What the first value was in the first memory the second is in the second, whose objects are m's. -/
def mι (m : Id → Option Id) (ι : Id → Option Nat) : Id → Option Nat := fun i => match m i with
  | some x => ι x
  | none => none
theorem mι_some {m : Id → Option Id} {ι : Id → Option Nat} {i x : Id} (h : m i = some x) : mι m ι i = ι x := by unfold mι; rw [h]
theorem mι_none {m : Id → Option Id} {ι : Id → Option Nat} {i : Id} (h : m i = none) : mι m ι i = none := by unfold mι; rw [h]
theorem mι_out {m : Id → Option Id} {ι : Id → Option Nat} {i : Id} {b : Nat} (h : mι m ι i = some b) : ∃ x, m i = some x ∧ ι x = some b := by
  unfold mι at h
  cases hm : m i with
  | none => rw [hm] at h; cases h
  | some x => rw [hm] at h; exact ⟨x, rfl, h⟩
def KG (H H' : Heap) (m : Id → Option Id) (Z : Id → Prop) (u u' : V) : Prop := ∀ E ι F w v, RelH E ι F H w → VRel H ι F w u v → VRel H' (mι m ι) (FZ H ι Z F) w u' v

structure Gen (H H' : Heap) (m : Id → Option Id) (Z : Id → Prop) : Prop where
  lo : H'.lo = H.lo
  next : Nx H'
  obj : ∀ i o', H'.slot i = .live o' → (m i = none ∧ o'.n = 0) ∨ ∃ x o, m i = some x ∧ H.slot x = .live o ∧ ¬ Z x ∧ o'.elem = o.elem ∧ o'.sz = o.sz ∧ o'.n ≤ o.n ∧ ∀ r, r < o'.n → ∀ c, c < o'.sz → KG H H' m Z (o.get r c) (o'.get r c)
  mp : ∀ i s g', H'.slot i = .mp s g' → ∃ x g, m i = some x ∧ H.slot x = .mp s g ∧ ¬ Z x ∧ ∀ k, (g k = none ∧ g' k = none) ∨ ∃ u u', g k = some u ∧ g' k = some u' ∧ KG H H' m Z u u'
  inj : ∀ i j x, (H'.slot i).is → (H'.slot j).is → m i = some x → m j = some x → i = j
  low : ∀ i : Id, i.k < H.lo → i.p = [] → H.slot i = .unborn ∨ H'.slot i = .dead ∨ (m i = some i ∧ SlotLike (H.slot i) (H'.slot i))

theorem Gen.ext {E : Env} {ι : Id → Option Nat} {F : Nat → Prop} {H H' : Heap} {m : Id → Option Id} {Z : Id → Prop} {w : World} (r : RelH E ι F H w) (k : Gen H H' m Z) :
    Ext E.H0 E.ι0 E.F0 E.w0 H' (mι m ι) (FZ H ι Z F) w := by
  have hF : ∀ b, F b → FZ H ι Z F b := fun b h => .inl h
  have low : ∀ id, E.H0.slot id ≠ .unborn → H.slot id = .unborn ∨ H'.slot id = .dead ∨ (m id = some id ∧ SlotLike (H.slot id) (H'.slot id)) := fun id h =>
    k.low id (Nat.lt_of_not_le fun hle => h (r.lo id (.inl hle))) (Classical.byContradiction fun hp => h (r.lo id (.inr hp)))
  have key : ∀ u v, VRel E.H0 E.ι0 E.F0 E.w0 u v → VRel H ι F w u v → VRel H' (mι m ι) (FZ H ι Z F) w u v := by
    intro u
    induction u with
    | ptr id ver rr c =>
      rintro v ⟨_, h0⟩ ⟨h1, h2⟩
      refine ⟨h1, ?_⟩
      rcases low id (fun e => by rw [e] at h0; exact h0) with hu | hd | ⟨hm, hl⟩
      · rw [hu] at h2; exact h2.elim
      · rw [hd]; trivial
      · cases hs' : H'.slot id with
        | dead => trivial
        | unborn => rw [hs'] at hl; cases hs : H.slot id <;> rw [hs] at hl <;> exact hl.elim
        | mp s g => trivial
        | live o' =>
          rw [hs'] at hl
          cases hs : H.slot id with
          | live o =>
            rw [hs] at hl h2
            obtain ⟨a, b, c, d⟩ := hl
            simp only [mι_some hm] at h2 ⊢
            rw [a, c]; exact h2
          | unborn => rw [hs] at hl; exact hl.elim
          | dead => rw [hs] at hl; exact hl.elim
          | mp _ _ => rw [hs] at hl; exact hl.elim
    | sref id ver rr len =>
      rintro v ⟨_, h0⟩ ⟨h1, h2⟩
      refine ⟨h1, ?_⟩
      rcases low id (fun e => by rw [e] at h0; exact h0) with hu | hd | ⟨hm, hl⟩
      · rw [hu] at h2; exact h2.elim
      · rw [hd]; trivial
      · cases hs' : H'.slot id with
        | dead => trivial
        | unborn => rw [hs'] at hl; cases hs : H.slot id <;> rw [hs] at hl <;> exact hl.elim
        | mp s g => trivial
        | live o' =>
          rw [hs'] at hl
          cases hs : H.slot id with
          | live o =>
            rw [hs] at hl h2
            obtain ⟨a, b, c, d⟩ := hl
            simp only [mι_some hm] at h2 ⊢
            rw [a, b, c, d]; exact h2
          | unborn => rw [hs] at hl; exact hl.elim
          | dead => rw [hs] at hl; exact hl.elim
          | mp _ _ => rw [hs] at hl; exact hl.elim
    | mref id =>
      rintro v ⟨_, h0⟩ ⟨h1, h2⟩
      refine ⟨h1, ?_⟩
      rcases low id (fun e => by rw [e] at h0; exact h0) with hu | hd | ⟨hm, hl⟩
      · rw [hu] at h2; exact h2.elim
      · rw [hd]; trivial
      · cases hs' : H'.slot id with
        | dead => trivial
        | unborn => rw [hs'] at hl; cases hs : H.slot id <;> rw [hs] at hl <;> exact hl.elim
        | live o' => trivial
        | mp s g =>
          rw [hs'] at hl
          cases hs : H.slot id with
          | mp _ _ => rw [hs] at h2; simp only [mι_some hm]; exact h2
          | unborn => rw [hs] at hl; exact hl.elim
          | dead => rw [hs] at hl; exact hl.elim
          | live _ => rw [hs] at hl; exact hl.elim
    | fn f n cap ih =>
      rintro v ⟨cs, h1, h2, h3⟩ ⟨cs', h1', h2', h3'⟩
      rw [h1] at h1'
      injection h1' with _ _ h1'; subst h1'
      refine ⟨cs, h1, h2, fun j hj => ?_⟩
      obtain ⟨c, a, b⟩ := h3 j hj
      obtain ⟨c', a', b'⟩ := h3' j hj
      rw [a] at a'; injection a' with a'; subst a'
      exact ⟨c, a, ih j _ b b'⟩
    | agg n get ih =>
      rintro v ⟨cs, h1, h2, h3⟩ ⟨cs', h1', h2', h3'⟩
      rw [h1] at h1'
      injection h1' with h1'; subst h1'
      refine ⟨cs, h1, h2, fun j hj => ?_⟩
      obtain ⟨c, a, p, b⟩ := h3 j hj
      obtain ⟨c', a', p', b'⟩ := h3' j hj
      rw [a] at a'; injection a' with a'; subst a'
      exact ⟨c, a, p, ih j _ b b'⟩
    | tup n get ih =>
      rintro v ⟨cs, h1, h2, h3⟩ ⟨cs', h1', h2', h3'⟩
      rw [h1] at h1'
      injection h1' with h1'; subst h1'
      refine ⟨cs, h1, h2, fun j hj => ?_⟩
      obtain ⟨c, a, b⟩ := h3 j hj
      obtain ⟨c', a', b'⟩ := h3' j hj
      rw [a] at a'; injection a' with a'; subst a'
      exact ⟨c, a, ih j _ b b'⟩
    | un => exact fun _ _ _ => trivial
    | und => exact fun _ _ h => h
    | t x => exact fun _ _ h => Reads.mono hF (fun _ _ => rfl) _ _ h
    | nils => exact fun _ _ h => h
    | nilp => exact fun _ _ h => h
    | nilm => exact fun _ _ h => h
    | nilf => exact fun _ _ h => h
    | fp m g =>
      rintro v _ ⟨b, o, h1, h2, h3⟩
      exact ⟨b, o, h1, hF b h2, fun j hj => by obtain ⟨c, a, b⟩ := h3 j hj; exact ⟨c, a, Reads.mono hF (fun _ _ => rfl) _ _ b⟩⟩
  exact fun u v h => key u v h (r.ext u v h)

theorem Gen.rel {E : Env} {ι : Id → Option Nat} {F : Nat → Prop} {H H' : Heap} {m : Id → Option Id} {Z : Id → Prop} {w : World} (r : RelH E ι F H w) (k : Gen H H' m Z) :
    RelH E (mι m ι) (FZ H ι Z F) H' w := by
  have is : ∀ id b, (H'.slot id).is → mι m ι id = some b → ∃ x, m id = some x ∧ ι x = some b ∧ (H.slot x).is ∧ ¬ Z x := fun id b h hb => by
    obtain ⟨x, hx, hxb⟩ := mι_out hb
    cases hs : H'.slot id with
    | live o' =>
      rcases k.obj id o' hs with ⟨h1, _⟩ | ⟨y, o, hy, ho, hz, _⟩
      · rw [h1] at hx; cases hx
      · rw [hy] at hx; injection hx with hx; subst hx; exact ⟨y, hy, hxb, by rw [ho]; trivial, hz⟩
    | mp s g => obtain ⟨y, g', hy, ho, hz, _⟩ := k.mp id s g hs; rw [hy] at hx; injection hx with hx; subst hx; exact ⟨y, hy, hxb, by rw [ho]; trivial, hz⟩
    | unborn => rw [hs] at h; exact h.elim
    | dead => rw [hs] at h; exact h.elim
  refine ⟨r.os, r.tape, r.output, r.size, r.kept, fun id o' h => ?_, fun id s g h => ?_, fun i j b h h' hi hj => ?_,
    fun i b h hi => ?_, fun i b h hi => ?_, fun i b h hi => ?_, fun b hb => ?_, fun b hb => ?_, k.next, Gen.ext r k, by rw [k.lo]; exact r.lo⟩
  · rcases k.obj id o' h with ⟨h1, h2⟩ | ⟨x, o, hm, ho, hz, he, hs, hn, hg⟩
    · refine ⟨by rw [h2]; exact Nat.zero_le _, ?_⟩
      rw [mι_none h1]; exact h2
    · obtain ⟨h1, h2⟩ := r.obj _ o ho
      refine ⟨Nat.le_trans hn h1, ?_⟩
      rw [mι_some hm]
      cases hk : ι x with
      | none => rw [hk] at h2; have h2 : o.n = 0 := h2; show o'.n = 0; omega
      | some b =>
        rw [hk] at h2
        obtain ⟨cur, g1, g2, g3⟩ := h2
        dsimp only
        rw [he, hs]
        exact ⟨cur, g1, Nat.le_trans (Nat.mul_le_mul_right _ hn) g2, fun i hi j hj => by obtain ⟨c, a, b, d⟩ := g3 i (by omega) j hj; exact ⟨c, a, b, hg i hi j (by omega) _ _ _ _ _ r d⟩⟩
  · obtain ⟨x, g', hm, hg, hz, hk⟩ := k.mp id s g h
    obtain ⟨b, es, clock, g1, g2, g3, g4⟩ := r.mapo _ s g' hg
    refine ⟨b, es, clock, (mι_some hm).trans g1, g2, g3, fun key hkey => ?_⟩
    have := g4 key hkey
    rcases hk key with ⟨e1, e2⟩ | ⟨u, u', e1, e2, e3⟩
    · rw [e1] at this; rw [e2]; exact this
    · rw [e1] at this; rw [e2]
      obtain ⟨n, e, a, b, c⟩ := this
      exact ⟨n, e, a, b, e3 _ _ _ _ _ r c⟩
  · obtain ⟨x, hx1, hx2, hx3, _⟩ := is i b h hi
    obtain ⟨y, hy1, hy2, hy3, _⟩ := is j b h' hj
    obtain rfl := r.inj x y b hx3 hy3 hx2 hy2
    exact k.inj i j x h h' hx1 hy1
  · obtain ⟨x, hx1, hx2, hx3, hx4⟩ := is i b h hi
    rintro (hf | ⟨j, hz, hj, hb⟩)
    · exact r.nofr _ b hx3 hx2 hf
    · exact hx4 (by rw [r.inj _ _ b hx3 hj hx2 hb]; exact hz)
  · obtain ⟨x, hx1, hx2, hx3, hx4⟩ := is i b h hi
    exact r.own _ b hx3 hx2
  · obtain ⟨x, hx1, hx2, hx3, hx4⟩ := is i b h hi
    exact r.lt _ b hx3 hx2
  · rcases hb with hf | ⟨j, hz, hj, hb⟩
    · exact r.frlt b hf
    · exact r.lt j b hj hb
  · rcases hb with hf | ⟨j, hz, hj, hb⟩
    · exact r.frin b hf
    · rcases r.own j b hj hb with h | h
      · exact .inr (.inl h)
      · exact .inr (.inr h)

/-- A state told anew. -/
theorem Weak.gen {st st' : St} (m : Id → Option Id) (Z : Id → Prop) (hn : st'.nt = st.nt) (k : Gen st.heap st'.heap m Z) (he : ∀ t, KG st.heap st'.heap m Z (st.env t) (st'.env t)) : Weak st st' := fun E ι F a w r =>
  ⟨_, _, ⟨Gen.rel r.h k, fun t => he t _ _ _ _ _ r.h (r.env t), r.nt.trans hn.symm, r.defers⟩⟩

section
variable {H H' : Heap} {m : Id → Option Id} {Z : Id → Prop}
theorem KG.un {u : V} : KG H H' m Z u .un := fun _ _ _ _ _ _ _ => trivial
theorem KG.und : KG H H' m Z .und .und := fun _ _ _ _ _ _ h => h
theorem KG.t (x : T) : KG H H' m Z (.t x) (.t x) := fun _ _ _ _ _ _ h => Reads.mono (fun _ h => .inl h) (fun _ _ => rfl) _ _ h
theorem KG.nils : KG H H' m Z .nils .nils := fun _ _ _ _ _ _ h => h
theorem KG.nilp : KG H H' m Z .nilp .nilp := fun _ _ _ _ _ _ h => h
theorem KG.nilm : KG H H' m Z .nilm .nilm := fun _ _ _ _ _ _ h => h
theorem KG.nilf : KG H H' m Z .nilf .nilf := fun _ _ _ _ _ _ h => h
theorem KG.fp {n : Nat} {g : Nat → T} : KG H H' m Z (.fp n g) (.fp n g) := fun _ _ _ _ _ _ ⟨b, o, h1, h2, h3⟩ =>
  ⟨b, o, h1, .inl h2, fun j hj => by obtain ⟨c, a, b⟩ := h3 j hj; exact ⟨c, a, Reads.mono (fun _ h => .inl h) (fun _ _ => rfl) _ _ b⟩⟩
theorem KG.agg {n : Nat} {g g' : Nat → V} (h : ∀ j, j < n → KG H H' m Z (g j) (g' j)) : KG H H' m Z (.agg n g) (.agg n g') := fun E ι F w v r ⟨cs, h1, h2, h3⟩ =>
  ⟨cs, h1, h2, fun j hj => by obtain ⟨c, a, p, b⟩ := h3 j hj; exact ⟨c, a, p, h j hj _ _ _ _ _ r b⟩⟩
theorem KG.tup {n : Nat} {g g' : Nat → V} (h : ∀ j, j < n → KG H H' m Z (g j) (g' j)) : KG H H' m Z (.tup n g) (.tup n g') := fun E ι F w v r ⟨cs, h1, h2, h3⟩ =>
  ⟨cs, h1, h2, fun j hj => by obtain ⟨c, a, b⟩ := h3 j hj; exact ⟨c, a, h j hj _ _ _ _ _ r b⟩⟩
theorem KG.fn {f : FuncId} {n : Nat} {g g' : Nat → V} (h : ∀ j, j < n → KG H H' m Z (g j) (g' j)) : KG H H' m Z (.fn f n g) (.fn f n g') := fun E ι F w v r ⟨cs, h1, h2, h3⟩ =>
  ⟨cs, h1, h2, fun j hj => by obtain ⟨c, a, b⟩ := h3 j hj; exact ⟨c, a, h j hj _ _ _ _ _ r b⟩⟩
theorem KG.dead {i : Id} (hd : H'.slot i = .dead) {ver r c : Nat} {u : V} (hu : ∀ E ι F w v, RelH E ι F H w → VRel H ι F w u v → v.oneCell' = true) : KG H H' m Z u (.ptr i ver r c) := fun E ι F w v r h =>
  ⟨hu _ _ _ _ _ r h, by rw [hd]; trivial⟩
/-- A pointer, if its object has another name. -/
theorem KG.ptr {i j : Id} {ver ver' r c : Nat} {o o' : AObj} (h : H.slot i = .live o) (h' : H'.slot j = .live o') (hm : m j = some i) (hv : ver = o.ver) (hv' : ver' = o'.ver) (hz : o'.sz = o.sz) :
    KG H H' m Z (.ptr i ver r c) (.ptr j ver' r c) := fun E ι F w v _ ⟨h0, h1⟩ => by
  rw [h] at h1
  refine ⟨h0, ?_⟩
  rw [h']
  refine ⟨Nat.le_of_eq hv', fun _ => ?_⟩
  rw [mι_some hm, hz]; exact h1.2 hv
theorem KG.sref {i j : Id} {ver ver' r len : Nat} {o o' : AObj} (h : H.slot i = .live o) (h' : H'.slot j = .live o') (hm : m j = some i) (hv : ver = o.ver) (hv' : ver' = o'.ver) (hz : o'.sz = o.sz) (he : o'.elem = o.elem) (hn : r + len ≤ o'.n) :
    KG H H' m Z (.sref i ver r len) (.sref j ver' r len) := fun E ι F w v _ ⟨h0, h1⟩ => by
  rw [h] at h1
  refine ⟨h0, ?_⟩
  rw [h']
  refine ⟨Nat.le_of_eq hv', fun _ => ⟨hn, ?_⟩⟩
  rw [mι_some hm, hz, he]; exact (h1.2 hv).2
theorem KG.virt {j : Id} {ver' : Nat} {o' : AObj} (h' : H'.slot j = .live o') (hv' : ver' = o'.ver) : KG H H' m Z .nils (.sref j ver' 0 0) := fun E ι F w v _ h => by
  have h : v = .slice none 0 0 := h
  subst h
  refine ⟨rfl, ?_⟩
  rw [h']
  exact ⟨Nat.le_of_eq hv', fun _ => ⟨Nat.zero_le _, none, 0, rfl, Nat.le_refl _, fun h => absurd h (Nat.lt_irrefl _)⟩⟩
theorem KG.mref {i j : Id} {s s' : Bool} {g g' : MKey → Option V} (h : H.slot i = .mp s g) (h' : H'.slot j = .mp s' g') (hm : m j = some i) :
    KG H H' m Z (.mref i) (.mref j) := fun E ι F w v _ ⟨h0, h1⟩ => by
  rw [h] at h1
  refine ⟨h0, ?_⟩
  rw [h']
  rw [mι_some hm]
  exact h1
theorem KG.of_wk {u u1 u' : V} (h : KG H H' m Z u u1) (k : ∀ H ι F w c, VRel H ι F w u1 c → VRel H ι F w u' c) : KG H H' m Z u u' := fun E ι F w v r hv => k _ _ _ _ _ (h E ι F w v r hv)
theorem KG.of_wk' {u u1 u' : V} (k : ∀ H ι F w c, VRel H ι F w u c → VRel H ι F w u1 c) (h : KG H H' m Z u1 u') : KG H H' m Z u u' := fun E ι F w v r hv => h E ι F w v r (k _ _ _ _ _ hv)
end
end Go.Abs
