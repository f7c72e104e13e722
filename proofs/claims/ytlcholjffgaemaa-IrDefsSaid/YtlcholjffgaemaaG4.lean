/-
Typed states: new objects (variables, slices), and rows that are set.
No statement of the program is proved here.
-/
import Derived.Test.YtlcholjffgaemaaG3
set_option linter.unusedVariables false
set_option linter.unusedSimpArgs false
set_option linter.unusedSectionVars false
namespace Go.Abs
open Go

variable {P : Program} {d : Option Tmp} {ty : TypeId} {L : List GOp}

/-- Where no name changes, values stay. -/
theorem KG.same {H H' : Heap} {Z : Id → Prop} (hl : ∀ i, H.slot i ≠ .unborn → SlotLike (H.slot i) (H'.slot i)) : ∀ u, KG H H' some Z u u := by
  intro u
  induction u with
  | un => exact KG.un
  | und => exact KG.und
  | t x => exact KG.t x
  | nils => exact KG.nils
  | nilp => exact KG.nilp
  | nilm => exact KG.nilm
  | nilf => exact KG.nilf
  | fp m g => exact KG.fp
  | agg n g ih => exact KG.agg fun j _ => ih j
  | tup n g ih => exact KG.tup fun j _ => ih j
  | fn f n g ih => exact KG.fn fun j _ => ih j
  | ptr id ver r c =>
    rintro E ι F w v rr ⟨h0, h1⟩
    have hne : H.slot id ≠ .unborn := fun e => by rw [e] at h1; exact h1
    have hl := hl id hne
    refine ⟨h0, ?_⟩
    cases hs' : H'.slot id with
    | dead => trivial
    | mp s g => trivial
    | unborn => rw [hs'] at hl; cases hs : H.slot id <;> rw [hs] at hl <;> exact hl.elim
    | live o' =>
      rw [hs'] at hl
      cases hs : H.slot id with
      | live o =>
        rw [hs] at hl h1
        obtain ⟨a, b, c, d⟩ := hl
        show ver ≤ o'.ver ∧ _
        rw [a, c]; exact h1
      | unborn => rw [hs] at hl; exact hl.elim
      | dead => rw [hs] at hl; exact hl.elim
      | mp _ _ => rw [hs] at hl; exact hl.elim
  | sref id ver r c =>
    rintro E ι F w v rr ⟨h0, h1⟩
    have hne : H.slot id ≠ .unborn := fun e => by rw [e] at h1; exact h1
    have hl := hl id hne
    refine ⟨h0, ?_⟩
    cases hs' : H'.slot id with
    | dead => trivial
    | mp s g => trivial
    | unborn => rw [hs'] at hl; cases hs : H.slot id <;> rw [hs] at hl <;> exact hl.elim
    | live o' =>
      rw [hs'] at hl
      cases hs : H.slot id with
      | live o =>
        rw [hs] at hl h1
        obtain ⟨a, b, c, d⟩ := hl
        show ver ≤ o'.ver ∧ _
        rw [a, b, c, d]; exact h1
      | unborn => rw [hs] at hl; exact hl.elim
      | dead => rw [hs] at hl; exact hl.elim
      | mp _ _ => rw [hs] at hl; exact hl.elim
  | mref id =>
    rintro E ι F w v rr ⟨h0, h1⟩
    have hne : H.slot id ≠ .unborn := fun e => by rw [e] at h1; exact h1
    have hl := hl id hne
    refine ⟨h0, ?_⟩
    cases hs' : H'.slot id with
    | dead => trivial
    | live o' => trivial
    | unborn => rw [hs'] at hl; cases hs : H.slot id <;> rw [hs] at hl <;> exact hl.elim
    | mp s g =>
      rw [hs'] at hl
      cases hs : H.slot id with
      | mp _ _ => rw [hs] at h1; exact h1
      | unborn => rw [hs] at hl; exact hl.elim
      | dead => rw [hs] at hl; exact hl.elim
      | live _ => rw [hs] at hl; exact hl.elim

/-- States that differ only by what is forgotten, and by how values are told. -/
theorem Weak.like {st st' : St} (hn : st'.nt = st.nt) (hlo : st'.heap.lo = st.heap.lo) (hnx : Nx st.heap → Nx st'.heap) (hl : ∀ i, st.heap.slot i ≠ .unborn → SlotLike (st.heap.slot i) (st'.heap.slot i))
    (hc : ∀ i o', st'.heap.slot i = .live o' → ∃ o, st.heap.slot i = .live o ∧ ∀ r, r < o.n → ∀ c, c < o.sz → Wk (o.get r c) (o'.get r c))
    (hm : ∀ i s g', st'.heap.slot i = .mp s g' → st.heap.slot i = .mp s g')
    (he : ∀ t, Wk (st.env t) (st'.env t)) : Weak st st' := fun E ι F a w r =>
  Weak.gen some (fun _ => False) hn ⟨hlo, hnx r.h.next, fun i o' h => by
      obtain ⟨o, ho, hw⟩ := hc i o' h
      have := hl i (by rw [ho]; exact fun e => by cases e)
      rw [ho, h] at this
      obtain ⟨a, b, c, d⟩ := this
      exact .inr ⟨i, o, rfl, ho, fun h => h, b, c, Nat.le_of_eq d, fun x hx y hy => KG.of_wk' (hw x (by omega) y (by omega)) (KG.same hl _)⟩,
    fun i s g' h => ⟨i, g', rfl, hm i s g' h, fun h => h, fun k => by cases g' k <;> first | exact .inl ⟨rfl, rfl⟩ | exact .inr ⟨_, _, rfl, rfl, KG.same hl _⟩⟩,
    fun i j x _ _ h1 h2 => by injection h1 with h1; injection h2 with h2; rw [h1, h2],
    fun i hi hp => by
      by_cases hs : st.heap.slot i = .unborn
      · exact .inl hs
      · exact .inr (.inr ⟨rfl, hl i hs⟩)⟩
    (fun t => KG.of_wk' (he t) (KG.same hl _)) E ι F a w r

section
variable [SU] [Codes]
theorem he_put {s : ESt} {s' : EHeap} (hf : Fair s) (hlen : ∀ id p, (toH s.heap).slot ⟨id, p⟩ ≠ .unborn → s'.len id p = s.heap.len id p) {H1 : Heap} {d : Option Tmp} {u0 : V} {u : EV} (hu : d ≠ none → Wk u0 (toV s'.len u)) :
    ∀ t, Wk ((((toSt s).on H1).put d u0).env t) (toV s'.len (((s.on s').put d u).env t)) := fun t => by
  cases d with
  | none => exact Wk.of_eq (toV_len hlen _ (hf.env t)).symm
  | some d =>
    simp only [St.put, ESt.put]
    cases Nat.beq t d with
    | false => exact Wk.of_eq (toV_len hlen _ (hf.env t)).symm
    | true =>
      show Wk (bif Nat.blt d s.nt then u0 else .un) (toV s'.len (bif Nat.blt d s.nt then u else .un))
      cases Nat.blt d s.nt with
      | true => exact hu (fun e => by cases e)
      | false => simp only [cond_false, toV]; exact Wk.refl _

theorem weak_root {s : ESt} {H1 : Heap} {H' : EHeap} {u0 : V} {u : EV} (hf : Fair s) (k : Nat) (hobj : ∀ k', k' ≠ k → H'.obj k' = s.heap.obj k')
    (hlen : ∀ id p, (toH s.heap).slot ⟨id, p⟩ ≠ .unborn → H'.len id p = s.heap.len id p)
    (hH1 : ∀ i : Id, i.k ≠ k → H1.slot i = (toH s.heap).slot i) (hlo : H'.lo = H1.lo) (hnx : Nx H1 → Nx (toH H'))
    (hk1 : ∀ p, H1.slot ⟨k, p⟩ ≠ .unborn → SlotLike (H1.slot ⟨k, p⟩) ((toH H').slot ⟨k, p⟩))
    (hk2 : ∀ p o', (toH H').slot ⟨k, p⟩ = .live o' → ∃ o, H1.slot ⟨k, p⟩ = .live o ∧ ∀ r, r < o.n → ∀ c, c < o.sz → Wk (o.get r c) (o'.get r c))
    (hk3 : ∀ p s g', (toH H').slot ⟨k, p⟩ = .mp s g' → H1.slot ⟨k, p⟩ = .mp s g')
    (d : Option Tmp) (hu : d ≠ none → Wk u0 (toV H'.len u)) : Weak (((toSt s).on H1).put d u0) (toSt ((s.on H').put d u)) := by
  have hh1 : (((toSt s).on H1).put d u0).heap = H1 := by rw [put_heap]; rfl
  have hh2 : (toSt ((s.on H').put d u)).heap = toH H' := by rw [toSt_put, put_heap]; rfl
  have hslot : ∀ i : Id, i.k ≠ k → (toH H').slot i = (s.heap.obj i.k).slot H'.len i.k i.p := fun i hi => by
    show (H'.obj i.k).slot _ _ _ = _; rw [hobj _ hi]
  refine Weak.like (by rw [put_nt, toSt_put, put_nt]; rfl) (by rw [hh1, hh2]; exact hlo) (by rw [hh1, hh2]; exact hnx) (fun i => ?_) (fun i o' => ?_) (fun i sb g' => ?_) (fun t => ?_)
  · rw [hh1, hh2]
    by_cases hi : i.k = k
    · obtain ⟨k', p⟩ := i
      simp only at hi
      subst hi
      exact hk1 p
    · intro hne
      rw [hH1 i hi] at hne ⊢
      rw [hslot i hi]
      rcases slotLike_len (len' := H'.len) (o := s.heap.obj i.k) (len := s.heap.len) (k := i.k) (p := i.p) hne trivial with h | h
      · rw [h]; trivial
      · exact h
  · rw [hh1, hh2]
    by_cases hi : i.k = k
    · obtain ⟨k', p⟩ := i
      simp only at hi
      subst hi
      exact hk2 p o'
    · intro ho
      rw [hslot i hi] at ho
      obtain ⟨o, h1, h2, h3, h4, h5, h6⟩ := slot_live (len := s.heap.len) ho
      have h1' : (toH s.heap).slot i = .live o := h1
      refine ⟨o, (hH1 i hi).trans h1', fun r hr c hc => Wk.of_eq ?_⟩
      exact (h6 (toH s.heap) hlen r hr c hc (hf.obj i o h1' r hr c hc)).symm
  · rw [hh1, hh2]
    by_cases hi : i.k = k
    · obtain ⟨k', p⟩ := i
      simp only at hi
      subst hi
      exact hk3 p sb g'
    · intro ho
      rw [hslot i hi] at ho
      obtain ⟨τ, g, h1, h2, h3⟩ := slot_mp ho
      rw [hH1 i hi]
      show (s.heap.obj i.k).slot _ _ _ = _
      rw [h1, h2, h3]; rfl
  · have := he_put (s := s) (s' := H') hf hlen (H1 := H1) (d := d) hu t
    rw [toSt_put] at *
    have e : ((toSt (s.on H')).put d (toV (s.on H').heap.len u)).env t = toV H'.len (((s.on H').put d u).env t) := by
      rw [← toSt_put]
      show toV ((s.on H').put d u).heap.len _ = _
      cases d <;> rfl
    rw [e]; exact this

/-- An object without lists of its own in it. -/
def OD.flat : OD → Bool
  | .lst v => froT v.τ
  | .cells _ _ => true
  | .mp _ _ _ => true
  | _ => false
theorem LV.at_flat {v : LV} (h : froT v.τ = true) : ∀ p, p ≠ [] → v.at p = none
  | [], hp => absurd rfl hp
  | [_], _ => LV.at_odd _ _
  | c :: r :: p, _ => by
    rw [LV.at_cons]
    have : v.kid c r = none := by
      unfold LV.kid
      obtain ⟨u, e, _⟩ := cellC_enc v.τ (v.l.getD r v.τ.z) c h
      rw [e]
    rw [this]
theorem OD.flat_slot {o : OD} {len : Len} {k : Nat} (h : o.flat = true) : ∀ p, p ≠ [] → o.slot len k p = .unborn := fun p hp => by
  cases o with
  | lst v => simp only [OD.slot, LV.at_flat h p hp]
  | cells e l => cases p <;> first | exact absurd rfl hp | rfl
  | mp s τ g => cases p <;> first | exact absurd rfl hp | rfl
  | none => rfl
  | dead => cases h
  | hole v q r c => cases h
theorem weak_add {s : ESt} {a : AObj} {o : OD} {u0 : V} {u : EV} (hf : Fair s) (ho : o.flat = true) {a' : AObj} (hs : o.slot (s.heap.add s.heap.next o).len s.heap.next [] = .live a')
    (h1 : a'.ver = a.ver) (h2 : a'.elem = a.elem) (h3 : a'.sz = a.sz) (h4 : a'.n = a.n) (h5 : ∀ r, r < a.n → ∀ c, c < a.sz → Wk (a.get r c) (a'.get r c)) (d : Option Tmp) (hu : d ≠ none → Wk u0 (toV (s.heap.add s.heap.next o).len u)) :
    Weak (((toSt s).on ((toSt s).heap.addAt s.heap.next a)).put d u0) (toSt ((s.on (s.heap.add s.heap.next o)).put d u)) := by
  have hsl : ∀ i : Id, ((toSt s).heap.addAt s.heap.next a).slot i = if i = ⟨s.heap.next, []⟩ then .live a else (toH s.heap).slot i := fun i => by
    show (bif Id.beq i ⟨s.heap.next, []⟩ then _ else _) = _
    exact beq_if _ _ _ _
  have hnew : ∀ p, (toH (s.heap.add s.heap.next o)).slot ⟨s.heap.next, p⟩ = o.slot (s.heap.add s.heap.next o).len s.heap.next p := fun p => by
    show ((s.heap.add s.heap.next o).obj s.heap.next).slot _ _ _ = _
    simp only [EHeap.add, Nat.beq_refl, cond_true]
  refine weak_root hf s.heap.next (fun k' hk => by simp only [EHeap.add, natBeq_ne hk, cond_false]) (fun id p hb => ?_) (fun i hi => ?_) rfl (fun hn i hi => ?_) (fun p hne => ?_) (fun p o' hl => ?_) (fun p sb g' hl => ?_) d hu
  · have : id ≠ s.heap.next := fun e => hb (hf.next ⟨id, p⟩ (by rw [e]; exact Nat.le_refl _))
    exact EHeap.len_obj (EHeap.add_ne this) p
  · rw [hsl, if_neg (fun e => hi (by rw [e]))]
  · have hi : s.heap.next + 1 ≤ i.k := hi
    have hne : i.k ≠ s.heap.next := by omega
    have := hf.next i (by omega)
    have h' : (s.heap.obj i.k).slot s.heap.len i.k i.p = .unborn := this
    show ((s.heap.add s.heap.next o).obj i.k).slot _ _ _ = .unborn
    simp only [EHeap.add, natBeq_ne hne, cond_false]
    exact (slot_dead (len := s.heap.len)).2.2 h'
  · rw [hsl] at hne ⊢
    by_cases hp : p = []
    · subst hp
      rw [if_pos rfl, hnew, hs]
      exact ⟨h1, h2, h3, h4⟩
    · rw [if_neg (fun e => hp (by injection e))] at hne
      exact absurd (hf.next ⟨s.heap.next, p⟩ (Nat.le_refl _)) hne
  · rw [hnew] at hl
    rw [hsl]
    by_cases hp : p = []
    · subst hp
      rw [hs] at hl
      injection hl with hl
      subst hl
      exact ⟨a, if_pos rfl, h5⟩
    · rw [OD.flat_slot ho p hp] at hl; cases hl
  · rw [hnew] at hl
    by_cases hp : p = []
    · subst hp; rw [hs] at hl; cases hl
    · rw [OD.flat_slot ho p hp] at hl; cases hl
end
end Go.Abs
