/-
Typed states: append.
No statement of the program is proved here.
-/
import Derived.Test.YtlcholjffgaemaaG6
set_option linter.unusedVariables false
set_option linter.unusedSimpArgs false
set_option linter.unusedSectionVars false
namespace Go.Abs
open Go
noncomputable section

variable {P : Program} {d : Option Tmp} {ty : TypeId} {L : List GOp} {ρ : Type}

section
variable [SU] [Codes] {Q : Exit → ESt → Prop}
def scrubO (f : Nat → List Nat → Option EV) : OD → OD
  | .cells e l => .cells e (scrubs f l)
  | .lst v => .lst v
  | .mp s τ g => .mp s τ g
  | .hole v q r c => .hole v q r c
  | .dead => .dead
  | .none => .none
theorem EHeap.at_scrub {H H' : EHeap} {f : Nat → List Nat → Option EV} {j : Nat} (h : H'.obj j = scrubO f (H.obj j)) (p : List Nat) : H'.at j p = H.at j p := by
  unfold EHeap.at
  rw [h]
  cases H.obj j <;> rfl
theorem EHeap.len_scrub {H H' : EHeap} {f : Nat → List Nat → Option EV} {j : Nat} (h : H'.obj j = scrubO f (H.obj j)) (p : List Nat) : H'.len j p = H.len j p := by
  unfold EHeap.len
  rw [h]
  cases H.obj j <;> first | rfl | (cases p <;> rfl)
theorem kid_born {len : Len} {k : Nat} {v a : LV} {p : List Nat} (h : v.at p = some a) {r c : Nat} {t : TypeId} {e : Ty} {l : List e.D} (hc : cellC a.τ (a.row r) c = .own t e l) : (OD.lst v).slot len k (p ++ [c, r]) = .live (LV.obj len k (p ++ [c, r]) ⟨t, e, l⟩) := by
  simp only [OD.slot]
  rw [LV.at_append _ _ _ _ h, LV.at_one, LV.kid_of hc]
theorem KG.dat {H1 H2 : Heap} {m : Id → Option Id} {Z : Id → Prop} {len len' : Len} {u : EV} (h : u.dat = true) : KG H1 H2 m Z (toV len u) (toV len' u) := by
  cases u <;> simp only [toV] <;> first | (cases h; done) | exact KG.un | exact KG.t _ | exact KG.nils | exact KG.nilp | exact KG.nilm | exact KG.nilf
/-- The objects that are only scrubbed. -/
theorem scrub_live {f : Nat → List Nat → Option EV} {H : EHeap} {H1 : Heap} {H' : EHeap} {m : Id → Option Id} {Z : Id → Prop} (k : ScrubOk f H H1 H' m Z) {j : Nat} (hj : H'.obj j = scrubO f (H.obj j)) (hfj : ∀ p, f j p = none)
    (hb : ∀ i o, (toH H).slot i = .live o → ∀ r, r < o.n → ∀ c, c < o.sz → Born (toH H) (o.get r c)) {p : List Nat} {a' : AObj} (h : (toH H').slot ⟨j, p⟩ = .live a') :
    ∃ a, (toH H).slot ⟨j, p⟩ = .live a ∧ a'.elem = a.elem ∧ a'.sz = a.sz ∧ a'.n = a.n ∧ a'.ver = a.ver ∧ ∀ r, r < a'.n → ∀ c, c < a'.sz → KG H1 (toH H') m Z (a.get r c) (a'.get r c) := by
  have h0 : (H'.obj j).slot H'.len j p = .live a' := h
  have hs : (toH H).slot ⟨j, p⟩ = (H.obj j).slot H.len j p := rfl
  rw [hj] at h0
  have cellK : ∀ (p : List Nat) (r c : Nat) (x : Cell), (∀ u, x = .ev u → u.dat = true) → Born (toH H) (cellV H.len j p r c x) → KG H1 (toH H') m Z (cellV H.len j p r c x) (cellV H'.len j p r c x) := fun p r c x hd hx => by
    cases x with
    | ev u => exact KG.dat (hd u rfl)
    | own t e l => simp only [cellV] at hx ⊢; exact k.sref (hfj _) hx
  cases ho : H.obj j with
  | none => rw [ho] at h0; cases h0
  | dead => rw [ho] at h0; cases h0
  | lst v =>
    rw [ho] at h0
    simp only [scrubO, OD.slot] at h0
    cases hv : v.at p with
    | none => rw [hv] at h0; cases h0
    | some a =>
      rw [hv] at h0
      injection h0 with h0; subst h0
      have hl : (toH H).slot ⟨j, p⟩ = .live (a.obj H.len j p) := by rw [hs, ho]; simp only [OD.slot, hv]
      exact ⟨_, hl, rfl, rfl, rfl, rfl, fun r hr c hc => cellK p r c _ (cellC_dat _ _ _) (hb _ _ hl r hr c hc)⟩
  | cells e l =>
    rw [ho] at h0
    cases p with
    | cons x y => cases h0
    | nil =>
      injection h0 with h0; subst h0
      have hl : (toH H).slot ⟨j, []⟩ = .live { elem := e, sz := l.length, ver := 0, n := 1, get := fun _ c => toVs H.len l c } := slot_cells ho
      refine ⟨_, hl, rfl, by simp only [scrubs_len], rfl, rfl, fun r hr c hc => ?_⟩
      simp only [scrubs_len] at hc
      exact ScrubOk.keepss k l c (hb _ _ hl r hr c hc)
  | hole v q r c =>
    rw [ho] at h0
    simp only [scrubO, OD.slot] at h0
    split at h0
    · cases h0
    · rename_i hn
      cases hv : v.at p with
      | none => rw [hv] at h0; cases h0
      | some a =>
        rw [hv] at h0
        injection h0 with h0; subst h0
        have hl : (toH H).slot ⟨j, p⟩ = .live (a.holed H.len j p q r c) := by rw [hs, ho]; simp only [OD.slot, hv, if_neg hn]
        refine ⟨_, hl, rfl, rfl, rfl, rfl, fun r' hr c' hc => ?_⟩
        have hbb := hb _ _ hl r' hr c' hc
        simp only [LV.holed] at hbb ⊢
        split
        · exact KG.un
        · rename_i hne
          rw [if_neg hne] at hbb
          exact cellK p r' c' _ (cellC_dat _ _ _) hbb
  | mp s τ g =>
    rw [ho] at h0
    cases p <;> cases h0
theorem scrub_slots {f : Nat → List Nat → Option EV} {len len' : Len} {k : Nat} {o : OD} {p : List Nat} (h : o.slot len k p ≠ .unborn) : SlotLike (o.slot len k p) ((scrubO f o).slot len' k p) := by
  cases o with
  | none => exact absurd rfl h
  | dead => trivial
  | lst v =>
    simp only [scrubO, OD.slot] at h ⊢
    cases hv : v.at p with
    | none => rw [hv] at h; exact absurd rfl h
    | some a => exact ⟨rfl, rfl, rfl, rfl⟩
  | cells e l =>
    cases p with
    | cons x y => exact absurd rfl h
    | nil => exact ⟨rfl, rfl, by simp only [scrubs_len], rfl⟩
  | hole v q r c =>
    simp only [scrubO, OD.slot] at h ⊢
    by_cases hn : q ++ [c, r] <+: p
    · simp only [if_pos hn]; trivial
    · simp only [if_neg hn] at h ⊢
      cases hv : v.at p with
      | none => rw [hv] at h; exact absurd rfl h
      | some a => exact ⟨rfl, rfl, rfl, rfl⟩
  | mp s τ g =>
    cases p with
    | cons x y => exact absurd rfl h
    | nil => trivial
theorem scrub_unborn {f : Nat → List Nat → Option EV} {len len' : Len} {k : Nat} {o : OD} {p : List Nat} : (scrubO f o).slot len' k p = .unborn ↔ o.slot len k p = .unborn := by
  cases o with
  | none => exact Iff.rfl
  | dead => exact Iff.rfl
  | lst v => simp only [scrubO, OD.slot]; cases v.at p <;> simp
  | cells e l => cases p <;> simp [scrubO, OD.slot]
  | hole v q r c => simp only [scrubO, OD.slot]; split <;> first | simp | (cases v.at p <;> simp)
  | mp s τ g => cases p <;> simp [scrubO, OD.slot]
theorem scrub_mp {f : Nat → List Nat → Option EV} {len len' : Len} {k : Nat} {o : OD} {p : List Nat} {s : Bool} {g : MKey → Option V} (h : (scrubO f o).slot len' k p = .mp s g) : o.slot len k p = .mp s g ∧ ∀ x, g x = none ∨ ∃ y, g x = some (.t y) := by
  obtain ⟨τ, g', h1, rfl, rfl⟩ := slot_mp h
  cases o <;> first
    | (cases h1; done)
    | (injection h1 with a b c; subst a; subst b; obtain rfl := eq_of_heq c
       exact ⟨rfl, fun x => by dsimp only; split <;> simp⟩)

/-- Memory told anew, where objects but some are scrubbed. -/
theorem Gen.scrub {H : EHeap} {H1 : Heap} {H' : EHeap} {m : Id → Option Id} {Z : Id → Prop} {f : Nat → List Nat → Option EV} (S : Nat → Prop) (k : ScrubOk f H H1 H' m Z)
    (hb : ∀ i o, (toH H).slot i = .live o → ∀ r, r < o.n → ∀ c, c < o.sz → Born (toH H) (o.get r c))
    (hns : ∀ j, ¬ S j → (∀ p, f j p = none) ∧ H'.obj j = scrubO f (H.obj j) ∧ (∀ p, m ⟨j, p⟩ = some ⟨j, p⟩) ∧ (∀ p, ¬ Z ⟨j, p⟩) ∧ ∀ p, H1.slot ⟨j, p⟩ = (toH H).slot ⟨j, p⟩)
    (hS : ∀ i : Id, S i.k → ∀ o', (toH H').slot i = .live o' → (m i = none ∧ o'.n = 0) ∨ ∃ x o, m i = some x ∧ H1.slot x = .live o ∧ ¬ Z x ∧ o'.elem = o.elem ∧ o'.sz = o.sz ∧ o'.n ≤ o.n ∧ ∀ r, r < o'.n → ∀ c, c < o'.sz → KG H1 (toH H') m Z (o.get r c) (o'.get r c))
    (hSm : ∀ i : Id, S i.k → ∀ s g', (toH H').slot i = .mp s g' → ∃ x g, m i = some x ∧ H1.slot x = .mp s g ∧ ¬ Z x ∧ ∀ k, (g k = none ∧ g' k = none) ∨ ∃ u u', g k = some u ∧ g' k = some u' ∧ KG H1 (toH H') m Z u u')
    (hinj : ∀ i j x, S i.k → ((toH H').slot i).is → ((toH H').slot j).is → m i = some x → m j = some x → i = j)
    (hlo : H'.lo = H1.lo) (hnx : Nx (toH H')) (hlow : ∀ i : Id, S i.k → i.k < H1.lo → i.p = [] → H1.slot i = .unborn ∨ (toH H').slot i = .dead ∨ (m i = some i ∧ SlotLike (H1.slot i) ((toH H').slot i))) : Gen H1 (toH H') m Z where
  lo := hlo
  next := hnx
  obj i o' h := by
    by_cases hi : S i.k
    · exact hS i hi o' h
    · obtain ⟨h1, h2, h3, h4, h5⟩ := hns i.k hi
      obtain ⟨a, q1, q2, q3, q4, q5, q6⟩ := scrub_live k (j := i.k) (p := i.p) h2 h1 hb h
      exact .inr ⟨i, a, h3 i.p, (h5 i.p).trans q1, h4 i.p, q2, q3, Nat.le_of_eq q4, q6⟩
  mp i s g' h := by
    by_cases hi : S i.k
    · exact hSm i hi s g' h
    · obtain ⟨h1, h2, h3, h4, h5⟩ := hns i.k hi
      have h' : (scrubO f (H.obj i.k)).slot H'.len i.k i.p = .mp s g' := by rw [← h2]; exact h
      obtain ⟨q1, q2⟩ := scrub_mp (len := H.len) h'
      refine ⟨i, g', h3 i.p, (h5 i.p).trans q1, h4 i.p, fun x => ?_⟩
      rcases q2 x with e | ⟨y, e⟩
      · exact .inl ⟨e, e⟩
      · exact .inr ⟨_, _, e, e, KG.t _⟩
  inj i j x hi hj h1 h2 := by
    by_cases h : S i.k
    · exact hinj i j x h hi hj h1 h2
    · by_cases h' : S j.k
      · exact (hinj j i x h' hj hi h2 h1).symm
      · have e1 := (hns i.k h).2.2.1 i.p
        have e2 := (hns j.k h').2.2.1 j.p
        have e1 : m i = some i := e1
        have e2 : m j = some j := e2
        rw [e1] at h1; rw [e2] at h2
        injection h1 with h1; injection h2 with h2
        rw [h1, h2]
  low i hi hp := by
    by_cases h : S i.k
    · exact hlow i h hi hp
    · obtain ⟨h1, h2, h3, h4, h5⟩ := hns i.k h
      by_cases hu : H1.slot i = .unborn
      · exact .inl hu
      · refine .inr (.inr ⟨h3 i.p, ?_⟩)
        have e : (toH H').slot i = (scrubO f (H.obj i.k)).slot H'.len i.k i.p := by rw [← h2]; rfl
        rw [e, show H1.slot i = (toH H).slot i from h5 i.p]
        rw [show H1.slot i = (toH H).slot i from h5 i.p] at hu
        exact scrub_slots hu
/-- Another list at a root, an old one taken away. -/
def EHeap.app (H : EHeap) (f : Nat → List Nat → Option EV) (k k2 nx : Nat) (v : LV) : EHeap :=
  { next := nx, lo := H.lo, obj := fun j => bif Nat.beq j k2 then .lst v else bif Nat.beq j k then .dead else scrubO f (H.obj j) }
def ESt.app (s : ESt) (f : Nat → List Nat → Option EV) (k k2 nx : Nat) (v : LV) : ESt := { s with env := fun t => scrub f (s.env t), heap := s.heap.app f k k2 nx v }
theorem app_at2 {H : EHeap} {f : Nat → List Nat → Option EV} {k k2 nx : Nat} {v : LV} (p : List Nat) : (H.app f k k2 nx v).at k2 p = v.at p := by
  simp only [EHeap.at, EHeap.app, Nat.beq_refl, cond_true]
theorem app_obj {H : EHeap} {f : Nat → List Nat → Option EV} {k k2 nx : Nat} {v : LV} {j : Nat} (h : j ≠ k) (h2 : j ≠ k2) : (H.app f k k2 nx v).obj j = scrubO f (H.obj j) := by
  simp only [EHeap.app, natBeq_ne h, natBeq_ne h2, cond_false]
theorem app_objk {H : EHeap} {f : Nat → List Nat → Option EV} {k k2 nx : Nat} {v : LV} (h2 : k ≠ k2) : (H.app f k k2 nx v).obj k = .dead := by
  simp only [EHeap.app, natBeq_ne h2, cond_false, Nat.beq_refl, cond_true]
theorem weak_app {s : ESt} {H1 : Heap} {f : Nat → List Nat → Option EV} {k k2 nx : Nat} {v : LV} {a1 : AObj} {u0 : V} (hf : Fair s) (hflat : froT v.τ = true)
    (h1 : ∀ i, H1.slot i = if i = ⟨k, []⟩ then .live a1 else (toH s.heap).slot i) (hlo : H1.lo = s.heap.lo)
    (ha1 : v.e = a1.elem) (ha2 : v.τ.sz = a1.sz) (ha3 : v.l.length = a1.n) (hget : ∀ r, r < a1.n → ∀ c, c < a1.sz → Wk (a1.get r c) (.t (encC v.τ (v.row r) c)))
    (hold : ∀ p, p ≠ [] → (toH s.heap).slot ⟨k, p⟩ = .unborn) (hk2 : k2 = k ∨ ∀ p, (toH s.heap).slot ⟨k2, p⟩ = .unborn) (hnx : s.heap.next ≤ nx) (hnk : k < nx) (hnk2 : k2 < nx) (hlk : s.heap.lo ≤ k2)
    (hfo : ∀ id p, f id p = none → (toH s.heap).slot ⟨id, p⟩ ≠ .unborn → id ≠ k) (hfn : ∀ id p, id ≠ k → f id p = none) (hfu : ∀ id p u, f id p = some u → u = .un)
    (d : Option Tmp) (hu : d ≠ none → Wk u0 (.sref ⟨k, []⟩ a1.ver 0 a1.n)) :
    Weak (((toSt s).on H1).put d u0) (toSt ((s.app f k k2 nx v).put d (.sfull k2 []))) := by
  let m : Id → Option Id := fun i => if i.k = k2 then (if i.p = [] then some ⟨k, []⟩ else none) else if i.k = k then none else some i
  let H' := s.heap.app f k k2 nx v
  have hne : ∀ id p, f id p = none → (toH s.heap).slot ⟨id, p⟩ ≠ .unborn → id ≠ k ∧ id ≠ k2 := fun id p h hb => by
    have h1 := hfo id p h hb
    refine ⟨h1, fun e => ?_⟩
    rcases hk2 with e2 | e2
    · exact h1 (e.trans e2)
    · exact hb (by rw [e]; exact e2 p)
  have hat : ∀ id p, id ≠ k → id ≠ k2 → H'.at id p = s.heap.at id p := fun id p e1 e2 => EHeap.at_scrub (app_obj e1 e2) p
  have hk : ScrubOk f s.heap H1 H' m (fun _ => False) := ⟨fun id p u h => by rw [hfu id p u h]; simp only [toV]; exact KG.un, fun id p h hb => by
      rw [h1, if_neg (fun e => (hne id p h hb).1 (by injection e))],
    fun id p h hb => by
      obtain ⟨e1, e2⟩ := hne id p h hb
      refine .inr ⟨?_, by simp only [m, if_neg e1, if_neg e2]⟩
      show SlotLike _ ((H'.obj id).slot H'.len id p)
      rw [app_obj e1 e2]
      exact scrub_slots hb,
    fun id p h hb => by
      obtain ⟨e1, e2⟩ := hne id p h hb
      exact EHeap.len_scrub (app_obj e1 e2) p⟩
  have hslot2 : ∀ p, (toH H').slot ⟨k2, p⟩ = (OD.lst v).slot H'.len k2 p := fun p => by
    show (H'.obj k2).slot _ _ _ = _
    simp only [H', EHeap.app, Nat.beq_refl, cond_true]
  have hslotk : k ≠ k2 → ∀ p, (toH H').slot ⟨k, p⟩ = .dead := fun e p => by
    show (H'.obj k).slot _ _ _ = _
    rw [app_objk e]; rfl
  have gen : Gen H1 (toH H') m (fun _ => False) := by
    refine Gen.scrub (fun j => j = k ∨ j = k2) hk hf.obj (fun j hj => ?_) (fun i hi o' ho => ?_) (fun i hi sb g' hm => ?_) (fun i j x hi h1' h2' e1 e2 => ?_) (by rw [hlo]; rfl) (fun i hi => ?_) (fun i hi hil hip => ?_)
    · have e1 : j ≠ k := fun e => hj (.inl e)
      have e2 : j ≠ k2 := fun e => hj (.inr e)
      exact ⟨fun p => hfn j p e1, app_obj e1 e2, fun p => by simp only [m, if_neg e1, if_neg e2], fun p h => h, fun p => by rw [h1, if_neg (fun e => e1 (by injection e))]⟩
    · obtain ⟨j, p⟩ := i
      have hj : j = k2 := by
        rcases hi with e | e
        · by_cases e2 : k = k2
          · exact e.trans e2
          · simp only at e; subst e; rw [hslotk e2] at ho; cases ho
        · exact e
      subst hj
      rw [hslot2] at ho
      by_cases hp : p = []
      · subst hp
        rw [slot_flatLst] at ho
        injection ho with ho; subst ho
        refine .inr ⟨⟨k, []⟩, a1, by simp only [m, if_true], by rw [h1, if_pos rfl], fun h => h, ha1, ha2, Nat.le_of_eq ha3, fun r hr c hc => ?_⟩
        have hr : r < v.l.length := hr
        have hc : c < v.τ.sz := hc
        obtain ⟨u, e1, e2⟩ := cellC_enc v.τ (v.row r) c hflat
        show KG _ _ _ _ _ (cellV H'.len j [] r c (cellC v.τ (v.row r) c))
        rw [e1]
        simp only [cellV]
        rw [e2 hc]
        exact KG.of_wk' (hget r (by omega) c (by omega)) (KG.t _)
      · simp only [OD.slot, LV.at_flat hflat p hp] at ho; cases ho
    · obtain ⟨j, p⟩ := i
      exfalso
      have hj : j = k2 := by
        rcases hi with e | e
        · by_cases e2 : k = k2
          · exact e.trans e2
          · simp only at e; subst e; rw [hslotk e2] at hm; cases hm
        · exact e
      subst hj
      rw [hslot2] at hm
      simp only [OD.slot] at hm
      cases hv : v.at p <;> rw [hv] at hm <;> cases hm
    · obtain ⟨j1, p1⟩ := i
      obtain ⟨j2, p2⟩ := j
      simp only [m] at e1 e2
      have key : ∀ (j2 : Nat) (p2 : List Nat), ((toH H').slot ⟨j2, p2⟩).is → (if j2 = k2 then (if p2 = [] then some (⟨k, []⟩ : Id) else none) else if j2 = k then none else some ⟨j2, p2⟩) = some ⟨k, []⟩ → j2 = k2 ∧ p2 = [] := fun j2 p2 hl e => by
        by_cases h2 : j2 = k2
        · rw [if_pos h2] at e
          by_cases hp : p2 = []
          · exact ⟨h2, hp⟩
          · rw [if_neg hp] at e; cases e
        · rw [if_neg h2] at e
          by_cases h3 : j2 = k
          · rw [if_pos h3] at e; cases e
          · rw [if_neg h3] at e
            injection e with e
            injection e with e _
            exact absurd e h3
      have hx : x = ⟨k, []⟩ ∧ j1 = k2 ∧ p1 = [] := by
        by_cases h2 : j1 = k2
        · rw [if_pos h2] at e1
          by_cases hp : p1 = []
          · rw [if_pos hp] at e1; injection e1 with e1; exact ⟨e1.symm, h2, hp⟩
          · rw [if_neg hp] at e1; cases e1
        · rcases hi with e | e
          · simp only at e
            rw [if_neg h2, if_pos e] at e1; cases e1
          · exact absurd e h2
      obtain ⟨rfl, rfl, rfl⟩ := hx
      obtain ⟨rfl, rfl⟩ := key j2 p2 h2' e2
      rfl
    · have hi : nx ≤ i.k := hi
      have e1 : i.k ≠ k := by omega
      have e2 : i.k ≠ k2 := by omega
      show (H'.obj i.k).slot _ _ _ = _
      rw [app_obj e1 e2]
      exact scrub_unborn.2 (hf.next i (by omega))
    · obtain ⟨j, p⟩ := i
      simp only at hip hil
      subst hip
      rw [hlo] at hil
      have e2 : j ≠ k2 := fun e => by omega
      rcases hi with e | e
      · simp only at e; subst e; exact .inr (.inl (hslotk e2 []))
      · exact absurd e e2
  refine Weak.gen m (fun _ => False) (by rw [toSt_put, put_nt, put_nt]; rfl) (by rw [put_heap, toSt_put, put_heap]; exact gen) (fun t => ?_)
  have hh1 : (((toSt s).on H1).put d u0).heap = H1 := by rw [put_heap]; rfl
  have hh2 : (toSt ((s.app f k k2 nx v).put d (.sfull k2 []))).heap = toH H' := by rw [toSt_put, put_heap]; rfl
  rw [hh1, hh2, toSt_put]
  have hlast : toV H'.len (.sfull k2 []) = .sref ⟨k2, []⟩ 0 0 v.l.length := by
    simp only [toV]
    rw [EHeap.len_at (show H'.at k2 [] = some v by rw [show H' = s.heap.app f k k2 nx v from rfl, app_at2, LV.at_nil])]
  show KG H1 (toH H') m _ ((((toSt s).on H1).put d u0).env t) (((toSt (s.app f k k2 nx v)).put d (toV H'.len (.sfull k2 []))).env t)
  have base : KG H1 (toH H') m (fun _ => False) (toV s.heap.len (s.env t)) (toV H'.len (scrub f (s.env t))) := ScrubOk.keeps hk _ (hf.env t)
  cases d with
  | none => exact base
  | some d =>
    simp only [St.put]
    cases Nat.beq t d with
    | false => exact base
    | true =>
      show KG _ _ _ _ (bif Nat.blt d s.nt then u0 else .un) (bif Nat.blt d s.nt then toV H'.len (.sfull k2 []) else .un)
      cases Nat.blt d s.nt with
      | false => exact KG.un
      | true =>
        simp only [cond_true]
        rw [hlast]
        refine KG.of_wk' (hu (fun e => by cases e)) ?_
        rw [← ha3]
        have h2 : (toH H').slot ⟨k2, []⟩ = .live (v.obj H'.len k2 []) := by rw [hslot2, slot_flatLst]
        exact KG.sref (i := ⟨k, []⟩) (j := ⟨k2, []⟩) (by rw [h1, if_pos rfl]) h2 (by simp only [m, if_true]) rfl rfl ha2 ha1 (Nat.le_of_eq (Nat.zero_add _))
mutual
theorem scrub_never : ∀ u : EV, scrub (fun _ _ => none) u = u
  | .ptr _ _ _ _ => rfl
  | .sref _ _ _ _ => rfl
  | .sfull _ _ => rfl
  | .mref _ => rfl
  | .agg l => by simp only [scrub, scrubs_never l]
  | .tup l => by simp only [scrub, scrubs_never l]
  | .fn g l => by simp only [scrub, scrubs_never l]
  | .un => rfl
  | .und => rfl
  | .b _ => rfl
  | .i _ _ => rfl
  | .s _ => rfl
  | .fz _ _ => rfl
  | .fp _ _ _ => rfl
  | .st _ _ => rfl
  | .nils => rfl
  | .nilp => rfl
  | .nilm => rfl
  | .nilf => rfl
  | .nili => rfl
theorem scrubs_never : ∀ l : List EV, scrubs (fun _ _ => none) l = l
  | [] => rfl
  | a :: l => by simp only [scrubs, scrub_never a, scrubs_never l]
end
theorem scrubO_never (o : OD) : scrubO (fun _ _ => none) o = o := by cases o <;> simp [scrubO, scrubs_never]
theorem app_never (s : ESt) (v : LV) : s.app (fun _ _ => none) s.heap.next s.heap.next (s.heap.next + 1) v = s.on (s.heap.add s.heap.next (.lst v)) := by
  unfold ESt.app ESt.on EHeap.app EHeap.add
  congr 1
  · funext t; exact scrub_never _
  · congr 1
    funext j
    cases Nat.beq j s.heap.next with
    | true => rfl
    | false => simp only [cond_false]; exact scrubO_never _
def rootIs (k : Nat) : Nat → List Nat → Option EV := fun id _ => bif Nat.beq id k then some .un else none

/-! ### What is appended, as data -/
def srcO (s : ESt) (τ : Ty) (u : EV) (K : List τ.D → Option ρ) : Option ρ := match u with
  | .nils => K []
  | .fz τ' l => match castF List τ' τ l with | some y => K y | none => none
  | .sfull id p => match s.heap.at id p with
    | some v => match castF List v.τ τ v.l with | some y => K y | none => none
    | none => none
  | _ => none
theorem srcO_out {s : ESt} {τ : Ty} {x : Operand} {K : List τ.D → Option ρ} {res : ρ} (hf : froT τ = true) (h : srcO s τ (s.eval x) K = some res) :
    ∃ (l : List τ.D) (news : Nat → Nat → V), Src (toSt s) x l.length τ.sz news ∧ (∀ i, i < l.length → ∀ j, j < τ.sz → Wk (news i j) (.t (encC τ (l.getD i τ.z) j))) ∧ K l = some res := by
  unfold srcO at h
  split at h
  · rename_i hx
    have hx := eval_eq hx rfl
    simp only [toV] at hx
    exact ⟨[], _, Src.nils hx, fun i hi => absurd hi (Nat.not_lt_zero _), h⟩
  · rename_i τ' l hx
    split at h
    · rename_i y hy
      obtain ⟨e, hy⟩ := castL_ok hy
      subst e
      obtain rfl := eq_of_heq hy
      have hx := eval_eq hx rfl
      simp only [toV, encL] at hx
      exact ⟨l, _, Src.sl hx, fun i hi j hj => Wk.refl _, h⟩
    · cases h
  · rename_i id p hx
    split at h
    · rename_i v hv
      split at h
      · rename_i y hy
        obtain ⟨e, hy⟩ := castL_ok hy
        obtain ⟨ve, vτ, vl⟩ := v
        simp only at e hy h
        subst e
        obtain rfl := eq_of_heq hy
        have hx := eval_eq hx rfl
        simp only [toV, EHeap.len_at hv] at hx
        have hs := slot_lst hv
        exact ⟨vl, _, Src.sref hx hs rfl rfl, fun i hi j hj => by
          obtain ⟨u, e1, e2⟩ := cellC_enc vτ (vl.getD i vτ.z) j hf
          rw [Nat.add_zero]
          show Wk (cellV _ _ _ i j (cellC vτ (LV.row ⟨ve, vτ, vl⟩ i) j)) _
          have e3 : cellC vτ (LV.row ⟨ve, vτ, vl⟩ i) j = .ev u := e1
          rw [e3]
          exact Wk.of_eq (e2 hj _), h⟩
      · cases h
    · cases h
  · cases h
def appO (P : Program) [Tys P] [TyE P] (s : ESt) (d : Option Tmp) (t : Nat) (x y : Operand) (K : ESt → Option ρ) : Option ρ := match (Tys.c P t).sl with
  | some (e, sz, by_) => match TyE.c P e, (Tys.c P e).zero with
    | some τ, some z => bif Nat.beq τ.sz sz && Nat.beq z.cells.size sz then
        srcO s τ (s.eval y) fun l2 => match s.eval x with
          | .nils => grd (okB (l2.length * by_ ≤ 140737488355328 ∧ l2.length ≤ 281474976710656)) (bif Nat.ble s.heap.lo s.heap.next then newO s d (fun id => .sfull id []) K (.lst ⟨e, τ, l2⟩) else none)
          | .sfull id [] => match s.heap.obj id with
            | .lst v => match castF List v.τ τ v.l with
              | some l => bif Nat.beq v.e e then grd (okB ((l.length + l2.length) * by_ ≤ 140737488355328 ∧ l.length + l2.length ≤ 281474976710656))
                  (bif Nat.ble s.heap.lo id then K ((s.app (rootIs id) id id s.heap.next ⟨e, τ, l ++ l2⟩).put d (.sfull id []))
                   else bif Nat.ble s.heap.lo s.heap.next then litO s.heap.next fun k2 => K ((s.app (rootIs id) id k2 (k2 + 1) ⟨e, τ, l ++ l2⟩).put d (.sfull k2 [])) else none) else none
              | none => none
            | _ => none
          | _ => none
      else none
    | _, _ => none
  | none => none
theorem appO_ok [T : Tys P] [TE : TyE P] {s : ESt} {t : Nat} {x y : Operand} {K : ESt → Option ρ} {res : ρ} (hK : ∀ s', K s' = some res → SLT P L Q s') (h : appO P s d t x y K = some res) : SLT P (⟨d, .call { callee := .builtin .append, args := #[x, y], argTypes := #[t, t] }, ty, none⟩ :: L) Q s := by
  refine ⟨SL.fair fun hf => ?_⟩
  unfold appO at h
  split at h
  · rename_i e sz by_ hsl
    have ht := (T.ok t).sl _ _ _ hsl
    split at h
    · rename_i τ z hτ hz
      have hzz := (T.ok e).zero _ hz
      have hfro := TE.fro e τ hτ
      have hh := bif_none h
      clear h
      obtain ⟨hb, h⟩ := hh
      simp only [Bool.and_eq_true] at hb
      obtain ⟨b1, b2⟩ := hb
      obtain rfl := natBeq b1
      obtain ⟨l2, news, s1, s2, h⟩ := srcO_out hfro h
      split at h
      · rename_i hx
        have hx := eval_eq hx rfl
        simp only [toV] at hx
        obtain ⟨hp, h⟩ := grd_out h
        obtain ⟨p1, p2⟩ := okB_out hp
        obtain ⟨hlo, h⟩ := bif_none h
        have hlo := Nat.le_of_ble_eq_true hlo
        rw [newO_eq] at h
        have hunb : ∀ p, (toH s.heap).slot ⟨s.heap.next, p⟩ = .unborn := fun p => hf.next ⟨s.heap.next, p⟩ (Nat.le_refl _)
        refine SL.appendN (P := P) (t := t) (by_ := by_) (e := e) (z := z) (o := { elem := e, sz := τ.sz, ver := 0, n := 0, get := fun _ _ => .un }) rfl rfl rfl rfl hx (natBeq b2) s1 p1 p2 (SL.weak ?_ (hK _ h).out)
        rw [← app_never]
        refine weak_app (k := s.heap.next) (k2 := s.heap.next) (nx := s.heap.next + 1) (v := ⟨e, τ, l2⟩) (a1 := AObj.app { elem := e, sz := τ.sz, ver := 0, n := 0, get := fun _ _ => .un } l2.length news) hf hfro (fun i => ?_) rfl rfl rfl (by simp [AObj.app]) (fun r hr c hc => ?_) (fun p _ => hunb p) (.inl rfl) (by omega) (by omega) (by omega) ?_ (fun id p _ hb e => hb (by rw [e]; exact hunb p)) (fun _ _ _ => rfl) (fun _ _ _ h => by cases h) d (fun _ => Wk.refl _)
        · show (bif Id.beq i ⟨s.heap.next, []⟩ then _ else (bif Id.beq i ⟨s.heap.next, []⟩ then _ else _)) = _
          rw [beq_if, beq_if]
          split <;> rfl
        · have hr : r < 0 + l2.length := hr
          show Wk (bif Nat.blt r 0 then V.un else news (r - 0) c) _
          have : Nat.blt r 0 = false := rfl
          rw [this]
          exact s2 r (by omega) c hc
        · exact hlo
      · rename_i id hx
        split at h
        · rename_i v ho
          obtain ⟨ve, vτ, vl⟩ := v
          split at h
          · rename_i y' hy
            obtain ⟨e1, hy⟩ := castL_ok hy
            simp only at e1 hy
            subst e1
            obtain rfl := eq_of_heq hy
            have hh := bif_none h
            clear h
            obtain ⟨b3, h⟩ := hh
            simp only at b3
            obtain rfl := natBeq b3
            obtain ⟨hp, h⟩ := grd_out h
            obtain ⟨p1, p2⟩ := okB_out hp
            have hat : s.heap.at id [] = some ⟨ve, vτ, vl⟩ := by simp only [EHeap.at, ho, LV.at_nil]
            have hx := eval_eq hx rfl
            simp only [toV, EHeap.len_at hat] at hx
            have hs := slot_lst hat
            have hlive : id < s.heap.next := Classical.byContradiction fun hn => by
              have := hf.next ⟨id, []⟩ (Nat.le_of_not_lt hn)
              rw [hs] at this; cases this
            have hunb : ∀ p, (toH s.heap).slot ⟨s.heap.next, p⟩ = .unborn := fun p => hf.next ⟨s.heap.next, p⟩ (Nat.le_refl _)
            have hold : ∀ p, p ≠ [] → (toH s.heap).slot ⟨id, p⟩ = .unborn := fun p hp => by
              show (s.heap.obj id).slot _ _ _ = _
              rw [ho]
              exact OD.flat_slot (o := .lst ⟨ve, vτ, vl⟩) hfro p hp
            refine SL.append (P := P) (t := t) (by_ := by_) (z := z) hx hs rfl rfl rfl rfl (natBeq b2) s1 p1 p2 ?_
            have main : ∀ k2 nx, (k2 = id ∨ ∀ p, (toH s.heap).slot ⟨k2, p⟩ = .unborn) → s.heap.next ≤ nx → k2 < nx → s.heap.lo ≤ k2 → K ((s.app (rootIs id) id k2 nx ⟨ve, vτ, vl ++ l2⟩).put d (.sfull k2 [])) = some res → SL P L (liftQ Q) (((toSt s).on ((toSt s).heap.set ⟨id, []⟩ (AObj.app (LV.obj s.heap.len id [] ⟨ve, vτ, vl⟩) l2.length news))).put d (.sref ⟨id, []⟩ (0 + 1) 0 (vl.length + l2.length))) := fun k2 nx q1 q2 q3 q4 q5 => by
              refine SL.weak (weak_app (k := id) (k2 := k2) (nx := nx) (f := rootIs id) (v := ⟨ve, vτ, vl ++ l2⟩) (a1 := AObj.app (LV.obj s.heap.len id [] ⟨ve, vτ, vl⟩) l2.length news) hf hfro (fun i => ?_) rfl rfl rfl (by simp [AObj.app, LV.obj]) (fun r hr c hc => ?_) hold q1 q2 (by omega) q3 q4 (fun j p e _ e2 => by subst e2; simp [rootIs] at e) (fun j p hne => by simp only [rootIs, natBeq_ne hne, cond_false]) (fun j p u h => by unfold rootIs at h; cases hb : Nat.beq j id <;> rw [hb] at h <;> first | (cases h; done) | (injection h with h; exact h.symm)) d (fun _ => Wk.refl _)) (hK _ q5).out
              · show (bif Id.beq i ⟨id, []⟩ then _ else _) = _
                exact beq_if _ _ _ _
              · have hr : r < vl.length + l2.length := hr
                have hc : c < vτ.sz := hc
                show Wk (bif Nat.blt r vl.length then cellV s.heap.len id [] r c (cellC vτ (LV.row ⟨ve, vτ, vl⟩ r) c) else news (r - vl.length) c) (.t (encC vτ ((vl ++ l2).getD r vτ.z) c))
                by_cases hrl : r < vl.length
                · rw [blt_true hrl, cond_true]
                  obtain ⟨u, e1, e2⟩ := cellC_enc vτ (vl.getD r vτ.z) c hfro
                  have e3 : cellC vτ (LV.row ⟨ve, vτ, vl⟩ r) c = .ev u := e1
                  rw [e3, getD_append_left hrl]
                  exact Wk.of_eq (e2 hc _)
                · rw [blt_false (Nat.le_of_not_lt hrl), cond_false]
                  have e4 : (vl ++ l2).getD r vτ.z = l2.getD (r - vl.length) vτ.z := by simp only [List.getD_eq_getElem?_getD, List.getElem?_append_right (Nat.le_of_not_lt hrl)]
                  rw [e4]
                  exact s2 (r - vl.length) (by omega) c hc
            cases hlo : Nat.ble s.heap.lo id with
            | true =>
              rw [hlo] at h
              exact main id s.heap.next (.inl rfl) (Nat.le_refl _) hlive (Nat.le_of_ble_eq_true hlo) h
            | false =>
              rw [hlo] at h
              simp only [cond_false] at h
              obtain ⟨hlo2, h⟩ := bif_none h
              rw [litO_eq] at h
              exact main s.heap.next (s.heap.next + 1) (.inr hunb) (by omega) (by omega) (Nat.le_of_ble_eq_true hlo2) h
          · cases h
        · cases h
      · cases h
    · cases h
  · cases h
end
end
end Go.Abs
