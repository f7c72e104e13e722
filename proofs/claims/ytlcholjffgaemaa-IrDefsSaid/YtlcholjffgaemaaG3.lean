/-
Typed states: judgements over them, new objects, what becomes of what is told of a state.
No statement of the program is proved here.
-/
import Derived.Test.YtlcholjffgaemaaG2
set_option linter.unusedVariables false
set_option linter.unusedSimpArgs false
set_option linter.unusedSectionVars false
namespace Go.Abs
open Go

variable {P : Program} {d : Option Tmp} {ty : TypeId} {L : List GOp}

/-! ### What is mentioned exists -/
def Born (H : Heap) : V → Prop
  | .ptr id _ _ _ => H.slot id ≠ .unborn
  | .sref id _ _ _ => H.slot id ≠ .unborn
  | .mref id => H.slot id ≠ .unborn
  | .agg n g => ∀ j, j < n → Born H (g j)
  | .tup n g => ∀ j, j < n → Born H (g j)
  | .fn _ n g => ∀ j, j < n → Born H (g j)
  | _ => True
theorem VRel.born {H : Heap} {ι : Id → Option Nat} {F : Nat → Prop} {w : World} : ∀ {u : V} {v : Value}, VRel H ι F w u v → Born H u := by
  intro u
  induction u with
  | ptr id ver r c => rintro v ⟨_, h⟩ e; rw [e] at h; exact h
  | sref id ver r c => rintro v ⟨_, h⟩ e; rw [e] at h; exact h
  | mref id => rintro v ⟨_, h⟩ e; rw [e] at h; exact h
  | agg n g ih => rintro v ⟨cs, h1, h2, h3⟩ j hj; obtain ⟨c, a, p, b⟩ := h3 j hj; exact ih j b
  | tup n g ih => rintro v ⟨cs, h1, h2, h3⟩ j hj; obtain ⟨c, a, b⟩ := h3 j hj; exact ih j b
  | fn f n g ih => rintro v ⟨cs, h1, h2, h3⟩ j hj; obtain ⟨c, a, b⟩ := h3 j hj; exact ih j b
  | _ => exact fun _ => trivial

section
variable [SU]
mutual
theorem toV_len {H : Heap} {len len' : Len} (hl : ∀ id p, H.slot ⟨id, p⟩ ≠ .unborn → len' id p = len id p) : ∀ u : EV, Born H (toV len u) → toV len' u = toV len u
  | .sfull id p, h => by
    simp only [toV] at h ⊢
    have hb : H.slot ⟨id, p⟩ ≠ .unborn := by cases hx : len id p <;> rw [hx] at h <;> exact h
    rw [hl id p hb]
  | .agg l, h => by simp only [toV] at h ⊢; rw [toVs_len hl l h]
  | .tup l, h => by simp only [toV] at h ⊢; rw [toVs_len hl l h]
  | .fn f l, h => by simp only [toV] at h ⊢; rw [toVs_len hl l h]
  | .un, _ => by simp only [toV]
  | .und, _ => by simp only [toV]
  | .b _, _ => by simp only [toV]
  | .i _ _, _ => by simp only [toV]
  | .s _, _ => by simp only [toV]
  | .fz _ _, _ => by simp only [toV]
  | .fp _ _ _, _ => by simp only [toV]
  | .st _ _, _ => by simp only [toV]
  | .ptr _ _ _ _, _ => by simp only [toV]
  | .sref _ _ _ _, _ => by simp only [toV]
  | .nils, _ => by simp only [toV]
  | .nilp, _ => by simp only [toV]
  | .nilm, _ => by simp only [toV]
  | .nilf, _ => by simp only [toV]
  | .nili, _ => by simp only [toV]
  | .mref _, _ => by simp only [toV]
theorem toVs_len {H : Heap} {len len' : Len} (hl : ∀ id p, H.slot ⟨id, p⟩ ≠ .unborn → len' id p = len id p) : ∀ l : List EV, (∀ j, j < l.length → Born H (toVs len l j)) → toVs len' l = toVs len l
  | [], _ => by funext j; simp only [toVs]
  | a :: l, h => by
    have h1 := toV_len hl a (by have := h 0 (by simp); simpa only [toVs] using this)
    have h2 := toVs_len hl l (fun j hj => by have := h (j + 1) (by simpa using hj); simpa only [toVs] using this)
    funext j
    cases j with
    | zero => simp only [toVs]; exact h1
    | succ j => simp only [toVs]; rw [h2]
end

variable [Codes]
/-- What is asked of states, asked of typed ones. -/
def liftQ (Q : Exit → ESt → Prop) : Exit → St → Prop := fun e st => ∃ s, st = toSt s ∧ Q e s
def liftK (K : ESt → Prop) : St → Prop := fun st => ∃ s, st = toSt s ∧ K s
structure SLT (P : Program) (L : List GOp) (Q : Exit → ESt → Prop) (s : ESt) : Prop where
  out : SL P L (liftQ Q) (toSt s)
structure SCT (P : Program) (c : Code) (Q : Exit → ESt → Prop) (s : ESt) : Prop where
  out : SC P c (liftQ Q) (toSt s)
structure QST (P : Program) (K : ESt → Prop) (L : List GOp) (s : ESt) : Prop where
  out : QS P (liftK K) L (toSt s)
def WeakT (s s' : ESt) : Prop := Weak (toSt s) (toSt s')
theorem WeakT.refl (s : ESt) : WeakT s s := fun E ι F a w r => ⟨ι, F, r⟩
theorem WeakT.trans {a b c : ESt} (h : WeakT a b) (k : WeakT b c) : WeakT a c := fun E ι F x w r => by
  obtain ⟨ι', F', r'⟩ := h E ι F x w r
  exact k E ι' F' x w r'
theorem weak_trans {a b c : St} (h : Weak a b) (k : Weak b c) : Weak a c := fun E ι F x w r => by
  obtain ⟨ι', F', r'⟩ := h E ι F x w r
  exact k E ι' F' x w r'
def thenT (K : ESt → Prop) (Q : Exit → ESt → Prop) : Exit → ESt → Prop
  | .normal, s => K s
  | e, s => Q e s
def inT (id : Nat) (Q : Exit → ESt → Prop) : Exit → ESt → Prop
  | .exit id', s => bif Nat.beq id' id then Q .normal s else Q (.exit id') s
  | e, s => Q e s
theorem SCT.weak {c : Code} {Q : Exit → ESt → Prop} {s s' : ESt} (h : WeakT s s') (k : SCT P c Q s') : SCT P c Q s := ⟨SC.weak h k.out⟩
theorem SLT.weak {Q : Exit → ESt → Prop} {s s' : ESt} (h : WeakT s s') (k : SLT P L Q s') : SLT P L Q s := ⟨SL.weak h k.out⟩
theorem SCT.mono {c : Code} {Q Q' : Exit → ESt → Prop} {s : ESt} (h : SCT P c Q s) (hq : ∀ e s, Q e s → Q' e s) : SCT P c Q' s :=
  ⟨h.out.mono fun e st ⟨s, e1, k⟩ => ⟨s, e1, hq e s k⟩⟩
theorem SCT.seq {a b : Code} {Q : Exit → ESt → Prop} {s : ESt} (h : ∀ K : ESt → Prop, (∀ s, SCT P b Q s → K s) → SCT P a (thenT K Q) s) : SCT P (.seq a b) Q s :=
  ⟨SC.seq fun K hK => (h (fun s => SCT P b Q s) (fun _ h => h)).out.mono fun e st ⟨s, e1, k⟩ => by
    subst e1
    cases e <;> first | exact hK _ k.out | exact ⟨_, rfl, k⟩⟩
theorem SCT.seq' {a b : Code} {Q : Exit → ESt → Prop} {s : ESt} (h : SCT P a (thenT (SCT P b Q) Q) s) : SCT P (.seq a b) Q s :=
  SCT.seq fun K hK => h.mono fun e s he => by cases e <;> first | exact hK _ he | exact he
theorem SCT.block {id : Nat} {c : Code} {Q : Exit → ESt → Prop} {s : ESt} (h : SCT P c (inT id Q) s) : SCT P (.block id c) Q s :=
  ⟨SC.block (h.out.mono fun e st ⟨s, e1, k⟩ => by
    subst e1
    cases e with
    | exit id' =>
      simp only [inQ, inT] at k ⊢
      cases hb : Nat.beq id' id with
      | true => rw [hb] at k; exact ⟨_, rfl, k⟩
      | false => rw [hb] at k; exact ⟨_, rfl, k⟩
    | normal => exact ⟨_, rfl, k⟩
    | goto l => exact ⟨_, rfl, k⟩
    | ret => exact ⟨_, rfl, k⟩
    | panic c => exact ⟨_, rfl, k⟩
    | outgrown => exact ⟨_, rfl, k⟩)⟩
theorem SCT.loop {c : Code} {Q : Exit → ESt → Prop} {s0 : ESt} (h : ∀ J : ESt → Prop, (∀ s s', WeakT s s' → J s' → J s) → (∀ s, SCT P c (thenT J Q) s → J s) → J s0) : SCT P (.loop c) Q s0 :=
  ⟨SC.loop fun J hW hJ => h (fun s => J (toSt s)) (fun s s' hw hj => hW _ _ hw hj) (fun s hs => hJ _ (hs.out.mono fun e st ⟨s, e1, k⟩ => by
    subst e1
    cases e <;> first | exact k | exact ⟨_, rfl, k⟩))⟩

/-- What is known of a state that there can be. -/
structure Fair (s : ESt) : Prop where
  env : ∀ t, Born (toH s.heap) (toV s.heap.len (s.env t))
  obj : ∀ i o, (toH s.heap).slot i = .live o → ∀ r, r < o.n → ∀ c, c < o.sz → Born (toH s.heap) (o.get r c)
  next : ∀ i : Id, s.heap.next ≤ i.k → (toH s.heap).slot i = .unborn
theorem Rel.fair {E : Env} {ι : Id → Option Nat} {F : Nat → Prop} {s : ESt} {a : Act} {w : World} (r : Rel E ι F (toSt s) a w) : Fair s where
  env t := (r.env t).born
  obj i o h x hx c hc := by
    obtain ⟨h1, h2⟩ := r.h.obj i o h
    cases hk : ι i with
    | none => rw [hk] at h2; have h2 : o.n = 0 := h2; omega
    | some b =>
      rw [hk] at h2
      obtain ⟨cur, g1, g2, g3⟩ := h2
      obtain ⟨v, _, _, h⟩ := g3 x hx c hc
      exact h.born
  next i hi := r.h.next i hi
theorem SL.fair {Q : Exit → St → Prop} {s : ESt} (h : Fair s → SL P L Q (toSt s)) : SL P L Q (toSt s) :=
  ⟨fun E ι F a w r => (h r.fair).out E ι F a w r⟩
theorem Weak.fair {s : ESt} {st' : St} (h : Fair s → Weak (toSt s) st') : Weak (toSt s) st' := fun E ι F a w r => h r.fair E ι F a w r

/-! ### A new object -/
def EHeap.add (H : EHeap) (id : Nat) (o : OD) : EHeap := { H with next := id + 1, obj := fun k => bif Nat.beq k id then o else H.obj k }
def EHeap.set (H : EHeap) (id : Nat) (o : OD) : EHeap := { H with obj := fun k => bif Nat.beq k id then o else H.obj k }
def ESt.on (s : ESt) (H : EHeap) : ESt := { s with heap := H }
theorem natBeq_ne {a b : Nat} (h : ¬ a = b) : Nat.beq a b = false := by
  cases hb : Nat.beq a b with
  | false => rfl
  | true => exact absurd (Nat.eq_of_beq_eq_true hb) h
theorem EHeap.set_at_ne {H : EHeap} {id : Nat} {o : OD} {k : Nat} (h : k ≠ id) (p : List Nat) : (H.set id o).at k p = H.at k p := by
  unfold EHeap.at EHeap.set
  simp only [natBeq_ne h, cond_false]
theorem EHeap.add_at_ne {H : EHeap} {id : Nat} {o : OD} {k : Nat} (h : k ≠ id) (p : List Nat) : (H.add id o).at k p = H.at k p := by
  unfold EHeap.at EHeap.add
  simp only [natBeq_ne h, cond_false]
theorem EHeap.len_obj {H H' : EHeap} {k : Nat} (h : H'.obj k = H.obj k) (p : List Nat) : H'.len k p = H.len k p := by unfold EHeap.len; rw [h]
theorem EHeap.add_ne {H : EHeap} {id : Nat} {o : OD} {k : Nat} (h : k ≠ id) : (H.add id o).obj k = H.obj k := by simp only [EHeap.add, natBeq_ne h, cond_false]
theorem EHeap.set_ne {H : EHeap} {id : Nat} {o : OD} {k : Nat} (h : k ≠ id) : (H.set id o).obj k = H.obj k := by simp only [EHeap.set, natBeq_ne h, cond_false]
theorem slot_ne {H H' : EHeap} {k : Nat} (p : List Nat) (h : H'.obj k = H.obj k) : (toH H').slot ⟨k, p⟩ = (H.obj k).slot H'.len k p := by show (H'.obj k).slot _ _ _ = _; rw [h]

/-- Objects that are the same but for the lengths that are told of others. -/
theorem cellV_len {H : Heap} {len len' : Len} (hl : ∀ id p, H.slot ⟨id, p⟩ ≠ .unborn → len' id p = len id p) {k : Nat} {p : List Nat} {r c : Nat} {x : Cell} (h : Born H (cellV len k p r c x)) : cellV len' k p r c x = cellV len k p r c x := by
  cases x with
  | ev u => exact toV_len hl u h
  | own t e l => rfl
theorem slot_live {len len' : Len} {k : Nat} {o : OD} {p : List Nat} {a' : AObj} (h : o.slot len' k p = .live a') : ∃ a, o.slot len k p = .live a ∧ a'.elem = a.elem ∧ a'.sz = a.sz ∧ a'.n = a.n ∧ a'.ver = a.ver ∧
    (∀ H : Heap, (∀ id q, H.slot ⟨id, q⟩ ≠ .unborn → len' id q = len id q) → ∀ r, r < a.n → ∀ c, c < a.sz → Born H (a.get r c) → a'.get r c = a.get r c) := by
  cases o with
  | none => cases h
  | dead => cases h
  | lst v =>
    simp only [OD.slot] at h ⊢
    cases hv : v.at p with
    | none => rw [hv] at h; cases h
    | some a =>
      rw [hv] at h
      injection h with h; subst h
      exact ⟨_, rfl, rfl, rfl, rfl, rfl, fun H hl r hr c hc hb => cellV_len hl hb⟩
  | cells e l =>
    cases p with
    | cons x y => cases h
    | nil =>
      injection h with h; subst h
      refine ⟨_, rfl, rfl, rfl, rfl, rfl, fun H hl r hr c hc hb => ?_⟩
      simp only at hb ⊢
      rw [toVs_eq] at hb ⊢
      rw [toVs_eq]
      exact toV_len hl _ hb
  | hole v q r c =>
    simp only [OD.slot] at h ⊢
    split at h
    · cases h
    · rename_i hn
      rw [if_neg hn]
      cases hv : v.at p with
      | none => rw [hv] at h; cases h
      | some a =>
        rw [hv] at h
        injection h with h; subst h
        refine ⟨_, rfl, rfl, rfl, rfl, rfl, fun H hl r' hr c' hc hb => ?_⟩
        simp only [LV.holed] at hb ⊢
        split
        · rfl
        · rename_i hne
          rw [if_neg hne] at hb
          exact cellV_len hl hb
  | mp s τ g =>
    cases p with
    | cons x y => cases h
    | nil => cases h
theorem slot_mp {len' : Len} {k : Nat} {o : OD} {p : List Nat} {s : Bool} {g' : MKey → Option V} (h : o.slot len' k p = .mp s g') : ∃ τ g, o = .mp s τ g ∧ p = [] ∧ g' = (fun x => match g x with
    | some y => some (.t (encC τ y 0))
    | none => none) := by
  cases o with
  | mp s' τ g =>
    cases p with
    | cons x y => cases h
    | nil => injection h with h1 h2; subst h1; exact ⟨τ, g, rfl, rfl, h2.symm⟩
  | none => cases h
  | dead => cases h
  | lst v => simp only [OD.slot] at h; cases hv : v.at p <;> rw [hv] at h <;> cases h
  | cells e l => cases p <;> cases h
  | hole v q r c =>
    simp only [OD.slot] at h
    split at h
    · cases h
    · cases hv : v.at p <;> rw [hv] at h <;> cases h
theorem slot_dead {len len' : Len} {k : Nat} {o : OD} {p : List Nat} : (o.slot len' k p = .dead ↔ o.slot len k p = .dead) ∧ (o.slot len' k p = .unborn ↔ o.slot len k p = .unborn) := by
  cases o with
  | none => exact ⟨Iff.rfl, Iff.rfl⟩
  | dead => exact ⟨Iff.rfl, Iff.rfl⟩
  | lst v => simp only [OD.slot]; cases v.at p <;> simp
  | cells e l => cases p <;> simp [OD.slot]
  | hole v q r c => simp only [OD.slot]; split <;> first | simp | (cases v.at p <;> simp)
  | mp s τ g => cases p <;> simp [OD.slot]
theorem slotLike_len {len len' : Len} {k : Nat} {o : OD} {p : List Nat} (h : o.slot len k p ≠ .unborn) (hu : True) : o.slot len' k p = .dead ∨ SlotLike (o.slot len k p) (o.slot len' k p) := by
  cases hs : o.slot len' k p with
  | dead => exact .inl rfl
  | unborn => exact absurd ((slot_dead (len := len)).2.1 hs) h
  | live a' =>
    obtain ⟨a, h1, h2, h3, h4, h5, _⟩ := slot_live (len := len) hs
    rw [h1]; exact .inr ⟨h5, h2, h3, h4⟩
  | mp s g' =>
    obtain ⟨τ, g, rfl, rfl, _⟩ := slot_mp hs
    exact .inr trivial
end
end Go.Abs
