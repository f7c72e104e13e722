/-
Texts of the proof, part 3: G3 G4 F8s G5 G6 G7 G8 G9 K1 G10.
No statement of the program is proved here.
-/
import Derived.Test.YtlcholjffgaemaaM2
set_option linter.unusedVariables false
set_option linter.unusedSimpArgs false
set_option linter.unusedSectionVars false
namespace Go.Abs
open Go
variable {P : Program} {d : Option Tmp} {ty : TypeId} {L : List GOp}
def Born (H : Heap) : V -> Prop
 | .ptr id _ _ _ => H.slot id ≠ .unborn
 | .sref id _ _ _ => H.slot id ≠ .unborn
 | .mref id => H.slot id ≠ .unborn
 | .agg n g => ∀ j, j < n -> Born H (g j)
 | .tup n g => ∀ j, j < n -> Born H (g j)
 | .fn _ n g => ∀ j, j < n -> Born H (g j)
 | _ => True
theorem VRel.born {H : Heap} {ι : Id -> Option Nat} {F : Nat -> Prop} {w : World} : ∀ {u : V} {v : Value}, VRel H ι F w u v -> Born H u := by
 intro u
 induction u with
 | ptr id ver r c => rintro v ⟨_, h⟩ e; rw [e] at h; exact h
 | sref id ver r c => rintro v ⟨_, h⟩ e; rw [e] at h; exact h
 | mref id => rintro v ⟨_, h⟩ e; rw [e] at h; exact h
 | agg n g ih => rintro v ⟨cs, h1, h2, h3⟩ j hj; obtain ⟨c, a, p, b⟩ := h3 j hj; exact ih j b
 | tup n g ih => rintro v ⟨cs, h1, h2, h3⟩ j hj; obtain ⟨c, a, b⟩ := h3 j hj; exact ih j b
 | fn f n g ih => rintro v ⟨cs, h1, h2, h3⟩ j hj; obtain ⟨c, a, b⟩ := h3 j hj; exact ih j b
 | _ => exact fun _ => trivial
section
variable [SU]
mutual
theorem toV_len {H : Heap} {len len' : Len} (hl : ∀ id p, H.slot ⟨id, p⟩ ≠ .unborn -> len' id p = len id p) : ∀ u : EV, Born H (toV len u) -> toV len' u = toV len u
 | .sfull id p, h => by
  simp only [toV] at h ⊢
  have hb : H.slot ⟨id, p⟩ ≠ .unborn := by cases hx : len id p <;> rw [hx] at h <;> exact h
  rw [hl id p hb]
 | .agg l, h => by simp only [toV] at h ⊢; rw [toVs_len hl l h]
 | .tup l, h => by simp only [toV] at h ⊢; rw [toVs_len hl l h]
 | .fn f l, h => by simp only [toV] at h ⊢; rw [toVs_len hl l h]
 | .un, _ => by simp only [toV]
 | .und, _ => by simp only [toV]
 | .b _, _ => by simp only [toV]
 | .i _ _, _ => by simp only [toV]
 | .s _, _ => by simp only [toV]
 | .fz _ _, _ => by simp only [toV]
 | .fp _ _ _, _ => by simp only [toV]
 | .st _ _, _ => by simp only [toV]
 | .ptr _ _ _ _, _ => by simp only [toV]
 | .sref _ _ _ _, _ => by simp only [toV]
 | .nils, _ => by simp only [toV]
 | .nilp, _ => by simp only [toV]
 | .nilm, _ => by simp only [toV]
 | .nilf, _ => by simp only [toV]
 | .nili, _ => by simp only [toV]
 | .mref _, _ => by simp only [toV]
theorem toVs_len {H : Heap} {len len' : Len} (hl : ∀ id p, H.slot ⟨id, p⟩ ≠ .unborn -> len' id p = len id p) : ∀ l : List EV, (∀ j, j < l.length -> Born H (toVs len l j)) -> toVs len' l = toVs len l
 | [], _ => by funext j; simp only [toVs]
 | a :: l, h => by
  have h1 := toV_len hl a (by have := h 0 (by simp); simpa only [toVs] using this)
  have h2 := toVs_len hl l (fun j hj => by have := h (j + 1) (by simpa using hj); simpa only [toVs] using this)
  funext j
  cases j with
  | zero => simp only [toVs]; exact h1
  | succ j => simp only [toVs]; rw [h2]
end
variable [Codes]
def liftQ (Q : Exit -> ESt -> Prop) : Exit -> St -> Prop := fun e st => ∃ s, st = toSt s /\ Q e s
def liftK (K : ESt -> Prop) : St -> Prop := fun st => ∃ s, st = toSt s /\ K s
structure SLT (P : Program) (L : List GOp) (Q : Exit -> ESt -> Prop) (s : ESt) : Prop where
 out : SL P L (liftQ Q) (toSt s)
structure SCT (P : Program) (c : Code) (Q : Exit -> ESt -> Prop) (s : ESt) : Prop where
 out : SC P c (liftQ Q) (toSt s)
structure QST (P : Program) (K : ESt -> Prop) (L : List GOp) (s : ESt) : Prop where
 out : QS P (liftK K) L (toSt s)
def WeakT (s s' : ESt) : Prop := Weak (toSt s) (toSt s')
theorem WeakT.refl (s : ESt) : WeakT s s := fun E ι F a w r => ⟨ι, F, r⟩
theorem WeakT.trans {a b c : ESt} (h : WeakT a b) (k : WeakT b c) : WeakT a c := fun E ι F x w r => by
 obtain ⟨ι', F', r'⟩ := h E ι F x w r
 exact k E ι' F' x w r'
def thenT (K : ESt -> Prop) (Q : Exit -> ESt -> Prop) : Exit -> ESt -> Prop
 | .normal, s => K s
 | e, s => Q e s
def inT (id : Nat) (Q : Exit -> ESt -> Prop) : Exit -> ESt -> Prop
 | .exit id', s => bif Nat.beq id' id then Q .normal s else Q (.exit id') s
 | e, s => Q e s
theorem SCT.weak {c : Code} {Q : Exit -> ESt -> Prop} {s s' : ESt} (h : WeakT s s') (k : SCT P c Q s') : SCT P c Q s := ⟨SC.weak h k.out⟩
theorem SLT.weak {Q : Exit -> ESt -> Prop} {s s' : ESt} (h : WeakT s s') (k : SLT P L Q s') : SLT P L Q s := ⟨SL.weak h k.out⟩
theorem SCT.mono {c : Code} {Q Q' : Exit -> ESt -> Prop} {s : ESt} (h : SCT P c Q s) (hq : ∀ e s, Q e s -> Q' e s) : SCT P c Q' s :=
 ⟨h.out.mono fun e st ⟨s, e1, k⟩ => ⟨s, e1, hq e s k⟩⟩
theorem SCT.seq {a b : Code} {Q : Exit -> ESt -> Prop} {s : ESt} (h : ∀ K : ESt -> Prop, (∀ s, SCT P b Q s -> K s) -> SCT P a (thenT K Q) s) : SCT P (.seq a b) Q s :=
 ⟨SC.seq fun K hK => (h (fun s => SCT P b Q s) (fun _ h => h)).out.mono fun e st ⟨s, e1, k⟩ => by
  subst e1
  cases e <;> first | exact hK _ k.out | exact ⟨_, rfl, k⟩⟩
theorem SCT.seq' {a b : Code} {Q : Exit -> ESt -> Prop} {s : ESt} (h : SCT P a (thenT (SCT P b Q) Q) s) : SCT P (.seq a b) Q s :=
 SCT.seq fun K hK => h.mono fun e s he => by cases e <;> first | exact hK _ he | exact he
theorem SCT.block {id : Nat} {c : Code} {Q : Exit -> ESt -> Prop} {s : ESt} (h : SCT P c (inT id Q) s) : SCT P (.block id c) Q s :=
 ⟨SC.block (h.out.mono fun e st ⟨s, e1, k⟩ => by
  subst e1
  cases e with
  | exit id' =>
   simp only [inQ, inT] at k ⊢
   cases hb : Nat.beq id' id with
   | true => rw [hb] at k; exact ⟨_, rfl, k⟩
   | false => rw [hb] at k; exact ⟨_, rfl, k⟩
  | normal => exact ⟨_, rfl, k⟩
  | goto l => exact ⟨_, rfl, k⟩
  | ret => exact ⟨_, rfl, k⟩
  | panic c => exact ⟨_, rfl, k⟩
  | outgrown => exact ⟨_, rfl, k⟩)⟩
theorem SCT.loop {c : Code} {Q : Exit -> ESt -> Prop} {s0 : ESt} (h : ∀ J : ESt -> Prop, (∀ s s', WeakT s s' -> J s' -> J s) -> (∀ s, SCT P c (thenT J Q) s -> J s) -> J s0) : SCT P (.loop c) Q s0 :=
 ⟨SC.loop fun J hW hJ => h (fun s => J (toSt s)) (fun s s' hw hj => hW _ _ hw hj) (fun s hs => hJ _ (hs.out.mono fun e st ⟨s, e1, k⟩ => by
  subst e1
  cases e <;> first | exact k | exact ⟨_, rfl, k⟩))⟩
structure Fair (s : ESt) : Prop where
 env : ∀ t, Born (toH s.heap) (toV s.heap.len (s.env t))
 obj : ∀ i o, (toH s.heap).slot i = .live o -> ∀ r, r < o.n -> ∀ c, c < o.sz -> Born (toH s.heap) (o.get r c)
 next : ∀ i : Id, s.heap.next <= i.k -> (toH s.heap).slot i = .unborn
theorem Rel.fair {E : Env} {ι : Id -> Option Nat} {F : Nat -> Prop} {s : ESt} {a : Act} {w : World} (r : Rel E ι F (toSt s) a w) : Fair s where
 env t := (r.env t).born
 obj i o h x hx c hc := by
  obtain ⟨h1, h2⟩ := r.h.obj i o h
  cases hk : ι i with
  | none => rw [hk] at h2; have h2 : o.n = 0 := h2; omega
  | some b =>
   rw [hk] at h2
   obtain ⟨cur, g1, g2, g3⟩ := h2
   obtain ⟨v, _, _, h⟩ := g3 x hx c hc
   exact h.born
 next i hi := r.h.next i hi
theorem SL.fair {Q : Exit -> St -> Prop} {s : ESt} (h : Fair s -> SL P L Q (toSt s)) : SL P L Q (toSt s) :=
 ⟨fun E ι F a w r => (h r.fair).out E ι F a w r⟩
theorem Weak.fair {s : ESt} {st' : St} (h : Fair s -> Weak (toSt s) st') : Weak (toSt s) st' := fun E ι F a w r => h r.fair E ι F a w r
def EHeap.add (H : EHeap) (id : Nat) (o : OD) : EHeap := { H with next := id + 1, obj := fun k => bif Nat.beq k id then o else H.obj k }
def EHeap.set (H : EHeap) (id : Nat) (o : OD) : EHeap := { H with obj := fun k => bif Nat.beq k id then o else H.obj k }
def ESt.on (s : ESt) (H : EHeap) : ESt := { s with heap := H }
theorem natBeq_ne {a b : Nat} (h : ¬ a = b) : Nat.beq a b = false := by
 cases hb : Nat.beq a b with
 | false => rfl
 | true => exact absurd (Nat.eq_of_beq_eq_true hb) h
theorem EHeap.len_obj {H H' : EHeap} {k : Nat} (h : H'.obj k = H.obj k) (p : List Nat) : H'.len k p = H.len k p := by unfold EHeap.len; rw [h]
theorem EHeap.add_ne {H : EHeap} {id : Nat} {o : OD} {k : Nat} (h : k ≠ id) : (H.add id o).obj k = H.obj k := by simp only [EHeap.add, natBeq_ne h, cond_false]
theorem EHeap.set_ne {H : EHeap} {id : Nat} {o : OD} {k : Nat} (h : k ≠ id) : (H.set id o).obj k = H.obj k := by simp only [EHeap.set, natBeq_ne h, cond_false]
theorem cellV_len {H : Heap} {len len' : Len} (hl : ∀ id p, H.slot ⟨id, p⟩ ≠ .unborn -> len' id p = len id p) {k : Nat} {p : List Nat} {r c : Nat} {x : Cell} (h : Born H (cellV len k p r c x)) : cellV len' k p r c x = cellV len k p r c x := by
 cases x with
 | ev u => exact toV_len hl u h
 | own t e l => rfl
theorem slot_live {len len' : Len} {k : Nat} {o : OD} {p : List Nat} {a' : AObj} (h : o.slot len' k p = .live a') : ∃ a, o.slot len k p = .live a /\ a'.elem = a.elem /\ a'.sz = a.sz /\ a'.n = a.n /\ a'.ver = a.ver /\
  (∀ H : Heap, (∀ id q, H.slot ⟨id, q⟩ ≠ .unborn -> len' id q = len id q) -> ∀ r, r < a.n -> ∀ c, c < a.sz -> Born H (a.get r c) -> a'.get r c = a.get r c) := by
 cases o with
 | none => cases h
 | dead => cases h
 | lst v =>
  simp only [OD.slot] at h ⊢
  cases hv : v.at p with
  | none => rw [hv] at h; cases h
  | some a =>
   rw [hv] at h
   injection h with h; subst h
   exact ⟨_, rfl, rfl, rfl, rfl, rfl, fun H hl r hr c hc hb => cellV_len hl hb⟩
 | cells e l =>
  cases p with
  | cons x y => cases h
  | nil =>
   injection h with h; subst h
   refine ⟨_, rfl, rfl, rfl, rfl, rfl, fun H hl r hr c hc hb => ?_⟩
   simp only at hb ⊢
   rw [toVs_eq] at hb ⊢
   rw [toVs_eq]
   exact toV_len hl _ hb
 | hole v q r c =>
  simp only [OD.slot] at h ⊢
  split at h
  ·cases h
  ·rename_i hn
   rw [if_neg hn]
   cases hv : v.at p with
   | none => rw [hv] at h; cases h
   | some a =>
    rw [hv] at h
    injection h with h; subst h
    refine ⟨_, rfl, rfl, rfl, rfl, rfl, fun H hl r' hr c' hc hb => ?_⟩
    simp only [LV.holed] at hb ⊢
    split
    ·rfl
    ·rename_i hne
     rw [if_neg hne] at hb
     exact cellV_len hl hb
 | mp s τ g =>
  cases p with
  | cons x y => cases h
  | nil => cases h
theorem slot_mp {len' : Len} {k : Nat} {o : OD} {p : List Nat} {s : Bool} {g' : MKey -> Option V} (h : o.slot len' k p = .mp s g') : ∃ τ g, o = .mp s τ g /\ p = [] /\ g' = (fun x => match g x with
  | some y => some (.t (encC τ y 0))
  | none => none) := by
 cases o with
 | mp s' τ g =>
  cases p with
  | cons x y => cases h
  | nil => injection h with h1 h2; subst h1; exact ⟨τ, g, rfl, rfl, h2.symm⟩
 | none => cases h
 | dead => cases h
 | lst v => simp only [OD.slot] at h; cases hv : v.at p <;> rw [hv] at h <;> cases h
 | cells e l => cases p <;> cases h
 | hole v q r c =>
  simp only [OD.slot] at h
  split at h
  ·cases h
  ·cases hv : v.at p <;> rw [hv] at h <;> cases h
theorem slot_dead {len len' : Len} {k : Nat} {o : OD} {p : List Nat} : (o.slot len' k p = .dead ↔ o.slot len k p = .dead) /\ (o.slot len' k p = .unborn ↔ o.slot len k p = .unborn) := by
 cases o with
 | none => exact ⟨Iff.rfl, Iff.rfl⟩
 | dead => exact ⟨Iff.rfl, Iff.rfl⟩
 | lst v => simp only [OD.slot]; cases v.at p <;> simp
 | cells e l => cases p <;> simp [OD.slot]
 | hole v q r c => simp only [OD.slot]; split <;> first | simp | (cases v.at p <;> simp)
 | mp s τ g => cases p <;> simp [OD.slot]
theorem slotLike_len {len len' : Len} {k : Nat} {o : OD} {p : List Nat} (h : o.slot len k p ≠ .unborn) (hu : True) : o.slot len' k p = .dead \/ SlotLike (o.slot len k p) (o.slot len' k p) := by
 cases hs : o.slot len' k p with
 | dead => exact .inl rfl
 | unborn => exact absurd ((slot_dead (len := len)).2.1 hs) h
 | live a' =>
  obtain ⟨a, h1, h2, h3, h4, h5, _⟩ := slot_live (len := len) hs
  rw [h1]; exact .inr ⟨h5, h2, h3, h4⟩
 | mp s g' =>
  obtain ⟨τ, g, rfl, rfl, _⟩ := slot_mp hs
  exact .inr trivial
end
end Go.Abs
namespace Go.Abs
open Go
variable {P : Program} {d : Option Tmp} {ty : TypeId} {L : List GOp}
theorem KG.same {H H' : Heap} {Z : Id -> Prop} (hl : ∀ i, H.slot i ≠ .unborn -> SlotLike (H.slot i) (H'.slot i)) : ∀ u, KG H H' some Z u u := by
 intro u
 induction u with
 | un => exact KG.un
 | und => exact KG.und
 | t x => exact KG.t x
 | nils => exact KG.nils
 | nilp => exact KG.nilp
 | nilm => exact KG.nilm
 | nilf => exact KG.nilf
 | fp m g => exact KG.fp
 | agg n g ih => exact KG.agg fun j _ => ih j
 | tup n g ih => exact KG.tup fun j _ => ih j
 | fn f n g ih => exact KG.fn fun j _ => ih j
 | ptr id ver r c =>
  rintro E ι F w v rr ⟨h0, h1⟩
  have hne : H.slot id ≠ .unborn := fun e => by rw [e] at h1; exact h1
  have hl := hl id hne
  refine ⟨h0, ?_⟩
  cases hs' : H'.slot id with
  | dead => trivial
  | mp s g => trivial
  | unborn => rw [hs'] at hl; cases hs : H.slot id <;> rw [hs] at hl <;> exact hl.elim
  | live o' =>
   rw [hs'] at hl
   cases hs : H.slot id with
   | live o =>
    rw [hs] at hl h1
    obtain ⟨a, b, c, d⟩ := hl
    show ver <= o'.ver /\ _
    rw [a, c]; exact h1
   | unborn => rw [hs] at hl; exact hl.elim
   | dead => rw [hs] at hl; exact hl.elim
   | mp _ _ => rw [hs] at hl; exact hl.elim
 | sref id ver r c =>
  rintro E ι F w v rr ⟨h0, h1⟩
  have hne : H.slot id ≠ .unborn := fun e => by rw [e] at h1; exact h1
  have hl := hl id hne
  refine ⟨h0, ?_⟩
  cases hs' : H'.slot id with
  | dead => trivial
  | mp s g => trivial
  | unborn => rw [hs'] at hl; cases hs : H.slot id <;> rw [hs] at hl <;> exact hl.elim
  | live o' =>
   rw [hs'] at hl
   cases hs : H.slot id with
   | live o =>
    rw [hs] at hl h1
    obtain ⟨a, b, c, d⟩ := hl
    show ver <= o'.ver /\ _
    rw [a, b, c, d]; exact h1
   | unborn => rw [hs] at hl; exact hl.elim
   | dead => rw [hs] at hl; exact hl.elim
   | mp _ _ => rw [hs] at hl; exact hl.elim
 | mref id =>
  rintro E ι F w v rr ⟨h0, h1⟩
  have hne : H.slot id ≠ .unborn := fun e => by rw [e] at h1; exact h1
  have hl := hl id hne
  refine ⟨h0, ?_⟩
  cases hs' : H'.slot id with
  | dead => trivial
  | live o' => trivial
  | unborn => rw [hs'] at hl; cases hs : H.slot id <;> rw [hs] at hl <;> exact hl.elim
  | mp s g =>
   rw [hs'] at hl
   cases hs : H.slot id with
   | mp _ _ => rw [hs] at h1; exact h1
   | unborn => rw [hs] at hl; exact hl.elim
   | dead => rw [hs] at hl; exact hl.elim
   | live _ => rw [hs] at hl; exact hl.elim
theorem Weak.like {st st' : St} (hn : st'.nt = st.nt) (hlo : st'.heap.lo = st.heap.lo) (hnx : Nx st.heap -> Nx st'.heap) (hl : ∀ i, st.heap.slot i ≠ .unborn -> SlotLike (st.heap.slot i) (st'.heap.slot i))
  (hc : ∀ i o', st'.heap.slot i = .live o' -> ∃ o, st.heap.slot i = .live o /\ ∀ r, r < o.n -> ∀ c, c < o.sz -> Wk (o.get r c) (o'.get r c))
  (hm : ∀ i s g', st'.heap.slot i = .mp s g' -> st.heap.slot i = .mp s g')
  (he : ∀ t, Wk (st.env t) (st'.env t)) : Weak st st' := fun E ι F a w r =>
 Weak.gen some (fun _ => False) hn ⟨hlo, hnx r.h.next, fun i o' h => by
   obtain ⟨o, ho, hw⟩ := hc i o' h
   have := hl i (by rw [ho]; exact fun e => by cases e)
   rw [ho, h] at this
   obtain ⟨a, b, c, d⟩ := this
   exact .inr ⟨i, o, rfl, ho, fun h => h, b, c, Nat.le_of_eq d, fun x hx y hy => KG.of_wk' (hw x (by omega) y (by omega)) (KG.same hl _)⟩,
  fun i s g' h => ⟨i, g', rfl, hm i s g' h, fun h => h, fun k => by cases g' k <;> first | exact .inl ⟨rfl, rfl⟩ | exact .inr ⟨_, _, rfl, rfl, KG.same hl _⟩⟩,
  fun i j x _ _ h1 h2 => by injection h1 with h1; injection h2 with h2; rw [h1, h2],
  fun i hi hp => by
   by_cases hs : st.heap.slot i = .unborn
   ·exact .inl hs
   ·exact .inr (.inr ⟨rfl, hl i hs⟩)⟩
  (fun t => KG.of_wk' (he t) (KG.same hl _)) E ι F a w r
section
variable [SU] [Codes]
theorem he_put {s : ESt} {s' : EHeap} (hf : Fair s) (hlen : ∀ id p, (toH s.heap).slot ⟨id, p⟩ ≠ .unborn -> s'.len id p = s.heap.len id p) {H1 : Heap} {d : Option Tmp} {u0 : V} {u : EV} (hu : d ≠ none -> Wk u0 (toV s'.len u)) :
  ∀ t, Wk ((((toSt s).on H1).put d u0).env t) (toV s'.len (((s.on s').put d u).env t)) := fun t => by
 cases d with
 | none => exact Wk.of_eq (toV_len hlen _ (hf.env t)).symm
 | some d =>
  simp only [St.put, ESt.put]
  cases Nat.beq t d with
  | false => exact Wk.of_eq (toV_len hlen _ (hf.env t)).symm
  | true =>
   show Wk (bif Nat.blt d s.nt then u0 else .un) (toV s'.len (bif Nat.blt d s.nt then u else .un))
   cases Nat.blt d s.nt with
   | true => exact hu (fun e => by cases e)
   | false => simp only [cond_false, toV]; exact Wk.refl _
theorem weak_root {s : ESt} {H1 : Heap} {H' : EHeap} {u0 : V} {u : EV} (hf : Fair s) (k : Nat) (hobj : ∀ k', k' ≠ k -> H'.obj k' = s.heap.obj k')
  (hlen : ∀ id p, (toH s.heap).slot ⟨id, p⟩ ≠ .unborn -> H'.len id p = s.heap.len id p)
  (hH1 : ∀ i : Id, i.k ≠ k -> H1.slot i = (toH s.heap).slot i) (hlo : H'.lo = H1.lo) (hnx : Nx H1 -> Nx (toH H'))
  (hk1 : ∀ p, H1.slot ⟨k, p⟩ ≠ .unborn -> SlotLike (H1.slot ⟨k, p⟩) ((toH H').slot ⟨k, p⟩))
  (hk2 : ∀ p o', (toH H').slot ⟨k, p⟩ = .live o' -> ∃ o, H1.slot ⟨k, p⟩ = .live o /\ ∀ r, r < o.n -> ∀ c, c < o.sz -> Wk (o.get r c) (o'.get r c))
  (hk3 : ∀ p s g', (toH H').slot ⟨k, p⟩ = .mp s g' -> H1.slot ⟨k, p⟩ = .mp s g')
  (d : Option Tmp) (hu : d ≠ none -> Wk u0 (toV H'.len u)) : Weak (((toSt s).on H1).put d u0) (toSt ((s.on H').put d u)) := by
 have hh1 : (((toSt s).on H1).put d u0).heap = H1 := by rw [put_heap]; rfl
 have hh2 : (toSt ((s.on H').put d u)).heap = toH H' := by rw [toSt_put, put_heap]; rfl
 have hslot : ∀ i : Id, i.k ≠ k -> (toH H').slot i = (s.heap.obj i.k).slot H'.len i.k i.p := fun i hi => by
  show (H'.obj i.k).slot _ _ _ = _; rw [hobj _ hi]
 refine Weak.like (by rw [put_nt, toSt_put, put_nt]; rfl) (by rw [hh1, hh2]; exact hlo) (by rw [hh1, hh2]; exact hnx) (fun i => ?_) (fun i o' => ?_) (fun i sb g' => ?_) (fun t => ?_)
 ·rw [hh1, hh2]
  by_cases hi : i.k = k
  ·obtain ⟨k', p⟩ := i
   simp only at hi
   subst hi
   exact hk1 p
  ·intro hne
   rw [hH1 i hi] at hne ⊢
   rw [hslot i hi]
   rcases slotLike_len (len' := H'.len) (o := s.heap.obj i.k) (len := s.heap.len) (k := i.k) (p := i.p) hne trivial with h | h
   ·rw [h]; trivial
   ·exact h
 ·rw [hh1, hh2]
  by_cases hi : i.k = k
  ·obtain ⟨k', p⟩ := i
   simp only at hi
   subst hi
   exact hk2 p o'
  ·intro ho
   rw [hslot i hi] at ho
   obtain ⟨o, h1, h2, h3, h4, h5, h6⟩ := slot_live (len := s.heap.len) ho
   have h1' : (toH s.heap).slot i = .live o := h1
   refine ⟨o, (hH1 i hi).trans h1', fun r hr c hc => Wk.of_eq ?_⟩
   exact (h6 (toH s.heap) hlen r hr c hc (hf.obj i o h1' r hr c hc)).symm
 ·rw [hh1, hh2]
  by_cases hi : i.k = k
  ·obtain ⟨k', p⟩ := i
   simp only at hi
   subst hi
   exact hk3 p sb g'
  ·intro ho
   rw [hslot i hi] at ho
   obtain ⟨τ, g, h1, h2, h3⟩ := slot_mp ho
   rw [hH1 i hi]
   show (s.heap.obj i.k).slot _ _ _ = _
   rw [h1, h2, h3]; rfl
 ·have := he_put (s := s) (s' := H') hf hlen (H1 := H1) (d := d) hu t
  rw [toSt_put] at *
  have e : ((toSt (s.on H')).put d (toV (s.on H').heap.len u)).env t = toV H'.len (((s.on H').put d u).env t) := by
   rw [<- toSt_put]
   show toV ((s.on H').put d u).heap.len _ = _
   cases d <;> rfl
  rw [e]; exact this
def OD.flat : OD -> Bool
 | .lst v => froT v.τ
 | .cells _ _ => true
 | .mp _ _ _ => true
 | _ => false
theorem LV.at_flat {v : LV} (h : froT v.τ = true) : ∀ p, p ≠ [] -> v.at p = none
 | [], hp => absurd rfl hp
 | [_], _ => LV.at_odd _ _
 | c :: r :: p, _ => by
  rw [LV.at_cons]
  have : v.kid c r = none := by
   unfold LV.kid
   obtain ⟨u, e, _⟩ := cellC_enc v.τ (v.l.getD r v.τ.z) c h
   rw [e]
  rw [this]
theorem OD.flat_slot {o : OD} {len : Len} {k : Nat} (h : o.flat = true) : ∀ p, p ≠ [] -> o.slot len k p = .unborn := fun p hp => by
 cases o with
 | lst v => simp only [OD.slot, LV.at_flat h p hp]
 | cells e l => cases p <;> first | exact absurd rfl hp | rfl
 | mp s τ g => cases p <;> first | exact absurd rfl hp | rfl
 | none => rfl
 | dead => cases h
 | hole v q r c => cases h
theorem weak_add {s : ESt} {a : AObj} {o : OD} {u0 : V} {u : EV} (hf : Fair s) (ho : o.flat = true) {a' : AObj} (hs : o.slot (s.heap.add s.heap.next o).len s.heap.next [] = .live a')
  (h1 : a'.ver = a.ver) (h2 : a'.elem = a.elem) (h3 : a'.sz = a.sz) (h4 : a'.n = a.n) (h5 : ∀ r, r < a.n -> ∀ c, c < a.sz -> Wk (a.get r c) (a'.get r c)) (d : Option Tmp) (hu : d ≠ none -> Wk u0 (toV (s.heap.add s.heap.next o).len u)) :
  Weak (((toSt s).on ((toSt s).heap.addAt s.heap.next a)).put d u0) (toSt ((s.on (s.heap.add s.heap.next o)).put d u)) := by
 have hsl : ∀ i : Id, ((toSt s).heap.addAt s.heap.next a).slot i = if i = ⟨s.heap.next, []⟩ then .live a else (toH s.heap).slot i := fun i => by
  show (bif Id.beq i ⟨s.heap.next, []⟩ then _ else _) = _
  exact beq_if _ _ _ _
 have hnew : ∀ p, (toH (s.heap.add s.heap.next o)).slot ⟨s.heap.next, p⟩ = o.slot (s.heap.add s.heap.next o).len s.heap.next p := fun p => by
  show ((s.heap.add s.heap.next o).obj s.heap.next).slot _ _ _ = _
  simp only [EHeap.add, Nat.beq_refl, cond_true]
 refine weak_root hf s.heap.next (fun k' hk => by simp only [EHeap.add, natBeq_ne hk, cond_false]) (fun id p hb => ?_) (fun i hi => ?_) rfl (fun hn i hi => ?_) (fun p hne => ?_) (fun p o' hl => ?_) (fun p sb g' hl => ?_) d hu
 ·have : id ≠ s.heap.next := fun e => hb (hf.next ⟨id, p⟩ (by rw [e]; exact Nat.le_refl _))
  exact EHeap.len_obj (EHeap.add_ne this) p
 ·rw [hsl, if_neg (fun e => hi (by rw [e]))]
 ·have hi : s.heap.next + 1 <= i.k := hi
  have hne : i.k ≠ s.heap.next := by omega
  have := hf.next i (by omega)
  have h' : (s.heap.obj i.k).slot s.heap.len i.k i.p = .unborn := this
  show ((s.heap.add s.heap.next o).obj i.k).slot _ _ _ = .unborn
  simp only [EHeap.add, natBeq_ne hne, cond_false]
  exact (slot_dead (len := s.heap.len)).2.2 h'
 ·rw [hsl] at hne ⊢
  by_cases hp : p = []
  ·subst hp
   rw [if_pos rfl, hnew, hs]
   exact ⟨h1, h2, h3, h4⟩
  ·rw [if_neg (fun e => hp (by injection e))] at hne
   exact absurd (hf.next ⟨s.heap.next, p⟩ (Nat.le_refl _)) hne
 ·rw [hnew] at hl
  rw [hsl]
  by_cases hp : p = []
  ·subst hp
   rw [hs] at hl
   injection hl with hl
   subst hl
   exact ⟨a, if_pos rfl, h5⟩
  ·rw [OD.flat_slot ho p hp] at hl; cases hl
 ·rw [hnew] at hl
  by_cases hp : p = []
  ·subst hp; rw [hs] at hl; cases hl
  ·rw [OD.flat_slot ho p hp] at hl; cases hl
end
end Go.Abs
namespace Go.Abs
open Go
variable {P : Program} {Q : Exit -> St -> Prop} {st : St} {L : List GOp} {d : Option Tmp} {ty : TypeId}
theorem fill_parts {s : Nat} : ∀ (vs : List Value) (k : Nat) (cells : Array Value), (∀ v ∈ vs, v.cells.size = s) -> (k + vs.length) * s <= cells.size ->
  ∃ cs, Instr.fill (fun i => some (i * s, s)) cells (vs.zipIdx k |>.map fun p => (p.2, p.1)) = some cs /\ cs.size = cells.size /\
   (∀ i j, i < vs.length -> j < s -> cs[(k + i) * s + j]? = (vs.getD i undef).cells[j]?) /\ (∀ x, x < k * s -> cs[x]? = cells[x]?)
 | [], k, cells, h, hk => ⟨cells, rfl, rfl, fun i j hi => absurd hi (Nat.not_lt_zero _), fun x _ => rfl⟩
 | v :: vs, k, cells, h, hk => by
  have hv : v.cells.size = s := h v (by simp)
  simp only [List.length_cons] at hk
  have hle : k * s + s <= cells.size := by
   have : (k + 1) * s <= (k + (vs.length + 1)) * s := Nat.mul_le_mul_right _ (by omega)
   rw [Nat.add_mul, Nat.one_mul] at this
   omega
  have hset : ∀ (l : List Value) (o : Nat) (cs : Array Value) (j0 : Nat), o + j0 + l.length <= cs.size -> ((l.zipIdx j0).foldl (fun cs (p : Value × Nat) => cs.setIfInBounds (o + p.2) p.1) cs).size = cs.size /\
    (∀ j, j < l.length -> ((l.zipIdx j0).foldl (fun cs (p : Value × Nat) => cs.setIfInBounds (o + p.2) p.1) cs)[o + j0 + j]? = l[j]?) /\
    (∀ x, x < o + j0 \/ o + j0 + l.length <= x -> ((l.zipIdx j0).foldl (fun cs (p : Value × Nat) => cs.setIfInBounds (o + p.2) p.1) cs)[x]? = cs[x]?) := by
   intro l
   induction l with
   | nil => intro o cs j0 _; exact ⟨rfl, fun j hj => absurd hj (Nat.not_lt_zero _), fun x _ => rfl⟩
   | cons a l ih =>
    intro o cs j0 hsz
    simp only [List.length_cons] at hsz
    simp only [List.zipIdx_cons, List.foldl_cons]
    obtain ⟨i1, i2, i3⟩ := ih o (cs.setIfInBounds (o + j0) a) (j0 + 1) (by simp; omega)
    refine ⟨by rw [i1]; simp, fun j hj => ?_, fun x hx => ?_⟩
    ·cases j with
     | zero =>
      rw [i3 _ (by omega)]
      simp [Array.getElem?_setIfInBounds_self_of_lt (show o + j0 < cs.size by omega)]
     | succ j =>
      have := i2 j (by simpa using hj)
      rw [show o + j0 + (j + 1) = o + (j0 + 1) + j by omega, this]; simp
    ·rw [i3 x (by simp only [List.length_cons] at hx; omega)]
     rw [Array.getElem?_setIfInBounds_ne (by simp only [List.length_cons] at hx; omega)]
  have hz : v.cells.zipIdx.foldl (fun cs (p : Value × Nat) => cs.setIfInBounds (k * s + p.2) p.1) cells = (v.cells.toList.zipIdx 0).foldl (fun cs (p : Value × Nat) => cs.setIfInBounds (k * s + p.2) p.1) cells := by
   rw [<- Array.foldl_toList, Array.toList_zipIdx]
  obtain ⟨g1, g2, g3⟩ := hset v.cells.toList (k * s) cells 0 (by simp [hv]; omega)
  obtain ⟨cs, r1, r2, r3, r4⟩ := fill_parts vs (k + 1) ((v.cells.toList.zipIdx 0).foldl (fun cs (p : Value × Nat) => cs.setIfInBounds (k * s + p.2) p.1) cells) (fun x hx => h x (by simp [hx])) (by rw [g1]; rw [show k + 1 + vs.length = k + (vs.length + 1) by omega]; exact hk)
  refine ⟨cs, ?_, by rw [r2, g1], fun i j hi hj => ?_, fun x hx => ?_⟩
  ·simp only [List.zipIdx_cons, List.map_cons, Instr.fill, hv]
   rw [if_neg (by simp; omega)]
   rw [<- r1, <- hz]
  ·cases i with
   | zero =>
    simp only [Nat.add_zero, List.getD_cons_zero]
    rw [r4 _ (by rw [Nat.add_mul, Nat.one_mul]; omega)]
    have := g2 j (by simp [hv]; exact hj)
    rw [Nat.add_zero] at this
    rw [this]; simp
   | succ i =>
    have := r3 i j (by simpa using hi) hj
    rw [show k + (i + 1) = k + 1 + i by omega, this]; simp
  ·rw [r4 x (by rw [Nat.add_mul, Nat.one_mul]; omega)]
   exact g3 x (.inl (by omega))
def partsOf (xs : List Operand) : Array (Nat × Operand) := (xs.zipIdx.map fun p => (p.2, p.1)).toArray
theorem partsOf_eval (xs : List Operand) (ev : Operand -> Value) : ((partsOf xs).map fun p => (p.1, ev p.2)).toList = ((xs.map ev).zipIdx.map fun p => (p.2, p.1)) := by
 simp [partsOf, List.zipIdx_map, Function.comp_def]
theorem SL.buildS {t e : TypeId} {s by_ : Nat} [ht : TySlice P t e s by_] {z : Value} [hz : TyZero P e z] {xs : List Operand} {us : List V} (hzs : z.cells.size = s) (hx : xs.map st.eval = us) (hr : ∀ u ∈ us, u.rowOk s = true) (h0 : 0 < s)
  (hb : xs.length * s <= 16777216)
  (hk : SL P L Q ((st.on (st.heap.addAt st.heap.next { elem := e, sz := s, ver := 0, n := xs.length, get := fun i j => (us.getD i .un).row j })).put d (.sref ⟨st.heap.next, []⟩ 0 0 xs.length))) :
  SL P (⟨d, .buildSlice t xs.length (partsOf xs), ty, none⟩ :: L) Q st :=
 SL.value rfl fun E ι F a w r => by
  have hlen : us.length = xs.length := by rw [<- hx]; simp
  have hrow : ∀ i, i < xs.length -> (a.eval (xs.getD i default)).cells.size = s /\ ∀ j, j < s -> ∃ c, (a.eval (xs.getD i default)).cells[j]? = some c /\ c.oneCell' = true /\ VRel st.heap ι F w ((us.getD i .un).row j) c := fun i hi => by
   have h1 : us.getD i .un = st.eval (xs.getD i default) := by
    subst hx; simp [List.getD_eq_getElem?_getD, hi]
   have h2 : us.getD i .un ∈ us := by
    rw [List.getD_eq_getElem?_getD, List.getElem?_eq_getElem (by omega)]; exact List.getElem_mem _
   exact V.rowOk_cells (hr _ h2) (h1 ▸ r.eval _)
  have hs : (sizeOf e).run P w = .ok s w := by
   have hs := ht.s
   cases hq : P.info? e with
   | none => simp [hq] at hs
   | some i => simp [hq] at hs; simp [sizeOf, typeInfo, hq, hs]
  let zs : Array Value := (Array.range (xs.length * s)).map fun i => z.cells[i % z.cells.size]!
  obtain ⟨cs, f1, f2, f3, -⟩ := fill_parts (s := s) (xs.map a.eval) 0 zs (fun v hv => by
   obtain ⟨x, hx', rfl⟩ := List.mem_map.1 hv
   obtain ⟨i, hi, rfl⟩ := List.getElem_of_mem hx'
   have := (hrow i hi).1
   rwa [List.getD_eq_getElem?_getD, List.getElem?_eq_getElem hi] at this) (by simp [zs])
  have hsz : cs.size = xs.length * s := by rw [f2]; simp [zs]
  obtain ⟨g1, g2⟩ := r.h.alloc { elem := e, sz := s, ver := 0, n := xs.length, get := fun i j => (us.getD i .un).row j } cs (by
    have : xs.length * 1 <= xs.length * s := Nat.mul_le_mul_left _ h0
    show xs.length <= LEN
    simp only [LEN]; omega) (by show xs.length * s <= cs.size; omega) (fun i hi j hj => by
   have hi : i < xs.length := hi
   have hj : j < s := hj
   obtain ⟨c, c1, c2, c3⟩ := (hrow i hi).2 j hj
   refine ⟨c, ?_, c2, c3⟩
   show cs[i * s + j]? = some c
   have := f3 i j (by simpa using hi) hj
   rw [Nat.zero_add] at this
   rw [this, <- c1]
   simp [List.getD_eq_getElem?_getD, hi])
  refine ⟨.slice (some ⟨w.heap.size, 0, none⟩) xs.length xs.length, _, _, F, _, .sref ⟨st.heap.next, []⟩ 0 0 xs.length, ?_, g1, g2, ⟨rfl, ?_⟩, hk⟩
  rotate_left
  ·rw [Heap.add_self]
   exact ⟨Nat.le_refl _, fun _ => ⟨by show 0 + xs.length <= xs.length; omega, some ⟨w.heap.size, 0, none⟩, xs.length, rfl, Nat.le_refl _, fun _ => ⟨w.heap.size, cs, upd_self _ _ _, by simp, by show (w.heap.push _)[w.heap.size]? = _; simp, by show 0 * s + xs.length * s <= cs.size; omega⟩⟩⟩
  ·have hp : ((partsOf xs).map fun p => (p.1, a.eval p.2)).toList = ((xs.map a.eval).zipIdx.map fun p => (p.2, p.1)) := partsOf_eval xs a.eval
   have hno : ¬ xs.length * s > 2 ^ 24 := by omega
   by_cases hz0 : xs.length * s = 0
   ·have hz1 : ((Array.range (xs.length * s)).map fun i => (#[] : Array Value)[i % (#[] : Array Value).size]!) = zs := by
     apply Array.ext <;> simp [zs, hz0]
    simp only [execOp, GOp.oper, Instr.buildSlice, Sem.run_bind, run_underlying' ht.d, Result.andThen_ok, hs, if_neg hno, if_pos hz0, hp]
    simp only [Sem.run_pure, Result.andThen_ok, hz1, f1, newRow, run_newObj, Sem.run_bind]
    rfl
   ·simp only [execOp, GOp.oper, Instr.buildSlice, Sem.run_bind, run_underlying' ht.d, Result.andThen_ok, hs, if_neg hno, if_neg hz0, hp, zero_run (P := P) (t := e)]
    simp only [Sem.run_pure, Result.andThen_ok, newRow, run_newObj, Sem.run_bind]
    rw [show ((Array.range (xs.length * s)).map fun i => z.cells[i % z.cells.size]!) = zs from rfl, f1]
    simp only [Sem.run_bind, run_newObj, Result.andThen_ok, Sem.run_pure]
    rfl
theorem SL.makeS {t e : TypeId} {s by_ : Nat} [ht : TySlice P t e s by_] {z : Value} [hz : TyZero P e z] {x y : Operand} {kx ky : IntKind} {m : Int} {n : Nat} (hzs : z.cells.size = s) (hx : st.eval x = .t (.int kx m)) (hy : st.eval y = .t (.int ky m)) (hm : m = n) (h0 : 0 < s)
  (hb : n * by_ <= 140737488355328) (hl : n <= LEN)
  (hk : SL P L Q ((st.on (st.heap.addAt st.heap.next { elem := e, sz := s, ver := 0, n := n, get := fun _ j => V.cell (z.cells.getD j undef) })).put d (.sref ⟨st.heap.next, []⟩ 0 0 n))) :
  SL P (⟨d, .makeSlice t x y, ty, none⟩ :: L) Q st :=
 SL.value rfl fun E ι F a w r => by
  subst hm
  have hn : (n : Int) <= 281474976710656 := by simp only [LEN] at hl; omega
  obtain ⟨i, hi, hi1, hi2⟩ : ∃ i, P.info? e = some i /\ i.size = s /\ i.bytes = by_ := by
   have hs := ht.s
   cases hq : P.info? e with
   | none => simp [hq] at hs
   | some i => simp [hq] at hs; exact ⟨i, rfl, hs.1, hs.2⟩
  have hiz : i.zero = some z := by
   have hz0 := hz.z
   rw [hi] at hz0
   simpa using hz0
  have hbi : ((i.bytes : Nat) : Int) * (n : Int) <= 281474976710656 := by
   rw [hi2]
   have h1 : by_ * n <= 140737488355328 := by rw [Nat.mul_comm]; exact hb
   have h2 : ((by_ * n : Nat) : Int) <= 140737488355328 := by omega
   rw [Int.natCast_mul] at h2
   omega
  have hrun := run_make (P := P) w t e i z ht.d hi hiz kx ky (n : Int) (n : Int) (by omega) (Int.le_refl _) hbi (by omega)
  have htn : (n : Int).toNat = n := by simp
  rw [htn, hi1] at hrun
  have hcell : ∀ i, i < n -> ∀ j, j < s -> (madeCells z.cells (n * s))[i * s + j]? = z.cells[j]? := fun i hi j hj => by
   have hlt : i * s + j < n * s := lin_lt hi hj
   have hm : (i * s + j) % s = j := by rw [Nat.add_comm, Nat.add_mul_mod_self_right, Nat.mod_eq_of_lt hj]
   have hj' : j < z.cells.size := by omega
   have e1 : z.cells[j]! = z.cells[j] := getElem!_pos _ _ _
   simp [madeCells, hlt, hzs, hm, hj', e1]
  obtain ⟨g1, g2⟩ := r.h.alloc { elem := e, sz := s, ver := 0, n := n, get := fun _ j => V.cell (z.cells.getD j undef) } (madeCells z.cells (n * s)) hl (by rw [size_madeCells]; exact Nat.le_refl _) (fun i hi j hj => by
   have hj : j < s := hj
   have hj' : j < z.cells.size := by omega
   refine ⟨z.cells[j], ?_, ?_, ?_⟩
   ·show (madeCells z.cells (n * s))[i * s + j]? = _
    rw [hcell i hi j hj]; exact Array.getElem?_eq_getElem hj'
   ·exact Array.all_eq_true_iff_forall_mem.1 hz.c _ (Array.getElem_mem hj')
   ·show VRel _ _ _ _ (V.cell (z.cells.getD j undef)) _
    rw [Array.getD_eq_getD_getElem?, Array.getElem?_eq_getElem hj', Option.getD_some]
    exact V.cell_rel _ _ _ _ _)
  refine ⟨.slice (some ⟨w.heap.size, 0, none⟩) n n, _, _, F, _, .sref ⟨st.heap.next, []⟩ 0 0 n, ?_, g1, g2, ⟨rfl, ?_⟩, hk⟩
  rotate_left
  ·rw [Heap.add_self]
   exact ⟨Nat.le_refl _, fun _ => ⟨by show 0 + n <= n; omega, some ⟨w.heap.size, 0, none⟩, n, rfl, Nat.le_refl _, fun _ => ⟨w.heap.size, madeCells z.cells (n * s), upd_self _ _ _, by simp, by show (w.heap.push _)[w.heap.size]? = _; simp, by show 0 * s + n * s <= _; rw [size_madeCells]; omega⟩⟩⟩
  ·simp only [execOp, GOp.oper, int_eval r hx, int_eval r hy, hrun, Sem.run_bind, Result.andThen_ok]
   rfl
theorem SL.appendN {st : St} {t e : TypeId} {s by_ : Nat} [ht : TySlice P t e s by_] {z : Value} [hz : TyZero P e z] {x y : Operand} {m : Nat} {news : Nat -> Nat -> V} {o : AObj} (o1 : o.elem = e) (o2 : o.sz = s) (o3 : o.ver = 0) (o4 : o.n = 0)
  (hx : st.eval x = .nils) (hzs : z.cells.size = s) (hy : Src st y m s news)
  (hb : m * by_ <= 140737488355328) (hl : m <= LEN)
  (hk : SL P L Q ((st.on ((st.heap.addAt st.heap.next o).set ⟨st.heap.next, []⟩ (o.app m news))).put d (.sref ⟨st.heap.next, []⟩ (o.ver + 1) 0 (o.n + m)))) :
  SL P (⟨d, .call { callee := .builtin .append, args := #[x, y], argTypes := #[t, t] }, ty, none⟩ :: L) Q st :=
 SL.value rfl fun E ι F a w r => by
  subst o1
  obtain ⟨r1, x1⟩ := r.h.virt ⟨st.heap.next, []⟩ o (st.heap.addAt st.heap.next o) (fun i => by simp only [Heap.addAt]; exact beq_if _ _ _ _) (fun i hi => (by simp only [Heap.addAt] at hi; exact ⟨fun e => by subst e; simp at hi; omega, by omega⟩)) rfl o4
   (by rw [r.h.next _ (Nat.le_refl _)]; trivial)
  have hxv : a.eval x = .slice none 0 0 := by have := r.eval x; rw [hx] at this; exact this
  obtain ⟨B, c, g1, g2, g3⟩ := hy E ι F a w r
  have ho : (st.heap.addAt st.heap.next o).slot ⟨st.heap.next, []⟩ = .live o := by simp only [Heap.addAt, Id.beq_refl, cond_true]
  obtain ⟨A', cap', w', ι', q1, q2, q3, q4⟩ := r1.append (P := P) (t := t) (ty' := ty) (s := s) (by_ := by_) (z := z) hzs ho o2 rfl (A := none) (cap := 0) (Nat.le_of_eq o4) (fun hc => absurd hc (Nat.lt_irrefl _)) g2 (fun hm => by
   obtain ⟨ad, k1, k2⟩ := g3 hm
   exact ⟨ad, k1, fun i hi j hj => by
    obtain ⟨v, v1, v2, v3⟩ := k2 i hi j hj
    exact ⟨v, v1, v2, x1 _ _ v3⟩⟩) (by rw [o4, Nat.zero_add]; exact hb) (by rw [o4]; omega)
  have q1 : (Builtin.append_ #[t, t] ty #[.slice none 0 0, .slice B m c]).run P w = .ok (.slice A' (o.n + m) cap') w' := by rw [<- q1, o4]
  exact ⟨_, w', ι', F, _, _, by simp [execOp, GOp.oper, resolve, invoke, builtin, hxv, g1, q1], q2, x1.trans q3, q4, hk⟩
end Go.Abs
namespace Go.Abs
open Go
noncomputable section
variable {P : Program} {d : Option Tmp} {ty : TypeId} {L : List GOp} {ρ : Type}
theorem V.cell_born (H : Heap) (v : Value) : Born H (V.cell v) := by
 unfold V.cell
 split <;> first | trivial | (generalize Nat.ble _ _ = b; cases b <;> trivial)
section
variable [SU] [Codes] {Q : Exit -> ESt -> Prop}
class TyE (P : Program) [Tys P] where
 c : TypeId -> Option Ty
 fro : ∀ t τ, c t = some τ -> froT τ = true
 zero : ∀ t τ z, c t = some τ -> (Tys.c P t).zero = some z -> τ.sz = z.cells.size /\ ∀ j, j < τ.sz -> ∃ u, cellC τ τ.z j = .ev u /\ ∀ len, Wk (V.cell (z.cells.getD j undef)) (toV len u)
 o : TypeId -> Option Ty
 ozero : ∀ t τ z, o t = some τ -> (Tys.c P t).zero = some z -> τ.sz = z.cells.size /\ ∀ j, j < τ.sz -> (∃ u, cellC τ τ.z j = .ev u /\ ∀ len, Wk (V.cell (z.cells.getD j undef)) (toV len u)) \/ ∃ t' e', cellC τ τ.z j = .own t' e' [] /\ V.cell (z.cells.getD j undef) = .nils
def EV.one : EV -> Bool
 | .un => false
 | .und => false
 | .agg _ => false
 | .tup _ => false
 | .st _ _ => false
 | _ => true
theorem EV.one_toV {len : Len} {u : EV} (h : u.one = true) : (toV len u).one = true := by
 cases u <;> first
  | (cases h; done)
  | rfl
  | (rename_i id p; simp only [toV]; cases len id p <;> rfl)
theorem evCell_ne (v : Value) (l : List EV) : evCell v ≠ .agg l := by
 unfold evCell
 split <;> try (intro h; cases h; done)
 rename_i x
 cases h : Nat.ble x.size 9223372036854775807 <;> simp only [h, cond_true, cond_false] <;> intro h <;> cases h
theorem evCell_ne' (v : Value) (f : FuncId) (l : List EV) : evCell v ≠ .fn f l := by
 unfold evCell
 split <;> try (intro h; cases h; done)
 rename_i x
 cases h : Nat.ble x.size 9223372036854775807 <;> simp only [h, cond_true, cond_false] <;> intro h <;> cases h
theorem evOf_cases (v : Value) : (∃ cs, v = .agg cs) \/ evOf v = evCell v := by
 cases v <;> first | exact .inl ⟨_, rfl⟩ | exact .inr rfl
theorem tmp_eq {s : ESt} {x : Operand} {l : List EV} (h : s.eval x = .agg l) : ∃ g, (toSt s).eval x = .agg l.length g /\ ∀ j, j < l.length -> Wk (g j) (toVs s.heap.len l j) := by
 have hw := s.eval_wk x
 rw [h] at hw
 simp only [toV] at hw
 cases x with
 | tmp t =>
  refine ⟨toVs s.heap.len l, ?_, fun j hj => Wk.refl _⟩
  have : (toSt s).eval (.tmp t) = toV s.heap.len (s.eval (.tmp t)) := rfl
  rw [this, h]; simp only [toV]
 | const v =>
  rcases evOf_cases v with ⟨cs, rfl⟩ | e
  ·simp only [ESt.eval, evOf] at h
   cases ha : cs.all (·.oneCell') with
   | false => rw [ha] at h; cases h
   | true =>
    rw [ha] at h
    simp only [cond_true] at h
    injection h with h
    subst h
    refine ⟨fun j => V.cell (cs.getD j undef), ?_, fun j hj => Wk.of_eq ?_⟩
    ·simp only [St.eval, V.ofValue, ha, cond_true, List.length_map, Array.length_toList]
    ·simp only [List.length_map, Array.length_toList] at hj
     rw [toVs_eq]
     simp [List.getD_eq_getElem?_getD, hj, Array.getD_eq_getD_getElem?, evCell_eq]
  ·simp only [ESt.eval] at h
   rw [e] at h
   exact (evCell_ne v l h).elim
 | global g => cases h
 | func f => cases h
theorem one_eq {s : ESt} {x : Operand} (h : (s.eval x).one = true) : ∃ u, (toSt s).eval x = u /\ u.one = true /\ Wk u (toV s.heap.len (s.eval x)) := by
 refine ⟨_, rfl, ?_, s.eval_wk x⟩
 cases hx : (s.eval x).isAgg with
 | false => rw [eval_eq rfl hx]; exact EV.one_toV h
 | true =>
  cases x with
  | tmp t => exact EV.one_toV (len := s.heap.len) h
  | const v =>
   exfalso
   simp only [ESt.eval] at h hx
   rcases evOf_cases v with ⟨cs, rfl⟩ | e
   ·simp only [evOf] at h
    cases ha : cs.all (·.oneCell') <;> rw [ha] at h <;> cases h
   ·rw [e] at hx h
    cases hv : evCell v with
    | agg l => exact evCell_ne v l hv
    | fn f l => exact evCell_ne' v f l hv
    | _ => rw [hv] at hx; cases hx
  | global g => cases h
  | func f => rfl
def boxO (e : TypeId) (τo : Option Ty) (u : EV) (K : OD -> Option ρ) : Option ρ := match u with
 | .st i v => bif Codes.fro i then K (.lst ⟨e, .st i, [v]⟩) else none
 | .agg l => match τo with
  | some (.st i) => match Codes.make i l with
   | some y => bif Codes.fro i then K (.lst ⟨e, .st i, [y]⟩) else K (.cells e l)
   | none => K (.cells e l)
  | _ => K (.cells e l)
 | u => bif u.one then K (.cells e [u]) else none
def newO (s : ESt) (d : Option Tmp) (u : Nat -> EV) (K : ESt -> Option ρ) (o : OD) : Option ρ := litO s.heap.next fun id => K ((s.on (s.heap.add id o)).put d (u id))
theorem newO_eq (s : ESt) (d : Option Tmp) (u : Nat -> EV) (K : ESt -> Option ρ) (o : OD) : newO s d u K o = K ((s.on (s.heap.add s.heap.next o)).put d (u s.heap.next)) := litO_eq _ _
theorem slot_box {len : Len} {k : Nat} {e : TypeId} {i : Nat} {v : SU.D i} : (OD.lst ⟨e, .st i, [v]⟩).slot len k [] = .live { elem := e, sz := SU.sz i, ver := 0, n := 1, get := fun r c => cellV len k [] r c (cellC (.st i) (LV.row ⟨e, .st i, [v]⟩ r) c) } := by
 simp only [OD.slot, LV.at_nil]; rfl
theorem box_flat {e : TypeId} {i : Nat} {v : SU.D i} (h : Codes.fro i = true) : (OD.lst ⟨e, .st i, [v]⟩).flat = true := h
theorem boxSt_sim {len : Len} {k : Nat} {e : TypeId} {i : Nat} {v : SU.D i} {g : Nat -> V} (hg : ∀ j, j < SU.sz i -> ∃ u, Codes.cell i v j = .ev u /\ Wk (g j) (toV len u)) :
  ∃ a', (OD.lst ⟨e, .st i, [v]⟩).slot len k [] = .live a' /\ a'.ver = 0 /\ a'.elem = e /\ a'.sz = SU.sz i /\ a'.n = 1 /\ ∀ r, r < 1 -> ∀ c, c < SU.sz i -> Wk (g c) (a'.get r c) := by
 refine ⟨_, slot_box, rfl, rfl, rfl, rfl, fun r hr c hc => ?_⟩
 obtain rfl : r = 0 := by omega
 obtain ⟨u, e1, e2⟩ := hg c hc
 show Wk (g c) (cellV len k [] 0 c (cellC (.st i) v c))
 simp only [cellC, e1, cellV]
 exact e2
theorem boxO_ok [T : Tys P] [TyE P] {s : ESt} {e : TypeId} {x : Operand} {K : ESt -> Option ρ} {res : ρ} (hK : ∀ s', K s' = some res -> SLT P L Q s')
  (h : boxO e (TyE.c P e) (s.eval x) (newO s d (fun id => .ptr id [] 0 0) K) = some res) : SLT P (⟨d, .box e x, ty, none⟩ :: L) Q s := by
 refine ⟨SL.fair fun hf => ?_⟩
 unfold boxO at h
 split at h
 ·rename_i i v hx
  have hx := eval_eq hx rfl
  simp only [toV] at hx
  obtain ⟨h1, h⟩ := bif_none h
  rw [newO_eq] at h
  obtain ⟨a', q1, q2, q3, q4, q5, q6⟩ := boxSt_sim (len := (s.heap.add s.heap.next (.lst ⟨e, .st i, [v]⟩)).len) (k := s.heap.next) (e := e) (v := v) (g := fun j => .t (SU.enc i v j)) (fun j hj => by
   obtain ⟨u, e1, e2⟩ := Codes.cell_ok i v j h1
   exact ⟨u, e1, Wk.of_eq (e2 hj _).symm⟩)
  refine SL.boxA' _ rfl hx (SL.weak (weak_add (a := V.boxed e (SU.sz i) (fun j => .t (SU.enc i v j))) (u := .ptr s.heap.next [] 0 0) hf (box_flat h1) q1 q2 q3 q4 q5 q6 d (fun _ => ?_)) (hK _ h).out)
  simp only [toV]; exact Wk.refl _
 ·rename_i l hx
  obtain ⟨g, hg, hw⟩ := tmp_eq hx
  have fall : newO s d (fun id => .ptr id [] 0 0) K (.cells e l) = some res -> SL P (⟨d, .box e x, ty, none⟩ :: L) (liftQ Q) (toSt s) := fun h => by
   rw [newO_eq] at h
   have hlen : ∀ id p, (toH s.heap).slot ⟨id, p⟩ ≠ .unborn -> (s.heap.add s.heap.next (.cells e l)).len id p = s.heap.len id p := fun id p hb => by
    have : id ≠ s.heap.next := fun e => hb (hf.next ⟨id, p⟩ (by rw [e]; exact Nat.le_refl _))
    exact EHeap.len_obj (EHeap.add_ne this) p
   have hb : ∀ j, j < l.length -> Born (toH s.heap) (toVs s.heap.len l j) := fun j hj => by
    cases x with
    | tmp t =>
     have := hf.env t
     have hx : s.env t = .agg l := hx
     rw [hx] at this
     simp only [toV] at this
     exact this j hj
    | const v =>
     rcases evOf_cases v with ⟨cs, rfl⟩ | e
     ·simp only [ESt.eval, evOf] at hx
      cases ha : cs.all (·.oneCell') with
      | false => rw [ha] at hx; cases hx
      | true =>
       rw [ha] at hx
       simp only [cond_true] at hx
       injection hx with hx
       subst hx
       rw [toVs_eq]
       simp only [List.length_map, Array.length_toList] at hj
       simp only [List.getD_eq_getElem?_getD, List.getElem?_map, Array.getElem?_toList, Array.getElem?_eq_getElem hj, Option.map_some, Option.getD_some]
       rw [evCell_eq]
       exact V.cell_born _ _
     ·simp only [ESt.eval] at hx
      rw [e] at hx
      exact (evCell_ne v l hx).elim
    | global g => cases hx
    | func f => cases hx
   refine SL.boxA' _ rfl hg (SL.weak (weak_add (a := V.boxed e l.length g) (o := .cells e l) (u := .ptr s.heap.next [] 0 0) hf rfl rfl rfl rfl rfl rfl (fun r hr c hc => ?_) d (fun _ => ?_)) (hK _ h).out)
   ·have hc : c < l.length := hc
    show Wk (g c) (toVs _ l c)
    rw [toVs_len hlen l hb]
    exact hw c hc
   ·simp only [toV]; exact Wk.refl _
  split at h
  ·split at h
   ·rename_i i hi _ y hy
    cases h1 : Codes.fro i with
    | false => rw [h1] at h; exact fall h
    | true =>
     rw [h1] at h
     simp only [cond_true] at h
     rw [newO_eq] at h
     obtain ⟨m1, m2⟩ := Codes.make_ok _ _ _ hy
     obtain ⟨a', q1, q2, q3, q4, q5, q6⟩ := boxSt_sim (len := (s.heap.add s.heap.next (.lst ⟨e, .st i, [y]⟩)).len) (k := s.heap.next) (e := e) (v := y) (g := g) (fun j hj => by
      obtain ⟨u, e1, e2⟩ := m2 j hj
      obtain ⟨u', e1', e3⟩ := Codes.cell_ok i y j h1
      rw [e1] at e1'
      injection e1' with e1'
      subst e1'
      exact ⟨u, e1, (hw j (by omega)).trans ((e2 _).trans (Wk.of_eq ((e3 hj _).trans (e3 hj _).symm)))⟩)
     refine SL.boxA' _ rfl hg (SL.weak (weak_add (a := V.boxed e l.length g) (u := .ptr s.heap.next [] 0 0) hf (box_flat h1) q1 q2 q3 (q4.trans m1.symm) q5 (fun r hr c hc => q6 r hr c (by have hc : c < l.length := hc; omega)) d (fun _ => ?_)) (hK _ h).out)
     simp only [toV]; exact Wk.refl _
   ·exact fall h
  ·exact fall h
 ·rename_i hne1 hne2
  obtain ⟨h1, h⟩ := bif_none h
  rw [newO_eq] at h
  obtain ⟨u, hu1, hu2, hu3⟩ := one_eq h1
  have hb : Born (toH s.heap) (toV s.heap.len (s.eval x)) := by
   cases x with
   | tmp t => exact hf.env t
   | const v =>
    show Born _ (toV _ (evOf v))
    rcases evOf_cases v with ⟨cs, rfl⟩ | e
    ·simp only [ESt.eval, evOf] at h1
     cases ha : cs.all (·.oneCell') <;> rw [ha] at h1 <;> cases h1
    ·rw [e, evCell_eq]
     exact V.cell_born _ _
   | global g => cases h1
   | func f => simp only [ESt.eval, toV]; intro j hj; exact absurd hj (Nat.not_lt_zero _)
  have hlen : ∀ id p, (toH s.heap).slot ⟨id, p⟩ ≠ .unborn -> (s.heap.add s.heap.next (.cells e [s.eval x])).len id p = s.heap.len id p := fun id p hb => by
   have : id ≠ s.heap.next := fun e => hb (hf.next ⟨id, p⟩ (by rw [e]; exact Nat.le_refl _))
   exact EHeap.len_obj (EHeap.add_ne this) p
  refine SL.box1' _ rfl hu1 hu2 (SL.weak (weak_add (a := V.boxed e 1 (fun _ => u)) (o := .cells e [s.eval x]) (u := .ptr s.heap.next [] 0 0) hf rfl rfl rfl rfl rfl rfl (fun r hr c hc => ?_) d (fun _ => ?_)) (hK _ h).out)
  ·have hc : c < 1 := hc
   obtain rfl : c = 0 := by omega
   show Wk u (toVs _ [s.eval x] 0)
   simp only [toVs]
   rw [toV_len hlen _ hb]
   exact hu3
  ·simp only [toV]; exact Wk.refl _
def allocO (P : Program) [Tys P] [TyE P] (e : TypeId) (K : OD -> Option ρ) : Option ρ := match (Tys.c P e).zero with
 | some z => match TyE.c P e with
  | some (.st i) => K (.lst ⟨e, .st i, [SU.z i]⟩)
  | _ => K (.cells e (z.cells.toList.map evCell))
 | none => none
theorem allocO_ok [T : Tys P] [TE : TyE P] {s : ESt} {e : TypeId} {K : ESt -> Option ρ} {res : ρ} (hK : ∀ s', K s' = some res -> SLT P L Q s')
  (h : allocO P e (newO s d (fun id => .ptr id [] 0 0) K) = some res) : SLT P (⟨d, .alloc e, ty, none⟩ :: L) Q s := by
 refine ⟨SL.fair fun hf => ?_⟩
 unfold allocO at h
 split at h
 ·rename_i z hz
  have := (T.ok _).zero _ hz
  have fall : newO s d (fun id => .ptr id [] 0 0) K (.cells e (z.cells.toList.map evCell)) = some res -> SL P (⟨d, .alloc e, ty, none⟩ :: L) (liftQ Q) (toSt s) := fun h => by
   rw [newO_eq] at h
   refine SL.alloc' _ rfl (SL.weak (weak_add (a := V.boxed e z.cells.size (fun j => V.cell (z.cells.getD j undef))) (o := .cells e (z.cells.toList.map evCell)) (u := .ptr s.heap.next [] 0 0) hf rfl rfl rfl rfl (by simp [V.boxed]) rfl (fun r hr c hc => ?_) d (fun _ => ?_)) (hK _ h).out)
   ·have hc : c < z.cells.size := hc
    show Wk (V.cell (z.cells.getD c undef)) (toVs _ (z.cells.toList.map evCell) c)
    rw [toVs_eq]
    refine Wk.of_eq ?_
    simp [List.getD_eq_getElem?_getD, hc, Array.getD_eq_getD_getElem?, evCell_eq]
   ·simp only [toV]; exact Wk.refl _
  split at h
  ·rename_i i hτ
   rw [newO_eq] at h
   have h1 := TE.fro e _ hτ
   obtain ⟨z1, z2⟩ := TE.zero e _ z hτ hz
   obtain ⟨a', q1, q2, q3, q4, q5, q6⟩ := boxSt_sim (len := (s.heap.add s.heap.next (.lst ⟨e, .st i, [SU.z i]⟩)).len) (k := s.heap.next) (e := e) (v := SU.z i) (g := fun j => V.cell (z.cells.getD j undef)) (fun j hj => by
    obtain ⟨u, e1, e2⟩ := z2 j hj
    exact ⟨u, e1, e2 _⟩)
   refine SL.alloc' _ rfl (SL.weak (weak_add (a := V.boxed e z.cells.size (fun j => V.cell (z.cells.getD j undef))) (u := .ptr s.heap.next [] 0 0) hf (box_flat h1) q1 q2 q3 (q4.trans (show SU.sz i = z.cells.size from z1)) q5 (fun r hr c hc => q6 r hr c (by have hc : c < z.cells.size := hc; have z1 : SU.sz i = z.cells.size := z1; omega)) d (fun _ => ?_)) (hK _ h).out)
   simp only [toV]; exact Wk.refl _
  ·exact fall h
 ·cases h
end
end
end Go.Abs
namespace Go.Abs
open Go
noncomputable section
variable {P : Program} {d : Option Tmp} {ty : TypeId} {L : List GOp} {ρ : Type}
section
variable [SU] [Codes] {Q : Exit -> ESt -> Prop}
def rowOf (τ : Ty) (u : EV) : Option τ.D := match τ, u with
 | .st i', .st i v => bif Codes.fro i then castN SU.D i i' v else none
 | .st i, .agg l => Codes.make i l
 | .st _, _ => none
 | τ, u => bif u.one then setC τ τ.z 0 u else none
theorem rowOf_ok {len : Len} {τ : Ty} {u : EV} {y : τ.D} (h : rowOf τ u = some y) : (toV len u).rowOk τ.sz = true /\ ∀ j, j < τ.sz -> ∃ u', cellC τ y j = .ev u' /\ ∀ len', Wk ((toV len u).row j) (toV len' u') := by
 have flat : τ.isSt = false -> (bif u.one then setC τ τ.z 0 u else none) = some y -> (toV len u).rowOk τ.sz = true /\ ∀ j, j < τ.sz -> ∃ u', cellC τ y j = .ev u' /\ ∀ len', Wk ((toV len u).row j) (toV len' u') := fun hs h => by
  have hz := sz1 hs
  obtain ⟨ho, h⟩ := bif_none h
  have h1 := EV.one_toV (len := len) ho
  refine ⟨?_, fun j hj => ?_⟩
  ·rw [hz]
   cases hv : toV len u <;> rw [hv] at h1 <;> first | rfl | (cases h1; done) | (simp only [V.rowOk, h1]; rfl)
  ·obtain ⟨_, ⟨u', e1, e2⟩, _⟩ := setC_ok τ τ.z 0 u y h
   obtain rfl : j = 0 := by omega
   refine ⟨u', e1, fun len' => ?_⟩
   have e : (toV len u).row 0 = toV len u := by
    cases hv : toV len u <;> rw [hv] at h1 <;> first | rfl | (cases h1; done)
   rw [e, <- EV.dat_len (cellC_dat _ _ _ _ e1) len len']; exact e2 len
 cases τ with
 | st i =>
  cases u <;> simp only [rowOf] at h <;> try (cases h; done)
  ·rename_i i' v
   obtain ⟨hf, h⟩ := bif_none h
   obtain ⟨e, h⟩ := castN_ok _ _ _ _ _ h
   subst e
   obtain rfl := eq_of_heq h
   refine ⟨by simp only [toV, V.rowOk, Ty.sz, Nat.beq_refl], fun j hj => ?_⟩
   obtain ⟨u', e1, e2⟩ := Codes.cell_ok i' v j hf
   refine ⟨u', e1, fun len' => ?_⟩
   simp only [toV, V.row]
   exact Wk.of_eq (e2 hj _).symm
  ·rename_i l
   obtain ⟨m1, m2⟩ := Codes.make_ok _ _ _ h
   refine ⟨by simp only [toV, V.rowOk, Ty.sz, m1, Nat.beq_refl], fun j hj => ?_⟩
   obtain ⟨u', e1, e2⟩ := m2 j hj
   refine ⟨u', e1, fun len' => ?_⟩
   simp only [toV, V.row]
   rw [<- EV.dat_len (cellC_dat (.st i) y _ _ e1) len len']; exact e2 len
 | bool => exact flat rfl h
 | int k => exact flat rfl h
 | str => exact flat rfl h
 | sl e => exact flat rfl h
 | ol t e => exact flat rfl h
def rowsOf (τ : Ty) : List EV -> Option (List τ.D)
 | [] => some []
 | u :: l => match rowOf τ u, rowsOf τ l with
  | some y, some m => some (y :: m)
  | _, _ => none
theorem rowsOf_ok {τ : Ty} : ∀ {l : List EV} {m : List τ.D}, rowsOf τ l = some m -> m.length = l.length /\ ∀ i, i < l.length -> rowOf τ (l.getD i .un) = some (m.getD i τ.z)
 | [], m, h => by simp only [rowsOf] at h; injection h with h; subst h; exact ⟨rfl, fun i hi => absurd hi (Nat.not_lt_zero _)⟩
 | u :: l, m, h => by
  simp only [rowsOf] at h
  split at h
  ·rename_i y k h1 h2
   injection h with h
   subst h
   obtain ⟨i1, i2⟩ := rowsOf_ok h2
   refine ⟨by simp [i1], fun i hi => ?_⟩
   cases i with
   | zero => simpa using h1
   | succ i => simpa using i2 i (by simpa using hi)
  ·cases h
def okParts : List (Nat × Operand) -> Nat -> Nat -> Bool
 | [], k, n => Nat.beq k n
 | (i, _) :: l, k, n => Nat.beq i k && okParts l (k + 1) n
theorem okParts_out : ∀ {l : List (Nat × Operand)} {k n : Nat}, okParts l k n = true -> n = k + l.length /\ l = ((l.map (·.2)).zipIdx k).map fun p => (p.2, p.1)
 | [], k, n, h => ⟨by have := natBeq h; simp; omega, rfl⟩
 | (i, x) :: l, k, n, h => by
  simp only [okParts, Bool.and_eq_true] at h
  obtain rfl := natBeq h.1
  obtain ⟨h1, h2⟩ := okParts_out h.2
  refine ⟨by simp; omega, ?_⟩
  simp only [List.map_cons, List.zipIdx_cons]
  congr 1
theorem okParts_eq {A : Array (Nat × Operand)} {n : Nat} (h : okParts A.toList 0 n = true) : n = (A.toList.map (·.2)).length /\ A = partsOf (A.toList.map (·.2)) := by
 obtain ⟨h1, h2⟩ := okParts_out h
 refine ⟨by simpa using h1, ?_⟩
 unfold partsOf
 rw [<- h2]
def forceO (s : ESt) : List Operand -> (List EV -> Option ρ) -> Option ρ
 | [], K => K []
 | x :: l, K => fE (s.eval x) fun u => forceO s l fun m => K (u :: m)
theorem forceO_eq (s : ESt) : ∀ (l : List Operand) (K : List EV -> Option ρ), forceO s l K = K (l.map s.eval)
 | [], K => rfl
 | x :: l, K => by simp only [forceO, fE_eq, List.map_cons]; exact forceO_eq s l _
def noConst : List Operand -> Bool
 | [] => true
 | .const (.agg _) :: _ => false
 | .func _ :: _ => false
 | _ :: l => noConst l
theorem noConst_cons {x : Operand} {l : List Operand} (h : noConst (x :: l) = true) : noConst l = true /\ ∀ s : ESt, (toSt s).eval x = toV s.heap.len (s.eval x) := by
 cases x with
 | tmp t => exact ⟨h, fun s => rfl⟩
 | const v =>
  have hv : ∀ cs, v ≠ .agg cs := fun cs e => by subst e; cases h
  refine ⟨by cases v <;> first | exact h | exact absurd rfl (hv _), fun s => ?_⟩
  show V.ofValue v = toV _ (evOf v)
  rcases evOf_cases v with ⟨cs, rfl⟩ | e
  ·exact absurd rfl (hv cs)
  ·rw [e, evCell_eq]
   unfold V.ofValue
   split
   ·rename_i cs; exact absurd rfl (hv cs)
   ·rfl
 | global g => exact ⟨h, fun s => by simp only [St.eval, ESt.eval, toV]⟩
 | func f => cases h
theorem evals_eq {s : ESt} : ∀ {l : List Operand}, noConst l = true -> l.map (toSt s).eval = (l.map s.eval).map (toV s.heap.len)
 | [], _ => rfl
 | x :: l, h => by
  obtain ⟨h1, h2⟩ := noConst_cons h
  simp only [List.map_cons, h2 s, evals_eq h1]
theorem slot_flatLst {len : Len} {k : Nat} {v : LV} : (OD.lst v).slot len k [] = .live (v.obj len k []) := by simp only [OD.slot, LV.at_nil]
def buildO (P : Program) [Tys P] [TyE P] (s : ESt) (t n : Nat) (A : Array (Nat × Operand)) (K : OD -> Option ρ) : Option ρ := match (Tys.c P t).sl with
 | some (e, sz, _) => match TyE.c P e, (Tys.c P e).zero with
  | some τ, some z => bif Nat.beq τ.sz sz && Nat.beq z.cells.size sz && Nat.blt 0 sz && okParts A.toList 0 n && Nat.ble (n * sz) 16777216 && noConst (A.toList.map (·.2)) then
    forceO s (A.toList.map (·.2)) fun us => match rowsOf τ us with
     | some m => K (.lst ⟨e, τ, m⟩)
     | none => none else none
  | _, _ => none
 | none => none
theorem sfull_new {s : ESt} {v : LV} : toV (s.heap.add s.heap.next (.lst v)).len (.sfull s.heap.next []) = .sref ⟨s.heap.next, []⟩ 0 0 v.l.length := by
 have : (s.heap.add s.heap.next (.lst v)).at s.heap.next [] = some v := by
  simp only [EHeap.at, EHeap.add, Nat.beq_refl, cond_true, LV.at_nil]
 simp only [toV, EHeap.len_at this]
theorem buildO_ok [T : Tys P] [TE : TyE P] {s : ESt} {t n : Nat} {A : Array (Nat × Operand)} {K : ESt -> Option ρ} {res : ρ} (hK : ∀ s', K s' = some res -> SLT P L Q s')
  (h : buildO P s t n A (newO s d (fun id => .sfull id []) K) = some res) : SLT P (⟨d, .buildSlice t n A, ty, none⟩ :: L) Q s := by
 refine ⟨SL.fair fun hf => ?_⟩
 unfold buildO at h
 split at h
 ·rename_i e sz by_ hsl
  have ht := (T.ok t).sl _ _ _ hsl
  split at h
  ·rename_i τ z hτ hz
   have hzz := (T.ok e).zero _ hz
   have hh := bif_none h
   clear h
   obtain ⟨hb, h⟩ := hh
   simp only [Bool.and_eq_true] at hb
   obtain ⟨⟨⟨⟨⟨b1, b2⟩, b3⟩, b4⟩, b5⟩, b6⟩ := hb
   obtain rfl := natBeq b1
   rw [forceO_eq] at h
   split at h
   ·rename_i m hm
    obtain ⟨r1, r2⟩ := rowsOf_ok hm
    obtain ⟨hn, hA⟩ := okParts_eq b4
    subst hn
    suffices h' : SL P (⟨d, .buildSlice t (A.toList.map (·.2)).length (partsOf (A.toList.map (·.2))), ty, none⟩ :: L) (liftQ Q) (toSt s) by rw [<- hA] at h'; exact h'
    have hev := evals_eq (s := s) b6
    rw [newO_eq] at h
    simp only [List.length_map] at r1
    have hrow : ∀ i, i < (A.toList.map (·.2)).length -> rowOf τ (((A.toList.map (·.2)).map s.eval).getD i .un) = some (m.getD i τ.z) := fun i hi => r2 i (by simpa using hi)
    refine SL.buildS (P := P) (t := t) (by_ := by_) (e := e) (z := z) (natBeq b2) hev (fun u hu => ?_) (Nat.le_of_ble_eq_true b3) (Nat.le_of_ble_eq_true b5)
     (SL.weak (weak_add (a := { elem := e, sz := τ.sz, ver := 0, n := (A.toList.map (·.2)).length, get := fun i j => ((((A.toList.map (·.2)).map s.eval).map (toV s.heap.len)).getD i .un).row j }) (o := .lst ⟨e, τ, m⟩) (u := .sfull s.heap.next []) hf (TE.fro e τ hτ) slot_flatLst rfl rfl rfl (show m.length = (A.toList.map (·.2)).length by rw [List.length_map]; exact r1) (fun i hi j hj => ?_) d (fun _ => ?_)) (hK _ h).out)
    ·obtain ⟨x, hx, rfl⟩ := List.mem_map.1 hu
     obtain ⟨i, hi, rfl⟩ := List.getElem_of_mem hx
     have hi' : i < (A.toList.map (·.2)).length := by simpa using hi
     have := (rowOf_ok (len := s.heap.len) (hrow i hi')).1
     rwa [List.getD_eq_getElem?_getD, List.getElem?_eq_getElem hi] at this
    ·have hi : i < (A.toList.map (·.2)).length := hi
     obtain ⟨u', e1, e2⟩ := (rowOf_ok (len := s.heap.len) (hrow i hi)).2 j hj
     show Wk _ (cellV _ _ _ i j (cellC τ (LV.row ⟨e, τ, m⟩ i) j))
     have e3 : cellC τ (LV.row ⟨e, τ, m⟩ i) j = .ev u' := e1
     rw [e3]
     have e4 : toV s.heap.len (((A.toList.map (·.2)).map s.eval).getD i .un) = ((((A.toList.map (·.2)).map s.eval).map (toV s.heap.len)).getD i .un) := by
      simp only [List.getD_eq_getElem?_getD, List.getElem?_map]
      cases A.toList[i]? <;> simp [toV]
     rw [e4] at e2
     exact e2 _
    ·have e5 : m.length = (A.toList.map (·.2)).length := by simpa using r1
     rw [sfull_new]
     show Wk _ (V.sref _ 0 0 m.length)
     rw [e5]; exact Wk.refl _
   ·cases h
  ·cases h
 ·cases h
def makeO (P : Program) [Tys P] [TyE P] (s : ESt) (t : Nat) (x y : Operand) (K : OD -> Option ρ) : Option ρ := match (Tys.c P t).sl with
 | some (e, sz, by_) => match TyE.c P e, (Tys.c P e).zero with
  | some τ, some z => bif Nat.beq τ.sz sz && Nat.beq z.cells.size sz && Nat.blt 0 sz then (match s.eval x, s.eval y with
   | .i _ m, .i _ m' => grd (okB (m' = m /\ 0 <= m /\ m * (by_ : Int) <= 140737488355328 /\ m <= 281474976710656)) (K (.lst ⟨e, τ, List.replicate m.toNat τ.z⟩))
   | _, _ => none) else none
  | _, _ => none
 | none => none
theorem makeO_ok [T : Tys P] [TE : TyE P] {s : ESt} {t : Nat} {x y : Operand} {K : ESt -> Option ρ} {res : ρ} (hK : ∀ s', K s' = some res -> SLT P L Q s')
  (h : makeO P s t x y (newO s d (fun id => .sfull id []) K) = some res) : SLT P (⟨d, .makeSlice t x y, ty, none⟩ :: L) Q s := by
 refine ⟨SL.fair fun hf => ?_⟩
 unfold makeO at h
 split at h
 ·rename_i e sz by_ hsl
  have ht := (T.ok t).sl _ _ _ hsl
  split at h
  ·rename_i τ z hτ hz
   have hzz := (T.ok e).zero _ hz
   have hh := bif_none h
   clear h
   obtain ⟨hb, h⟩ := hh
   simp only [Bool.and_eq_true] at hb
   obtain ⟨⟨b1, b2⟩, b3⟩ := hb
   obtain rfl := natBeq b1
   split at h
   ·rename_i m _ m' hx hy
    have hx := eval_eq hx rfl
    have hy := eval_eq hy rfl
    simp only [toV] at hx hy
    obtain ⟨hp, h⟩ := grd_out h
    obtain ⟨rfl, p1, p2, p3⟩ := okB_out hp
    obtain ⟨n, hn⟩ := Int.eq_ofNat_of_zero_le p1
    subst hn
    rw [newO_eq] at h
    simp only [Int.toNat_natCast] at h
    obtain ⟨z1, z2⟩ := TE.zero e τ z hτ hz
    refine SL.makeS (P := P) (t := t) (by_ := by_) (e := e) (z := z) (natBeq b2) hx hy rfl (Nat.le_of_ble_eq_true b3) (Int.ofNat_le.1 (by rw [Int.natCast_mul]; exact p2)) (show n <= 281474976710656 by omega)
     (SL.weak (weak_add (a := { elem := e, sz := τ.sz, ver := 0, n := n, get := fun _ j => V.cell (z.cells.getD j undef) }) (o := .lst ⟨e, τ, List.replicate n τ.z⟩) (u := .sfull s.heap.next []) hf (TE.fro e τ hτ) slot_flatLst rfl rfl rfl (by simp [LV.obj]) (fun i hi j hj => ?_) d (fun _ => ?_)) (hK _ h).out)
    ·have hi : i < n := hi
     have e1 : LV.row ⟨e, τ, List.replicate n τ.z⟩ i = τ.z := by simp [LV.row, List.getD_eq_getElem?_getD, hi]
     obtain ⟨u, e2, e3⟩ := z2 j hj
     show Wk _ (cellV _ _ _ i j (cellC τ (LV.row ⟨e, τ, List.replicate n τ.z⟩ i) j))
     rw [e1, e2]; exact e3 _
    ·rw [sfull_new]; simp only [List.length_replicate]; exact Wk.refl _
   ·cases h
  ·cases h
 ·cases h
mutual
def scrub (f : Nat -> List Nat -> Option EV) : EV -> EV
 | .ptr k p r c => match f k p with
  | none => .ptr k p r c
  | some _ => .un
 | .sref k p r n => match f k p with
  | none => .sref k p r n
  | some _ => .un
 | .sfull k p => match f k p with
  | none => .sfull k p
  | some u => u
 | .mref k => match f k [] with
  | none => .mref k
  | some _ => .un
 | .agg l => .agg (scrubs f l)
 | .tup l => .tup (scrubs f l)
 | .fn g l => .fn g (scrubs f l)
 | .un => .un
 | .und => .und
 | .b x => .b x
 | .i k n => .i k n
 | .s x => .s x
 | .fz τ l => .fz τ l
 | .fp τ x c => .fp τ x c
 | .st i x => .st i x
 | .nils => .nils
 | .nilp => .nilp
 | .nilm => .nilm
 | .nilf => .nilf
 | .nili => .nili
def scrubs (f : Nat -> List Nat -> Option EV) : List EV -> List EV
 | [] => []
 | a :: l => scrub f a :: scrubs f l
end
theorem scrubs_len (f : Nat -> List Nat -> Option EV) : ∀ l : List EV, (scrubs f l).length = l.length
 | [] => rfl
 | a :: l => by simp [scrubs, scrubs_len f l]
structure ScrubOk (f : Nat -> List Nat -> Option EV) (H : EHeap) (H1 : Heap) (H' : EHeap) (m : Id -> Option Id) (Z : Id -> Prop) : Prop where
 rep : ∀ id p u, f id p = some u -> KG H1 (toH H') m Z (toV H.len (.sfull id p)) (toV H'.len u)
 slot : ∀ id p, f id p = none -> (toH H).slot ⟨id, p⟩ ≠ .unborn -> (toH H').slot ⟨id, p⟩ = .dead \/ (SlotLike (H1.slot ⟨id, p⟩) ((toH H').slot ⟨id, p⟩) /\ m ⟨id, p⟩ = some ⟨id, p⟩)
 len : ∀ id p, f id p = none -> (toH H).slot ⟨id, p⟩ ≠ .unborn -> H'.len id p = H.len id p
theorem ScrubOk.sref {f : Nat -> List Nat -> Option EV} {H : EHeap} {H1 : Heap} {H' : EHeap} {m : Id -> Option Id} {Z : Id -> Prop} (k : ScrubOk f H H1 H' m Z) {id : Nat} {p : List Nat} {r n : Nat} (hf : f id p = none) (hb : (toH H).slot ⟨id, p⟩ ≠ .unborn) :
  KG H1 (toH H') m Z (.sref ⟨id, p⟩ 0 r n) (.sref ⟨id, p⟩ 0 r n) := by
 rintro E ι F w v rr ⟨h0, h1⟩
 refine ⟨h0, ?_⟩
 rcases k.slot id p hf hb with hd | ⟨hl, hm⟩
 ·rw [hd]; trivial
 ·cases hs' : (toH H').slot ⟨id, p⟩ with
  | dead => trivial
  | mp s g => trivial
  | unborn => rw [hs'] at hl; cases hs : H1.slot ⟨id, p⟩ <;> rw [hs] at hl <;> exact hl.elim
  | live o' =>
   rw [hs'] at hl
   cases hs : H1.slot ⟨id, p⟩ with
   | live o =>
    rw [hs] at hl h1
    obtain ⟨a, b, c, d⟩ := hl
    show 0 <= o'.ver /\ _
    rw [mι_some hm, a, b, c, d]; exact h1
   | unborn => rw [hs] at hl; exact hl.elim
   | dead => rw [hs] at hl; exact hl.elim
   | mp _ _ => rw [hs] at hl; exact hl.elim
theorem ScrubOk.ptr {f : Nat -> List Nat -> Option EV} {H : EHeap} {H1 : Heap} {H' : EHeap} {m : Id -> Option Id} {Z : Id -> Prop} (k : ScrubOk f H H1 H' m Z) {id : Nat} {p : List Nat} {r n : Nat} (hf : f id p = none) (hb : (toH H).slot ⟨id, p⟩ ≠ .unborn) :
  KG H1 (toH H') m Z (.ptr ⟨id, p⟩ 0 r n) (.ptr ⟨id, p⟩ 0 r n) := by
 rintro E ι F w v rr ⟨h0, h1⟩
 refine ⟨h0, ?_⟩
 rcases k.slot id p hf hb with hd | ⟨hl, hm⟩
 ·rw [hd]; trivial
 ·cases hs' : (toH H').slot ⟨id, p⟩ with
  | dead => trivial
  | mp s g => trivial
  | unborn => rw [hs'] at hl; cases hs : H1.slot ⟨id, p⟩ <;> rw [hs] at hl <;> exact hl.elim
  | live o' =>
   rw [hs'] at hl
   cases hs : H1.slot ⟨id, p⟩ with
   | live o =>
    rw [hs] at hl h1
    obtain ⟨a, b, c, d⟩ := hl
    show 0 <= o'.ver /\ _
    rw [mι_some hm, a, c]; exact h1
   | unborn => rw [hs] at hl; exact hl.elim
   | dead => rw [hs] at hl; exact hl.elim
   | mp _ _ => rw [hs] at hl; exact hl.elim
theorem ScrubOk.mref {f : Nat -> List Nat -> Option EV} {H : EHeap} {H1 : Heap} {H' : EHeap} {m : Id -> Option Id} {Z : Id -> Prop} (k : ScrubOk f H H1 H' m Z) {id : Nat} (hf : f id [] = none) (hb : (toH H).slot ⟨id, []⟩ ≠ .unborn) :
  KG H1 (toH H') m Z (.mref ⟨id, []⟩) (.mref ⟨id, []⟩) := by
 rintro E ι F w v rr ⟨h0, h1⟩
 refine ⟨h0, ?_⟩
 rcases k.slot id [] hf hb with hd | ⟨hl, hm⟩
 ·rw [hd]; trivial
 ·cases hs' : (toH H').slot ⟨id, []⟩ with
  | dead => trivial
  | live o' => trivial
  | unborn => rw [hs'] at hl; cases hs : H1.slot ⟨id, []⟩ <;> rw [hs] at hl <;> exact hl.elim
  | mp s g =>
   rw [hs'] at hl
   cases hs : H1.slot ⟨id, []⟩ with
   | mp _ _ => rw [hs] at h1; rw [mι_some hm]; exact h1
   | unborn => rw [hs] at hl; exact hl.elim
   | dead => rw [hs] at hl; exact hl.elim
   | live _ => rw [hs] at hl; exact hl.elim
mutual
theorem ScrubOk.keeps {f : Nat -> List Nat -> Option EV} {H : EHeap} {H1 : Heap} {H' : EHeap} {m : Id -> Option Id} {Z : Id -> Prop} (k : ScrubOk f H H1 H' m Z) : ∀ u : EV, Born (toH H) (toV H.len u) -> KG H1 (toH H') m Z (toV H.len u) (toV H'.len (scrub f u))
 | .ptr id p r c, hb => by
  simp only [scrub]
  cases hf : f id p with
  | some u => simp only [toV]; exact KG.un
  | none => simp only [toV] at hb ⊢; exact k.ptr hf hb
 | .sref id p r n, hb => by
  simp only [scrub]
  cases hf : f id p with
  | some u => simp only [toV]; exact KG.un
  | none => simp only [toV] at hb ⊢; exact k.sref hf hb
 | .sfull id p, hb => by
  simp only [scrub]
  cases hf : f id p with
  | some u => exact k.rep id p u hf
  | none =>
   simp only [toV] at hb ⊢
   have hb' : (toH H).slot ⟨id, p⟩ ≠ .unborn := by cases hx : H.len id p <;> rw [hx] at hb <;> exact hb
   rw [k.len id p hf hb']
   cases H.len id p <;> exact k.sref hf hb'
 | .mref id, hb => by
  simp only [scrub]
  cases hf : f id [] with
  | some u => simp only [toV]; exact KG.un
  | none => simp only [toV] at hb ⊢; exact k.mref hf hb
 | .agg l, hb => by simp only [scrub, toV, scrubs_len] at hb ⊢; exact KG.agg fun j hj => ScrubOk.keepss k l j (hb j hj)
 | .tup l, hb => by simp only [scrub, toV, scrubs_len] at hb ⊢; exact KG.tup fun j hj => ScrubOk.keepss k l j (hb j hj)
 | .fn g l, hb => by simp only [scrub, toV, scrubs_len] at hb ⊢; exact KG.fn fun j hj => ScrubOk.keepss k l j (hb j hj)
 | .un, _ => by simp only [scrub, toV]; exact KG.un
 | .und, _ => by simp only [scrub, toV]; exact KG.und
 | .b _, _ => by simp only [scrub, toV]; exact KG.t _
 | .i _ _, _ => by simp only [scrub, toV]; exact KG.t _
 | .s _, _ => by simp only [scrub, toV]; exact KG.t _
 | .fz _ _, _ => by simp only [scrub, toV]; exact KG.t _
 | .fp _ _ _, _ => by simp only [scrub, toV]; exact KG.fp
 | .st _ _, _ => by simp only [scrub, toV]; exact KG.agg fun j _ => KG.t _
 | .nils, _ => by simp only [scrub, toV]; exact KG.nils
 | .nilp, _ => by simp only [scrub, toV]; exact KG.nilp
 | .nilm, _ => by simp only [scrub, toV]; exact KG.nilm
 | .nilf, _ => by simp only [scrub, toV]; exact KG.nilf
 | .nili, _ => by simp only [scrub, toV]; exact KG.t _
theorem ScrubOk.keepss {f : Nat -> List Nat -> Option EV} {H : EHeap} {H1 : Heap} {H' : EHeap} {m : Id -> Option Id} {Z : Id -> Prop} (k : ScrubOk f H H1 H' m Z) : ∀ (l : List EV) (j : Nat), Born (toH H) (toVs H.len l j) -> KG H1 (toH H') m Z (toVs H.len l j) (toVs H'.len (scrubs f l) j)
 | [], j, _ => by simp only [scrubs, toVs]; exact KG.un
 | a :: l, 0, hb => by simp only [scrubs, toVs] at hb ⊢; exact ScrubOk.keeps k a hb
 | a :: l, j + 1, hb => by simp only [scrubs, toVs] at hb ⊢; exact ScrubOk.keepss k l j hb
end
end
end
end Go.Abs
namespace Go.Abs
open Go
noncomputable section
variable {P : Program} {d : Option Tmp} {ty : TypeId} {L : List GOp} {ρ : Type}
section
variable [SU] [Codes] {Q : Exit -> ESt -> Prop}
def scrubO (f : Nat -> List Nat -> Option EV) : OD -> OD
 | .cells e l => .cells e (scrubs f l)
 | .lst v => .lst v
 | .mp s τ g => .mp s τ g
 | .hole v q r c => .hole v q r c
 | .dead => .dead
 | .none => .none
theorem EHeap.at_scrub {H H' : EHeap} {f : Nat -> List Nat -> Option EV} {j : Nat} (h : H'.obj j = scrubO f (H.obj j)) (p : List Nat) : H'.at j p = H.at j p := by
 unfold EHeap.at
 rw [h]
 cases H.obj j <;> rfl
theorem EHeap.len_scrub {H H' : EHeap} {f : Nat -> List Nat -> Option EV} {j : Nat} (h : H'.obj j = scrubO f (H.obj j)) (p : List Nat) : H'.len j p = H.len j p := by
 unfold EHeap.len
 rw [h]
 cases H.obj j <;> first | rfl | (cases p <;> rfl)
theorem kid_born {len : Len} {k : Nat} {v a : LV} {p : List Nat} (h : v.at p = some a) {r c : Nat} {t : TypeId} {e : Ty} {l : List e.D} (hc : cellC a.τ (a.row r) c = .own t e l) : (OD.lst v).slot len k (p ++ [c, r]) = .live (LV.obj len k (p ++ [c, r]) ⟨t, e, l⟩) := by
 simp only [OD.slot]
 rw [LV.at_append _ _ _ _ h, LV.at_one, LV.kid_of hc]
theorem KG.dat {H1 H2 : Heap} {m : Id -> Option Id} {Z : Id -> Prop} {len len' : Len} {u : EV} (h : u.dat = true) : KG H1 H2 m Z (toV len u) (toV len' u) := by
 cases u <;> simp only [toV] <;> first | (cases h; done) | exact KG.un | exact KG.t _ | exact KG.nils | exact KG.nilp | exact KG.nilm | exact KG.nilf
theorem scrub_live {f : Nat -> List Nat -> Option EV} {H : EHeap} {H1 : Heap} {H' : EHeap} {m : Id -> Option Id} {Z : Id -> Prop} (k : ScrubOk f H H1 H' m Z) {j : Nat} (hj : H'.obj j = scrubO f (H.obj j)) (hfj : ∀ p, f j p = none)
  (hb : ∀ i o, (toH H).slot i = .live o -> ∀ r, r < o.n -> ∀ c, c < o.sz -> Born (toH H) (o.get r c)) {p : List Nat} {a' : AObj} (h : (toH H').slot ⟨j, p⟩ = .live a') :
  ∃ a, (toH H).slot ⟨j, p⟩ = .live a /\ a'.elem = a.elem /\ a'.sz = a.sz /\ a'.n = a.n /\ a'.ver = a.ver /\ ∀ r, r < a'.n -> ∀ c, c < a'.sz -> KG H1 (toH H') m Z (a.get r c) (a'.get r c) := by
 have h0 : (H'.obj j).slot H'.len j p = .live a' := h
 have hs : (toH H).slot ⟨j, p⟩ = (H.obj j).slot H.len j p := rfl
 rw [hj] at h0
 have cellK : ∀ (p : List Nat) (r c : Nat) (x : Cell), (∀ u, x = .ev u -> u.dat = true) -> Born (toH H) (cellV H.len j p r c x) -> KG H1 (toH H') m Z (cellV H.len j p r c x) (cellV H'.len j p r c x) := fun p r c x hd hx => by
  cases x with
  | ev u => exact KG.dat (hd u rfl)
  | own t e l => simp only [cellV] at hx ⊢; exact k.sref (hfj _) hx
 cases ho : H.obj j with
 | none => rw [ho] at h0; cases h0
 | dead => rw [ho] at h0; cases h0
 | lst v =>
  rw [ho] at h0
  simp only [scrubO, OD.slot] at h0
  cases hv : v.at p with
  | none => rw [hv] at h0; cases h0
  | some a =>
   rw [hv] at h0
   injection h0 with h0; subst h0
   have hl : (toH H).slot ⟨j, p⟩ = .live (a.obj H.len j p) := by rw [hs, ho]; simp only [OD.slot, hv]
   exact ⟨_, hl, rfl, rfl, rfl, rfl, fun r hr c hc => cellK p r c _ (cellC_dat _ _ _) (hb _ _ hl r hr c hc)⟩
 | cells e l =>
  rw [ho] at h0
  cases p with
  | cons x y => cases h0
  | nil =>
   injection h0 with h0; subst h0
   have hl : (toH H).slot ⟨j, []⟩ = .live { elem := e, sz := l.length, ver := 0, n := 1, get := fun _ c => toVs H.len l c } := slot_cells ho
   refine ⟨_, hl, rfl, by simp only [scrubs_len], rfl, rfl, fun r hr c hc => ?_⟩
   simp only [scrubs_len] at hc
   exact ScrubOk.keepss k l c (hb _ _ hl r hr c hc)
 | hole v q r c =>
  rw [ho] at h0
  simp only [scrubO, OD.slot] at h0
  split at h0
  ·cases h0
  ·rename_i hn
   cases hv : v.at p with
   | none => rw [hv] at h0; cases h0
   | some a =>
    rw [hv] at h0
    injection h0 with h0; subst h0
    have hl : (toH H).slot ⟨j, p⟩ = .live (a.holed H.len j p q r c) := by rw [hs, ho]; simp only [OD.slot, hv, if_neg hn]
    refine ⟨_, hl, rfl, rfl, rfl, rfl, fun r' hr c' hc => ?_⟩
    have hbb := hb _ _ hl r' hr c' hc
    simp only [LV.holed] at hbb ⊢
    split
    ·exact KG.un
    ·rename_i hne
     rw [if_neg hne] at hbb
     exact cellK p r' c' _ (cellC_dat _ _ _) hbb
 | mp s τ g =>
  rw [ho] at h0
  cases p <;> cases h0
theorem scrub_slots {f : Nat -> List Nat -> Option EV} {len len' : Len} {k : Nat} {o : OD} {p : List Nat} (h : o.slot len k p ≠ .unborn) : SlotLike (o.slot len k p) ((scrubO f o).slot len' k p) := by
 cases o with
 | none => exact absurd rfl h
 | dead => trivial
 | lst v =>
  simp only [scrubO, OD.slot] at h ⊢
  cases hv : v.at p with
  | none => rw [hv] at h; exact absurd rfl h
  | some a => exact ⟨rfl, rfl, rfl, rfl⟩
 | cells e l =>
  cases p with
  | cons x y => exact absurd rfl h
  | nil => exact ⟨rfl, rfl, by simp only [scrubs_len], rfl⟩
 | hole v q r c =>
  simp only [scrubO, OD.slot] at h ⊢
  by_cases hn : q ++ [c, r] <+: p
  ·simp only [if_pos hn]; trivial
  ·simp only [if_neg hn] at h ⊢
   cases hv : v.at p with
   | none => rw [hv] at h; exact absurd rfl h
   | some a => exact ⟨rfl, rfl, rfl, rfl⟩
 | mp s τ g =>
  cases p with
  | cons x y => exact absurd rfl h
  | nil => trivial
theorem scrub_unborn {f : Nat -> List Nat -> Option EV} {len len' : Len} {k : Nat} {o : OD} {p : List Nat} : (scrubO f o).slot len' k p = .unborn ↔ o.slot len k p = .unborn := by
 cases o with
 | none => exact Iff.rfl
 | dead => exact Iff.rfl
 | lst v => simp only [scrubO, OD.slot]; cases v.at p <;> simp
 | cells e l => cases p <;> simp [scrubO, OD.slot]
 | hole v q r c => simp only [scrubO, OD.slot]; split <;> first | simp | (cases v.at p <;> simp)
 | mp s τ g => cases p <;> simp [scrubO, OD.slot]
theorem scrub_mp {f : Nat -> List Nat -> Option EV} {len len' : Len} {k : Nat} {o : OD} {p : List Nat} {s : Bool} {g : MKey -> Option V} (h : (scrubO f o).slot len' k p = .mp s g) : o.slot len k p = .mp s g /\ ∀ x, g x = none \/ ∃ y, g x = some (.t y) := by
 obtain ⟨τ, g', h1, rfl, rfl⟩ := slot_mp h
 cases o <;> first
  | (cases h1; done)
  | (injection h1 with a b c; subst a; subst b; obtain rfl := eq_of_heq c; exact ⟨rfl, fun x => by dsimp only; split <;> simp⟩)
theorem Gen.scrub {H : EHeap} {H1 : Heap} {H' : EHeap} {m : Id -> Option Id} {Z : Id -> Prop} {f : Nat -> List Nat -> Option EV} (S : Nat -> Prop) (k : ScrubOk f H H1 H' m Z)
  (hb : ∀ i o, (toH H).slot i = .live o -> ∀ r, r < o.n -> ∀ c, c < o.sz -> Born (toH H) (o.get r c))
  (hns : ∀ j, ¬ S j -> (∀ p, f j p = none) /\ H'.obj j = scrubO f (H.obj j) /\ (∀ p, m ⟨j, p⟩ = some ⟨j, p⟩) /\ (∀ p, ¬ Z ⟨j, p⟩) /\ ∀ p, H1.slot ⟨j, p⟩ = (toH H).slot ⟨j, p⟩)
  (hS : ∀ i : Id, S i.k -> ∀ o', (toH H').slot i = .live o' -> (m i = none /\ o'.n = 0) \/ ∃ x o, m i = some x /\ H1.slot x = .live o /\ ¬ Z x /\ o'.elem = o.elem /\ o'.sz = o.sz /\ o'.n <= o.n /\ ∀ r, r < o'.n -> ∀ c, c < o'.sz -> KG H1 (toH H') m Z (o.get r c) (o'.get r c))
  (hSm : ∀ i : Id, S i.k -> ∀ s g', (toH H').slot i = .mp s g' -> ∃ x g, m i = some x /\ H1.slot x = .mp s g /\ ¬ Z x /\ ∀ k, (g k = none /\ g' k = none) \/ ∃ u u', g k = some u /\ g' k = some u' /\ KG H1 (toH H') m Z u u')
  (hinj : ∀ i j x, S i.k -> ((toH H').slot i).is -> ((toH H').slot j).is -> m i = some x -> m j = some x -> i = j)
  (hlo : H'.lo = H1.lo) (hnx : Nx (toH H')) (hlow : ∀ i : Id, S i.k -> i.k < H1.lo -> i.p = [] -> H1.slot i = .unborn \/ (toH H').slot i = .dead \/ (m i = some i /\ SlotLike (H1.slot i) ((toH H').slot i))) : Gen H1 (toH H') m Z where
 lo := hlo
 next := hnx
 obj i o' h := by
  by_cases hi : S i.k
  ·exact hS i hi o' h
  ·obtain ⟨h1, h2, h3, h4, h5⟩ := hns i.k hi
   obtain ⟨a, q1, q2, q3, q4, q5, q6⟩ := scrub_live k (j := i.k) (p := i.p) h2 h1 hb h
   exact .inr ⟨i, a, h3 i.p, (h5 i.p).trans q1, h4 i.p, q2, q3, Nat.le_of_eq q4, q6⟩
 mp i s g' h := by
  by_cases hi : S i.k
  ·exact hSm i hi s g' h
  ·obtain ⟨h1, h2, h3, h4, h5⟩ := hns i.k hi
   have h' : (scrubO f (H.obj i.k)).slot H'.len i.k i.p = .mp s g' := by rw [<- h2]; exact h
   obtain ⟨q1, q2⟩ := scrub_mp (len := H.len) h'
   refine ⟨i, g', h3 i.p, (h5 i.p).trans q1, h4 i.p, fun x => ?_⟩
   rcases q2 x with e | ⟨y, e⟩
   ·exact .inl ⟨e, e⟩
   ·exact .inr ⟨_, _, e, e, KG.t _⟩
 inj i j x hi hj h1 h2 := by
  by_cases h : S i.k
  ·exact hinj i j x h hi hj h1 h2
  ·by_cases h' : S j.k
   ·exact (hinj j i x h' hj hi h2 h1).symm
   ·have e1 := (hns i.k h).2.2.1 i.p
    have e2 := (hns j.k h').2.2.1 j.p
    have e1 : m i = some i := e1
    have e2 : m j = some j := e2
    rw [e1] at h1; rw [e2] at h2
    injection h1 with h1; injection h2 with h2
    rw [h1, h2]
 low i hi hp := by
  by_cases h : S i.k
  ·exact hlow i h hi hp
  ·obtain ⟨h1, h2, h3, h4, h5⟩ := hns i.k h
   by_cases hu : H1.slot i = .unborn
   ·exact .inl hu
   ·refine .inr (.inr ⟨h3 i.p, ?_⟩)
    have e : (toH H').slot i = (scrubO f (H.obj i.k)).slot H'.len i.k i.p := by rw [<- h2]; rfl
    rw [e, show H1.slot i = (toH H).slot i from h5 i.p]
    rw [show H1.slot i = (toH H).slot i from h5 i.p] at hu
    exact scrub_slots hu
def EHeap.app (H : EHeap) (f : Nat -> List Nat -> Option EV) (k k2 nx : Nat) (v : LV) : EHeap :=
 { next := nx, lo := H.lo, md := H.md, obj := fun j => bif Nat.beq j k2 then .lst v else bif Nat.beq j k then .dead else scrubO f (H.obj j) }
def ESt.app (s : ESt) (f : Nat -> List Nat -> Option EV) (k k2 nx : Nat) (v : LV) : ESt := { s with env := fun t => scrub f (s.env t), heap := s.heap.app f k k2 nx v }
theorem app_at2 {H : EHeap} {f : Nat -> List Nat -> Option EV} {k k2 nx : Nat} {v : LV} (p : List Nat) : (H.app f k k2 nx v).at k2 p = v.at p := by
 simp only [EHeap.at, EHeap.app, Nat.beq_refl, cond_true]
theorem app_obj {H : EHeap} {f : Nat -> List Nat -> Option EV} {k k2 nx : Nat} {v : LV} {j : Nat} (h : j ≠ k) (h2 : j ≠ k2) : (H.app f k k2 nx v).obj j = scrubO f (H.obj j) := by
 simp only [EHeap.app, natBeq_ne h, natBeq_ne h2, cond_false]
theorem app_objk {H : EHeap} {f : Nat -> List Nat -> Option EV} {k k2 nx : Nat} {v : LV} (h2 : k ≠ k2) : (H.app f k k2 nx v).obj k = .dead := by
 simp only [EHeap.app, natBeq_ne h2, cond_false, Nat.beq_refl, cond_true]
theorem weak_app {s : ESt} {H1 : Heap} {f : Nat -> List Nat -> Option EV} {k k2 nx : Nat} {v : LV} {a1 : AObj} {u0 : V} (hf : Fair s) (hflat : froT v.τ = true)
  (h1 : ∀ i, H1.slot i = if i = ⟨k, []⟩ then .live a1 else (toH s.heap).slot i) (hlo : H1.lo = s.heap.lo)
  (ha1 : v.e = a1.elem) (ha2 : v.τ.sz = a1.sz) (ha3 : v.l.length = a1.n) (hget : ∀ r, r < a1.n -> ∀ c, c < a1.sz -> Wk (a1.get r c) (.t (encC v.τ (v.row r) c)))
  (hold : ∀ p, p ≠ [] -> (toH s.heap).slot ⟨k, p⟩ = .unborn) (hk2 : k2 = k \/ ∀ p, (toH s.heap).slot ⟨k2, p⟩ = .unborn) (hnx : s.heap.next <= nx) (hnk : k < nx) (hnk2 : k2 < nx) (hlk : s.heap.lo <= k2)
  (hfo : ∀ id p, f id p = none -> (toH s.heap).slot ⟨id, p⟩ ≠ .unborn -> id ≠ k) (hfn : ∀ id p, id ≠ k -> f id p = none) (hfu : ∀ id p u, f id p = some u -> u = .un)
  (d : Option Tmp) (hu : d ≠ none -> Wk u0 (.sref ⟨k, []⟩ a1.ver 0 a1.n)) :
  Weak (((toSt s).on H1).put d u0) (toSt ((s.app f k k2 nx v).put d (.sfull k2 []))) := by
 let m : Id -> Option Id := fun i => if i.k = k2 then (if i.p = [] then some ⟨k, []⟩ else none) else if i.k = k then none else some i
 let H' := s.heap.app f k k2 nx v
 have hne : ∀ id p, f id p = none -> (toH s.heap).slot ⟨id, p⟩ ≠ .unborn -> id ≠ k /\ id ≠ k2 := fun id p h hb => by
  have h1 := hfo id p h hb
  refine ⟨h1, fun e => ?_⟩
  rcases hk2 with e2 | e2
  ·exact h1 (e.trans e2)
  ·exact hb (by rw [e]; exact e2 p)
 have hat : ∀ id p, id ≠ k -> id ≠ k2 -> H'.at id p = s.heap.at id p := fun id p e1 e2 => EHeap.at_scrub (app_obj e1 e2) p
 have hk : ScrubOk f s.heap H1 H' m (fun _ => False) := ⟨fun id p u h => by rw [hfu id p u h]; simp only [toV]; exact KG.un,
  fun id p h hb => by
   obtain ⟨e1, e2⟩ := hne id p h hb
   refine .inr ⟨?_, by simp only [m, if_neg e1, if_neg e2]⟩
   rw [h1, if_neg (fun e => e1 (by injection e))]
   show SlotLike _ ((H'.obj id).slot H'.len id p)
   rw [app_obj e1 e2]
   exact scrub_slots hb,
  fun id p h hb => by
   obtain ⟨e1, e2⟩ := hne id p h hb
   exact EHeap.len_scrub (app_obj e1 e2) p⟩
 have hslot2 : ∀ p, (toH H').slot ⟨k2, p⟩ = (OD.lst v).slot H'.len k2 p := fun p => by
  show (H'.obj k2).slot _ _ _ = _
  simp only [H', EHeap.app, Nat.beq_refl, cond_true]
 have hslotk : k ≠ k2 -> ∀ p, (toH H').slot ⟨k, p⟩ = .dead := fun e p => by
  show (H'.obj k).slot _ _ _ = _
  rw [app_objk e]; rfl
 have gen : Gen H1 (toH H') m (fun _ => False) := by
  refine Gen.scrub (fun j => j = k \/ j = k2) hk hf.obj (fun j hj => ?_) (fun i hi o' ho => ?_) (fun i hi sb g' hm => ?_) (fun i j x hi h1' h2' e1 e2 => ?_) (by rw [hlo]; rfl) (fun i hi => ?_) (fun i hi hil hip => ?_)
  ·have e1 : j ≠ k := fun e => hj (.inl e)
   have e2 : j ≠ k2 := fun e => hj (.inr e)
   exact ⟨fun p => hfn j p e1, app_obj e1 e2, fun p => by simp only [m, if_neg e1, if_neg e2], fun p h => h, fun p => by rw [h1, if_neg (fun e => e1 (by injection e))]⟩
  ·obtain ⟨j, p⟩ := i
   have hj : j = k2 := by
    rcases hi with e | e
    ·by_cases e2 : k = k2
     ·exact e.trans e2
     ·simp only at e; subst e; rw [hslotk e2] at ho; cases ho
    ·exact e
   subst hj
   rw [hslot2] at ho
   by_cases hp : p = []
   ·subst hp
    rw [slot_flatLst] at ho
    injection ho with ho; subst ho
    refine .inr ⟨⟨k, []⟩, a1, by simp only [m, if_true], by rw [h1, if_pos rfl], fun h => h, ha1, ha2, Nat.le_of_eq ha3, fun r hr c hc => ?_⟩
    have hr : r < v.l.length := hr
    have hc : c < v.τ.sz := hc
    obtain ⟨u, e1, e2⟩ := cellC_enc v.τ (v.row r) c hflat
    show KG _ _ _ _ _ (cellV H'.len j [] r c (cellC v.τ (v.row r) c))
    rw [e1]
    simp only [cellV]
    rw [e2 hc]
    exact KG.of_wk' (hget r (by omega) c (by omega)) (KG.t _)
   ·simp only [OD.slot, LV.at_flat hflat p hp] at ho; cases ho
  ·obtain ⟨j, p⟩ := i
   exfalso
   have hj : j = k2 := by
    rcases hi with e | e
    ·by_cases e2 : k = k2
     ·exact e.trans e2
     ·simp only at e; subst e; rw [hslotk e2] at hm; cases hm
    ·exact e
   subst hj
   rw [hslot2] at hm
   simp only [OD.slot] at hm
   cases hv : v.at p <;> rw [hv] at hm <;> cases hm
  ·obtain ⟨j1, p1⟩ := i
   obtain ⟨j2, p2⟩ := j
   simp only [m] at e1 e2
   have key : ∀ (j2 : Nat) (p2 : List Nat), ((toH H').slot ⟨j2, p2⟩).is -> (if j2 = k2 then (if p2 = [] then some (⟨k, []⟩ : Id) else none) else if j2 = k then none else some ⟨j2, p2⟩) = some ⟨k, []⟩ -> j2 = k2 /\ p2 = [] := fun j2 p2 hl e => by
    by_cases h2 : j2 = k2
    ·rw [if_pos h2] at e
     by_cases hp : p2 = []
     ·exact ⟨h2, hp⟩
     ·rw [if_neg hp] at e; cases e
    ·rw [if_neg h2] at e
     by_cases h3 : j2 = k
     ·rw [if_pos h3] at e; cases e
     ·rw [if_neg h3] at e
      injection e with e
      injection e with e _
      exact absurd e h3
   have hx : x = ⟨k, []⟩ /\ j1 = k2 /\ p1 = [] := by
    by_cases h2 : j1 = k2
    ·rw [if_pos h2] at e1
     by_cases hp : p1 = []
     ·rw [if_pos hp] at e1; injection e1 with e1; exact ⟨e1.symm, h2, hp⟩
     ·rw [if_neg hp] at e1; cases e1
    ·rcases hi with e | e
     ·simp only at e
      rw [if_neg h2, if_pos e] at e1; cases e1
     ·exact absurd e h2
   obtain ⟨rfl, rfl, rfl⟩ := hx
   obtain ⟨rfl, rfl⟩ := key j2 p2 h2' e2
   rfl
  ·have hi : nx <= i.k := hi
   have e1 : i.k ≠ k := by omega
   have e2 : i.k ≠ k2 := by omega
   show (H'.obj i.k).slot _ _ _ = _
   rw [app_obj e1 e2]
   exact scrub_unborn.2 (hf.next i (by omega))
  ·obtain ⟨j, p⟩ := i
   simp only at hip hil
   subst hip
   rw [hlo] at hil
   have e2 : j ≠ k2 := fun e => by omega
   rcases hi with e | e
   ·simp only at e; subst e; exact .inr (.inl (hslotk e2 []))
   ·exact absurd e e2
 refine Weak.gen m (fun _ => False) (by rw [toSt_put, put_nt, put_nt]; rfl) (by rw [put_heap, toSt_put, put_heap]; exact gen) (fun t => ?_)
 have hh1 : (((toSt s).on H1).put d u0).heap = H1 := by rw [put_heap]; rfl
 have hh2 : (toSt ((s.app f k k2 nx v).put d (.sfull k2 []))).heap = toH H' := by rw [toSt_put, put_heap]; rfl
 rw [hh1, hh2, toSt_put]
 have hlast : toV H'.len (.sfull k2 []) = .sref ⟨k2, []⟩ 0 0 v.l.length := by
  simp only [toV]
  rw [EHeap.len_at (show H'.at k2 [] = some v by rw [show H' = s.heap.app f k k2 nx v from rfl, app_at2, LV.at_nil])]
 show KG H1 (toH H') m _ ((((toSt s).on H1).put d u0).env t) (((toSt (s.app f k k2 nx v)).put d (toV H'.len (.sfull k2 []))).env t)
 have base : KG H1 (toH H') m (fun _ => False) (toV s.heap.len (s.env t)) (toV H'.len (scrub f (s.env t))) := ScrubOk.keeps hk _ (hf.env t)
 cases d with
 | none => exact base
 | some d =>
  simp only [St.put]
  cases Nat.beq t d with
  | false => exact base
  | true =>
   show KG _ _ _ _ (bif Nat.blt d s.nt then u0 else .un) (bif Nat.blt d s.nt then toV H'.len (.sfull k2 []) else .un)
   cases Nat.blt d s.nt with
   | false => exact KG.un
   | true =>
    simp only [cond_true]
    rw [hlast]
    refine KG.of_wk' (hu (fun e => by cases e)) ?_
    rw [<- ha3]
    have h2 : (toH H').slot ⟨k2, []⟩ = .live (v.obj H'.len k2 []) := by rw [hslot2, slot_flatLst]
    exact KG.sref (i := ⟨k, []⟩) (j := ⟨k2, []⟩) (by rw [h1, if_pos rfl]) h2 (by simp only [m, if_true]) rfl rfl ha2 ha1 (Nat.le_of_eq (Nat.zero_add _))
mutual
theorem scrub_never : ∀ u : EV, scrub (fun _ _ => none) u = u
 | .ptr _ _ _ _ => rfl
 | .sref _ _ _ _ => rfl
 | .sfull _ _ => rfl
 | .mref _ => rfl
 | .agg l => by simp only [scrub, scrubs_never l]
 | .tup l => by simp only [scrub, scrubs_never l]
 | .fn g l => by simp only [scrub, scrubs_never l]
 | .un => rfl
 | .und => rfl
 | .b _ => rfl
 | .i _ _ => rfl
 | .s _ => rfl
 | .fz _ _ => rfl
 | .fp _ _ _ => rfl
 | .st _ _ => rfl
 | .nils => rfl
 | .nilp => rfl
 | .nilm => rfl
 | .nilf => rfl
 | .nili => rfl
theorem scrubs_never : ∀ l : List EV, scrubs (fun _ _ => none) l = l
 | [] => rfl
 | a :: l => by simp only [scrubs, scrub_never a, scrubs_never l]
end
theorem scrubO_never (o : OD) : scrubO (fun _ _ => none) o = o := by cases o <;> simp [scrubO, scrubs_never]
theorem app_never (s : ESt) (v : LV) : s.app (fun _ _ => none) s.heap.next s.heap.next (s.heap.next + 1) v = s.on (s.heap.add s.heap.next (.lst v)) := by
 unfold ESt.app ESt.on EHeap.app EHeap.add
 congr 1
 ·funext t; exact scrub_never _
 ·congr 1
  funext j
  cases Nat.beq j s.heap.next with
  | true => rfl
  | false => simp only [cond_false]; exact scrubO_never _
def rootIs (k : Nat) : Nat -> List Nat -> Option EV := fun id _ => bif Nat.beq id k then some .un else none
def srcO (s : ESt) (τ : Ty) (u : EV) (K : List τ.D -> Option ρ) : Option ρ := match u with
 | .nils => K []
 | .fz τ' l => match castF List τ' τ l with | some y => K y | none => none
 | .sfull id p => match s.heap.at id p with
  | some v => match castF List v.τ τ v.l with | some y => K y | none => none
  | none => none
 | _ => none
theorem srcO_out {s : ESt} {τ : Ty} {x : Operand} {K : List τ.D -> Option ρ} {res : ρ} (hf : froT τ = true) (h : srcO s τ (s.eval x) K = some res) :
  ∃ (l : List τ.D) (news : Nat -> Nat -> V), Src (toSt s) x l.length τ.sz news /\ (∀ i, i < l.length -> ∀ j, j < τ.sz -> Wk (news i j) (.t (encC τ (l.getD i τ.z) j))) /\ K l = some res := by
 unfold srcO at h
 split at h
 ·rename_i hx
  have hx := eval_eq hx rfl
  simp only [toV] at hx
  exact ⟨[], _, Src.nils hx, fun i hi => absurd hi (Nat.not_lt_zero _), h⟩
 ·rename_i τ' l hx
  split at h
  ·rename_i y hy
   obtain ⟨e, hy⟩ := castL_ok hy
   subst e
   obtain rfl := eq_of_heq hy
   have hx := eval_eq hx rfl
   simp only [toV, encL] at hx
   exact ⟨l, _, Src.sl hx, fun i hi j hj => Wk.refl _, h⟩
  ·cases h
 ·rename_i id p hx
  split at h
  ·rename_i v hv
   split at h
   ·rename_i y hy
    obtain ⟨e, hy⟩ := castL_ok hy
    obtain ⟨ve, vτ, vl⟩ := v
    simp only at e hy h
    subst e
    obtain rfl := eq_of_heq hy
    have hx := eval_eq hx rfl
    simp only [toV, EHeap.len_at hv] at hx
    have hs := slot_lst hv
    exact ⟨vl, _, Src.sref hx hs rfl rfl, fun i hi j hj => by
     obtain ⟨u, e1, e2⟩ := cellC_enc vτ (vl.getD i vτ.z) j hf
     rw [Nat.add_zero]
     show Wk (cellV _ _ _ i j (cellC vτ (LV.row ⟨ve, vτ, vl⟩ i) j)) _
     have e3 : cellC vτ (LV.row ⟨ve, vτ, vl⟩ i) j = .ev u := e1
     rw [e3]
     exact Wk.of_eq (e2 hj _), h⟩
   ·cases h
  ·cases h
 ·cases h
def appO (P : Program) [Tys P] [TyE P] (s : ESt) (d : Option Tmp) (t : Nat) (x y : Operand) (K : ESt -> Option ρ) : Option ρ := match (Tys.c P t).sl with
 | some (e, sz, by_) => match TyE.c P e, (Tys.c P e).zero with
  | some τ, some z => bif Nat.beq τ.sz sz && Nat.beq z.cells.size sz then
    srcO s τ (s.eval y) fun l2 => match s.eval x with
     | .nils => grd (okB (l2.length * by_ <= 140737488355328 /\ l2.length <= 281474976710656)) (bif Nat.ble s.heap.lo s.heap.next then newO s d (fun id => .sfull id []) K (.lst ⟨e, τ, l2⟩) else none)
     | .sfull id [] => match s.heap.obj id with
      | .lst v => match castF List v.τ τ v.l with
       | some l => bif Nat.beq v.e e then grd (okB ((l.length + l2.length) * by_ <= 140737488355328 /\ l.length + l2.length <= 281474976710656))
         (bif Nat.ble s.heap.lo id then K ((s.app (rootIs id) id id s.heap.next ⟨e, τ, l ++ l2⟩).put d (.sfull id []))
           else bif Nat.ble s.heap.lo s.heap.next then litO s.heap.next fun k2 => K ((s.app (rootIs id) id k2 (k2 + 1) ⟨e, τ, l ++ l2⟩).put d (.sfull k2 [])) else none) else none
       | none => none
      | _ => none
     | _ => none
   else none
  | _, _ => none
 | none => none
theorem appO_ok [T : Tys P] [TE : TyE P] {s : ESt} {t : Nat} {x y : Operand} {K : ESt -> Option ρ} {res : ρ} (hK : ∀ s', K s' = some res -> SLT P L Q s') (h : appO P s d t x y K = some res) : SLT P (⟨d, .call { callee := .builtin .append, args := #[x, y], argTypes := #[t, t] }, ty, none⟩ :: L) Q s := by
 refine ⟨SL.fair fun hf => ?_⟩
 unfold appO at h
 split at h
 ·rename_i e sz by_ hsl
  have ht := (T.ok t).sl _ _ _ hsl
  split at h
  ·rename_i τ z hτ hz
   have hzz := (T.ok e).zero _ hz
   have hfro := TE.fro e τ hτ
   have hh := bif_none h
   clear h
   obtain ⟨hb, h⟩ := hh
   simp only [Bool.and_eq_true] at hb
   obtain ⟨b1, b2⟩ := hb
   obtain rfl := natBeq b1
   obtain ⟨l2, news, s1, s2, h⟩ := srcO_out hfro h
   split at h
   ·rename_i hx
    have hx := eval_eq hx rfl
    simp only [toV] at hx
    obtain ⟨hp, h⟩ := grd_out h
    obtain ⟨p1, p2⟩ := okB_out hp
    obtain ⟨hlo, h⟩ := bif_none h
    have hlo := Nat.le_of_ble_eq_true hlo
    rw [newO_eq] at h
    have hunb : ∀ p, (toH s.heap).slot ⟨s.heap.next, p⟩ = .unborn := fun p => hf.next ⟨s.heap.next, p⟩ (Nat.le_refl _)
    refine SL.appendN (P := P) (t := t) (by_ := by_) (e := e) (z := z) (o := { elem := e, sz := τ.sz, ver := 0, n := 0, get := fun _ _ => .un }) rfl rfl rfl rfl hx (natBeq b2) s1 p1 p2 (SL.weak ?_ (hK _ h).out)
    rw [<- app_never]
    refine weak_app (k := s.heap.next) (k2 := s.heap.next) (nx := s.heap.next + 1) (v := ⟨e, τ, l2⟩) (a1 := AObj.app { elem := e, sz := τ.sz, ver := 0, n := 0, get := fun _ _ => .un } l2.length news) hf hfro (fun i => ?_) rfl rfl rfl (by simp [AObj.app]) (fun r hr c hc => ?_) (fun p _ => hunb p) (.inl rfl) (by omega) (by omega) (by omega) ?_ (fun id p _ hb e => hb (by rw [e]; exact hunb p)) (fun _ _ _ => rfl) (fun _ _ _ h => by cases h) d (fun _ => Wk.refl _)
    ·show (bif Id.beq i ⟨s.heap.next, []⟩ then _ else (bif Id.beq i ⟨s.heap.next, []⟩ then _ else _)) = _
     rw [beq_if, beq_if]
     split <;> rfl
    ·have hr : r < 0 + l2.length := hr
     show Wk (bif Nat.blt r 0 then V.un else news (r - 0) c) _
     have : Nat.blt r 0 = false := rfl
     rw [this]
     exact s2 r (by omega) c hc
    ·exact hlo
   ·rename_i id hx
    split at h
    ·rename_i v ho
     obtain ⟨ve, vτ, vl⟩ := v
     split at h
     ·rename_i y' hy
      obtain ⟨e1, hy⟩ := castL_ok hy
      simp only at e1 hy
      subst e1
      obtain rfl := eq_of_heq hy
      have hh := bif_none h
      clear h
      obtain ⟨b3, h⟩ := hh
      simp only at b3
      obtain rfl := natBeq b3
      obtain ⟨hp, h⟩ := grd_out h
      obtain ⟨p1, p2⟩ := okB_out hp
      have hat : s.heap.at id [] = some ⟨ve, vτ, vl⟩ := by simp only [EHeap.at, ho, LV.at_nil]
      have hx := eval_eq hx rfl
      simp only [toV, EHeap.len_at hat] at hx
      have hs := slot_lst hat
      have hlive : id < s.heap.next := Classical.byContradiction fun hn => by
       have := hf.next ⟨id, []⟩ (Nat.le_of_not_lt hn)
       rw [hs] at this; cases this
      have hunb : ∀ p, (toH s.heap).slot ⟨s.heap.next, p⟩ = .unborn := fun p => hf.next ⟨s.heap.next, p⟩ (Nat.le_refl _)
      have hold : ∀ p, p ≠ [] -> (toH s.heap).slot ⟨id, p⟩ = .unborn := fun p hp => by
       show (s.heap.obj id).slot _ _ _ = _
       rw [ho]
       exact OD.flat_slot (o := .lst ⟨ve, vτ, vl⟩) hfro p hp
      refine SL.append (P := P) (t := t) (by_ := by_) (z := z) hx hs rfl rfl rfl rfl (natBeq b2) s1 p1 p2 ?_
      have main : ∀ k2 nx, (k2 = id \/ ∀ p, (toH s.heap).slot ⟨k2, p⟩ = .unborn) -> s.heap.next <= nx -> k2 < nx -> s.heap.lo <= k2 -> K ((s.app (rootIs id) id k2 nx ⟨ve, vτ, vl ++ l2⟩).put d (.sfull k2 [])) = some res -> SL P L (liftQ Q) (((toSt s).on ((toSt s).heap.set ⟨id, []⟩ (AObj.app (LV.obj s.heap.len id [] ⟨ve, vτ, vl⟩) l2.length news))).put d (.sref ⟨id, []⟩ (0 + 1) 0 (vl.length + l2.length))) := fun k2 nx q1 q2 q3 q4 q5 => by
       refine SL.weak (weak_app (k := id) (k2 := k2) (nx := nx) (f := rootIs id) (v := ⟨ve, vτ, vl ++ l2⟩) (a1 := AObj.app (LV.obj s.heap.len id [] ⟨ve, vτ, vl⟩) l2.length news) hf hfro (fun i => ?_) rfl rfl rfl (by simp [AObj.app, LV.obj]) (fun r hr c hc => ?_) hold q1 q2 (by omega) q3 q4 (fun j p e _ e2 => by subst e2; simp [rootIs] at e) (fun j p hne => by simp only [rootIs, natBeq_ne hne, cond_false]) (fun j p u h => by unfold rootIs at h; cases hb : Nat.beq j id <;> rw [hb] at h <;> first | (cases h; done) | (injection h with h; exact h.symm)) d (fun _ => Wk.refl _)) (hK _ q5).out
       ·show (bif Id.beq i ⟨id, []⟩ then _ else _) = _
        exact beq_if _ _ _ _
       ·have hr : r < vl.length + l2.length := hr
        have hc : c < vτ.sz := hc
        show Wk (bif Nat.blt r vl.length then cellV s.heap.len id [] r c (cellC vτ (LV.row ⟨ve, vτ, vl⟩ r) c) else news (r - vl.length) c) (.t (encC vτ ((vl ++ l2).getD r vτ.z) c))
        by_cases hrl : r < vl.length
        ·rw [blt_true hrl, cond_true]
         obtain ⟨u, e1, e2⟩ := cellC_enc vτ (vl.getD r vτ.z) c hfro
         have e3 : cellC vτ (LV.row ⟨ve, vτ, vl⟩ r) c = .ev u := e1
         rw [e3, getD_append_left hrl]
         exact Wk.of_eq (e2 hc _)
        ·rw [blt_false (Nat.le_of_not_lt hrl), cond_false]
         have e4 : (vl ++ l2).getD r vτ.z = l2.getD (r - vl.length) vτ.z := by simp only [List.getD_eq_getElem?_getD, List.getElem?_append_right (Nat.le_of_not_lt hrl)]
         rw [e4]
         exact s2 (r - vl.length) (by omega) c hc
      cases hlo : Nat.ble s.heap.lo id with
      | true =>
       rw [hlo] at h
       exact main id s.heap.next (.inl rfl) (Nat.le_refl _) hlive (Nat.le_of_ble_eq_true hlo) h
      | false =>
       rw [hlo] at h
       simp only [cond_false] at h
       obtain ⟨hlo2, h⟩ := bif_none h
       rw [litO_eq] at h
       exact main s.heap.next (s.heap.next + 1) (.inr hunb) (by omega) (by omega) (Nat.le_of_ble_eq_true hlo2) h
     ·cases h
    ·cases h
   ·cases h
  ·cases h
 ·cases h
end
end
end Go.Abs
namespace Go.Abs
open Go
variable {P : Program} {d : Option Tmp} {ty : TypeId} {L : List GOp} {ρ : Type}
section
variable [SU] [Codes] {Q : Exit -> ESt -> Prop}
theorem LV.setRow_at' {v : LV} {r : Nat} {y : v.τ.D} (hr : r < v.l.length) (hy : ∀ c, (v.setRow r y).kid c r = v.kid c r) :
  ∀ q, ((v.setRow r y).at q = none /\ v.at q = none) \/ ∃ a a', v.at q = some a /\ (v.setRow r y).at q = some a' /\ a.Alike a' (fun r' c' => q = [] /\ r' = r)
 | [] => by
  refine .inr ⟨v, v.setRow r y, LV.at_nil _, LV.at_nil _, rfl, rfl, by simp [LV.setRow], fun r' c' hn => ?_⟩
  have e : (v.setRow r y).row r' = if r' = r then y else v.row r' := LV.setRow_row hr r'
  show (cellC v.τ (v.row r') c').Sim (cellC v.τ ((v.setRow r y).row r') c')
  rw [e, if_neg (fun h => hn ⟨rfl, h⟩)]; exact Cell.Sim.rfl _
 | [x] => .inl ⟨LV.at_odd _ _, LV.at_odd _ _⟩
 | c2 :: r2 :: q => by
  have hk : (v.setRow r y).kid c2 r2 = v.kid c2 r2 := by
   by_cases h : r2 = r
   ·subst h; exact hy c2
   ·refine LV.kid_congr ?_
    have e : (v.setRow r y).row r2 = if r2 = r then y else v.row r2 := LV.setRow_row hr r2
    show cellC v.τ ((v.setRow r y).row r2) c2 = _
    rw [e, if_neg h]
  rw [LV.at_cons, LV.at_cons, hk]
  cases v.kid c2 r2 with
  | none => exact .inl ⟨rfl, rfl⟩
  | some k =>
   show (LV.at k q = none /\ LV.at k q = none) \/ _
   cases h : LV.at k q with
   | none => exact .inl ⟨rfl, rfl⟩
   | some a => exact .inr ⟨a, a, h, h, LV.Alike.refl _ _⟩
theorem LV.put_row : ∀ (p : List Nat) (v w0 v' : LV) (r : Nat) (y : w0.τ.D), v.at p = some w0 -> r < w0.l.length -> (∀ c, (w0.setRow r y).kid c r = w0.kid c r) -> v.put p (w0.setRow r y) = some v' ->
  v'.at p = some (w0.setRow r y) /\ (∀ q, (v'.at q = none /\ v.at q = none) \/ ∃ a a', v.at q = some a /\ v'.at q = some a' /\ a.Alike a' (fun r' c' => q = p /\ r' = r)) /\ v'.e = v.e /\ v'.τ = v.τ
 | [], v, w0, v', r, y, ha, hr, hy, hp => by
  rw [LV.at_nil] at ha; injection ha with ha; subst ha
  rw [LV.put] at hp
  injection hp with hp; subst hp
  exact ⟨LV.at_nil _, LV.setRow_at' hr hy, rfl, rfl⟩
 | [x], v, w0, v', r, y, ha, hr, hy, hp => by rw [LV.at_odd] at ha; cases ha
 | c1 :: r1 :: p, v, w0, v', r, y, ha, hr, hy, hp => by
  obtain ⟨k, k', y1, hk, hp1, hs, rfl⟩ := LV.put_cons hp
  rw [LV.at_cons, hk] at ha
  have ha : LV.at k p = some w0 := ha
  obtain ⟨i1, i2, i3, i4⟩ := LV.put_row p k w0 k' r y ha hr hy hp1
  obtain ⟨⟨l0, s1⟩, s2, s3⟩ := setKC_ok _ _ _ _ _ _ _ hs
  have hkc := LV.kid_some hk
  have hr1 : r1 < v.l.length := by
   refine Classical.byContradiction fun hn => ?_
   have e : v.row r1 = v.τ.z := by unfold LV.row; rw [List.getD_eq_getElem?_getD, List.getElem?_eq_none (by omega)]; rfl
   rw [e] at hkc
   have hz := z_ownC _ _ _ _ _ hkc
   have := LV.at_empty p k w0 hz ha
   rw [this] at hr; simp at hr
  have hkid : (v.setRow r1 y1).kid c1 r1 = some k' := by
   have e : (v.setRow r1 y1).row r1 = y1 := by rw [LV.setRow_row hr1, if_pos rfl]
   exact LV.kid_of (v := v.setRow r1 y1) (c := c1) (r := r1) (t := k'.e) (e := k'.τ) (l := k'.l) (by rw [e]; exact s2)
  refine ⟨by rw [LV.at_cons, hkid]; exact i1, fun q => ?_, rfl, rfl⟩
  by_cases hpre : [c1, r1] <+: q
  ·obtain ⟨s, rfl⟩ := hpre
   show ((v.setRow r1 y1).at (c1 :: r1 :: s) = none /\ v.at (c1 :: r1 :: s) = none) \/ _
   rw [LV.at_cons, hkid, LV.at_cons, hk]
   rcases i2 s with h | ⟨a, a', h1, h2, h3⟩
   ·exact .inl h
   ·refine .inr ⟨a, a', by rw [List.cons_append, List.cons_append, List.nil_append, LV.at_cons, hk]; exact h1, by rw [List.cons_append, List.cons_append, List.nil_append, LV.at_cons, hkid]; exact h2, h3.e, h3.τ, h3.n, fun r' c' hn => h3.c r' c' (fun ⟨e1, e2⟩ => hn ⟨by rw [e1]; rfl, e2⟩)⟩
  ·rcases LV.setRow_at (v := v) (r := r1) (c := c1) (y := y1) hr1 (.inr trivial) s3 q hpre with h | ⟨a, a', h1, h2, h3⟩
   ·exact .inl h
   ·refine .inr ⟨a, a', h1, h2, h3.e, h3.τ, h3.n, fun r' c' hn => ?_⟩
    by_cases hc : q = [] /\ r' = r1 /\ c' = c1
    ·obtain ⟨rfl, rfl, rfl⟩ := hc
     rw [LV.at_nil] at h1 h2
     injection h1 with h1; subst h1
     injection h2 with h2; subst h2
     have e : (v.setRow r' y1).row r' = y1 := by rw [LV.setRow_row hr1, if_pos rfl]
     rw [e, hkc]
     show (Cell.own k.e k.τ k.l).Sim (cellC v.τ y1 c')
     rw [s2]
     have hlen : k'.l.length = k.l.length := by
      rcases i2 [] with ⟨_, h⟩ | ⟨a, a', h1, h2, h3⟩
      ·rw [LV.at_nil] at h; cases h
      ·rw [LV.at_nil] at h1 h2
       injection h1 with h1; subst h1
       injection h2 with h2; subst h2
       exact h3.n
     exact ⟨i3.symm, i4.symm, hlen.symm⟩
    ·exact h3.c r' c' hc
def setsC (τ : Ty) (x : τ.D) (c : Nat) : List EV -> Option τ.D
 | [] => some x
 | v :: l => match setC τ x c v with
  | some y => setsC τ y (c + 1) l
  | none => none
theorem setsC_ok {τ : Ty} : ∀ (l : List EV) (x : τ.D) (c : Nat) (y : τ.D), setsC τ x c l = some y ->
  (∀ j, c <= j /\ j < c + l.length -> (∃ u, cellC τ x j = .ev u) /\ ∃ u, cellC τ y j = .ev u /\ ∀ len, Wk (toVs len l (j - c)) (toV len u)) /\ ∀ j, ¬ (c <= j /\ j < c + l.length) -> cellC τ y j = cellC τ x j
 | [], x, c, y, h => by
  simp only [setsC] at h
  injection h with h
  subst h
  exact ⟨fun j hj => by simp only [List.length_nil] at hj; omega, fun j _ => rfl⟩
 | v :: l, x, c, y, h => by
  simp only [setsC] at h
  split at h
  ·rename_i x1 h1
   obtain ⟨⟨u0, a1⟩, ⟨u1, a2, a3⟩, a4⟩ := setC_ok τ x c v x1 h1
   obtain ⟨b1, b2⟩ := setsC_ok l x1 (c + 1) y h
   refine ⟨fun j hj => ?_, fun j hj => ?_⟩
   ·simp only [List.length_cons] at hj
    by_cases hjc : j = c
    ·subst hjc
     have e := b2 j (by omega)
     refine ⟨⟨u0, a1⟩, u1, e.trans a2, fun len => ?_⟩
     rw [Nat.sub_self]; simp only [toVs]; exact a3 len
    ·obtain ⟨⟨u, c1⟩, u', c2, c3⟩ := b1 j (by omega)
     refine ⟨⟨u, by rw [<- a4 j hjc]; exact c1⟩, u', c2, fun len => ?_⟩
     have e : j - c = (j - (c + 1)) + 1 := by omega
     rw [e]; simp only [toVs]; exact c3 len
   ·simp only [List.length_cons] at hj
    rw [b2 j (by omega), a4 j (by omega)]
  ·cases h
def aggLen : EV -> Nat
 | .st k _ => SU.sz k
 | .agg l => l.length
 | _ => 0
def Cell.kid : Cell -> Option LV
 | .own t e l => some ⟨t, e, l⟩
 | .ev _ => none
theorem LV.kid_eq (v : LV) (c r : Nat) : v.kid c r = (cellC v.τ (v.row r) c).kid := by
 unfold LV.kid LV.row
 split <;> rename_i h <;> rw [h] <;> rfl
def castI (i : Nat) : (τ : Ty) -> SU.D i -> Option τ.D
 | .st i', v => castN SU.D i i' v
 | _, _ => none
def rowSet (τ : Ty) (x : τ.D) (c : Nat) (u : EV) : Option τ.D := match u with
 | .st i v => bif Codes.fro i then (match castI i τ v with
   | some y => bif Nat.beq c 0 then some y else none
   | none => setsC τ x c (cellsE 0 [] (.st i) v 0 0 (SU.sz i))) else none
 | .agg l => setsC τ x c l
 | _ => none
def cellsV (len : Len) : EV -> Nat -> V
 | .st i v, j => .t (SU.enc i v j)
 | .agg l, j => toVs len l j
 | _, _ => .un
structure RowOk (τ : Ty) (x y : τ.D) (c n : Nat) (g : Len -> Nat -> V) : Prop where
 kid : ∀ j, (cellC τ y j).kid = (cellC τ x j).kid
 old : ∀ j, j < τ.sz -> ¬ (c <= j /\ j < c + n) -> cellC τ y j = cellC τ x j
 new : ∀ j, j < τ.sz -> c <= j /\ j < c + n -> ∃ u, cellC τ y j = .ev u /\ ∀ len, Wk (g len (j - c)) (toV len u)
theorem RowOk.sets {τ : Ty} {x y : τ.D} {c : Nat} {l : List EV} (h : setsC τ x c l = some y) : RowOk τ x y c l.length (fun len => toVs len l) := by
 obtain ⟨a, b⟩ := setsC_ok _ _ _ _ h
 refine ⟨fun j => ?_, fun j _ hj => b j hj, fun j _ hj => (a j hj).2⟩
 by_cases hj : c <= j /\ j < c + l.length
 ·obtain ⟨⟨u, e1⟩, u', e2, _⟩ := a j hj
  rw [e1, e2]; rfl
 ·rw [b j hj]
theorem RowOk.set {τ : Ty} {x y : τ.D} {c : Nat} {u : EV} (h : setC τ x c u = some y) : RowOk τ x y c 1 (fun len _ => toV len u) := by
 obtain ⟨⟨u0, a1⟩, ⟨u1, a2, a3⟩, a4⟩ := setC_ok τ x c u y h
 refine ⟨fun j => ?_, fun j _ hj => a4 j (by omega), fun j _ hj => ?_⟩
 ·by_cases hj : j = c
  ·subst hj; rw [a1, a2]; rfl
  ·rw [a4 j hj]
 ·obtain rfl : j = c := by omega
  exact ⟨u1, a2, a3⟩
theorem rowSet_ok {τ : Ty} {x y : τ.D} {c : Nat} {u : EV} (h : rowSet τ x c u = some y) : RowOk τ x y c (aggLen u) (fun len => cellsV len u) := by
 unfold rowSet at h
 split at h
 ·rename_i i v
  have parts : Codes.fro i = true -> setsC τ x c (cellsE 0 [] (.st i) v 0 0 (SU.sz i)) = some y -> RowOk τ x y c (aggLen (EV.st i v)) (fun len => cellsV len (EV.st i v)) := fun hf h => by
   have k := RowOk.sets h
   rw [cellsE_len] at k
   refine ⟨k.kid, k.old, fun j h1 h2 => ?_⟩
   have h2 : c <= j /\ j < c + SU.sz i := h2
   obtain ⟨u', c1, c2⟩ := k.new j h1 h2
   refine ⟨u', c1, fun len => ?_⟩
   have := c2 len
   rw [cellsE_at _ _ _ _ _ _ _ _ _ (by omega), Nat.zero_add, cellE_F (τ := .st i) hf (by show j - c < SU.sz i; omega)] at this
   exact this
  obtain ⟨hf, h⟩ := bif_none h
  cases τ with
  | st i' =>
   simp only [castI] at h
   split at h
   ·rename_i y' hy
    obtain ⟨hc, h⟩ := bif_none h
    injection h with h
    subst h
    obtain rfl := natBeq hc
    obtain ⟨e, hy⟩ := castN_ok _ _ _ _ _ hy
    subst e
    obtain rfl := eq_of_heq hy
    refine ⟨fun j => ?_, fun j h1 h2 => ?_, fun j h1 h2 => ?_⟩
    ·obtain ⟨u1, e1, _⟩ := Codes.cell_ok i v j hf
     obtain ⟨u2, e2, _⟩ := Codes.cell_ok i x j hf
     simp only [cellC, e1, e2]; rfl
    ·exact absurd ⟨Nat.zero_le _, by rw [Nat.zero_add]; exact h1⟩ h2
    ·obtain ⟨u', e1, e2⟩ := Codes.cell_ok i v j hf
     exact ⟨u', e1, fun len => Wk.of_eq (e2 h1 len).symm⟩
   ·exact parts hf h
  | _ => exact parts hf h
 ·rename_i l
  exact RowOk.sets h
 ·cases h
theorem RowOk.kids {v : LV} {r c n : Nat} {y : v.τ.D} {g : Len -> Nat -> V} (hr : r < v.l.length) (k : RowOk v.τ (v.row r) y c n g) : ∀ c', (v.setRow r y).kid c' r = v.kid c' r := fun c' => by
 rw [LV.kid_eq, LV.kid_eq]
 have e : (v.setRow r y).row r = y := by rw [LV.setRow_row hr, if_pos rfl]
 show (cellC v.τ ((v.setRow r y).row r) c').kid = _
 rw [e]; exact k.kid c'
theorem sim_cellV {len len' : Len} {k : Nat} {p : List Nat} {r c : Nat} {x x' : Cell} (h : x.Sim x') (hd : ∀ u, x = .ev u -> u.dat = true) : cellV len' k p r c x' = cellV len k p r c x := by
 cases x with
 | ev u =>
  cases x' with
  | ev u' =>
   have h : u = u' := h
   subst h
   exact EV.dat_len (hd u rfl) _ _
  | own t e l => exact h.elim
 | own t e l =>
  cases x' with
  | ev u' => exact h.elim
  | own t' e' l' =>
   obtain ⟨h1, h2, h3⟩ := h
   show V.sref _ 0 0 l'.length = V.sref _ 0 0 l.length
   rw [h3]
theorem weak_store {s : ESt} {id : Nat} {p : List Nat} {root v root' : LV} {r c n : Nat} {y : v.τ.D} {g : Len -> Nat -> V} {o1 : AObj} (hf : Fair s) (ho : s.heap.obj id = .lst root) (hv : root.at p = some v) (hr : r < v.l.length)
  (hy : RowOk v.τ (v.row r) y c n g) (hp : root.put p (v.setRow r y) = some root')
  (h1 : o1.ver = 0) (h2 : o1.elem = v.e) (h3 : o1.sz = v.τ.sz) (h4 : o1.n = v.l.length)
  (h5 : ∀ i, i < v.l.length -> ∀ j, j < v.τ.sz -> (¬ (i = r /\ c <= j /\ j < c + n) /\ o1.get i j = (v.obj s.heap.len id p).get i j) \/ (i = r /\ (c <= j /\ j < c + n) /\ Wk (o1.get i j) (g s.heap.len (j - c))))
  (d : Option Tmp) : Weak (((toSt s).on ((toSt s).heap.set ⟨id, p⟩ o1)).put d .un) (toSt ((s.on (s.heap.set id (.lst root'))).put d .un)) := by
 obtain ⟨a1, a2, a3, a4⟩ := LV.put_row p root v root' r y hv hr (hy.kids hr) hp
 have hnewat : ∀ q, (s.heap.set id (.lst root')).at id q = root'.at q := fun q => by simp only [EHeap.at, EHeap.set, Nat.beq_refl, cond_true]
 have holdat : ∀ q, s.heap.at id q = root.at q := fun q => by simp only [EHeap.at, ho]
 have hlen : ∀ j q, (s.heap.set id (.lst root')).len j q = s.heap.len j q := fun j q => by
  by_cases hj : j = id
  ·subst hj
   unfold EHeap.len
   simp only [EHeap.set, Nat.beq_refl, cond_true, ho, OD.len]
   rcases a2 q with ⟨e1, e2⟩ | ⟨x, x', e1, e2, e3⟩
   ·rw [e1, e2]
   ·rw [e1, e2]; simp only [e3.n]
  ·exact EHeap.len_obj (EHeap.set_ne hj) q
 have hs1 : ∀ i : Id, ((toSt s).heap.set ⟨id, p⟩ o1).slot i = if i = ⟨id, p⟩ then .live o1 else (toH s.heap).slot i := fun i => by
  show (bif Id.beq i ⟨id, p⟩ then _ else _) = _
  exact beq_if _ _ _ _
 have hsn : ∀ q, (toH (s.heap.set id (.lst root'))).slot ⟨id, q⟩ = (OD.lst root').slot (s.heap.set id (.lst root')).len id q := fun q => by
  show ((s.heap.set id (.lst root')).obj id).slot _ _ _ = _
  simp only [EHeap.set, Nat.beq_refl, cond_true]
 have hso : ∀ q, (toH s.heap).slot ⟨id, q⟩ = (OD.lst root).slot s.heap.len id q := fun q => by
  show (s.heap.obj id).slot _ _ _ = _
  rw [ho]
 refine weak_root hf id (fun k' hk => by simp only [EHeap.set, natBeq_ne hk, cond_false]) (fun j q _ => hlen j q) (fun i hi => by rw [hs1, if_neg (fun e => hi (by rw [e]))]) rfl (fun hn i hi => ?_) (fun q hne => ?_) (fun q o' hl => ?_) (fun q sb g' hl => ?_) d (fun _ => by simp only [toV]; exact Wk.refl _)
 ·by_cases hi2 : i.k = id
  ·obtain ⟨j, q⟩ := i
   simp only at hi2
   subst hi2
   have := hn ⟨j, q⟩ hi
   rw [hs1] at this
   rw [hsn]
   split at this
   ·cases this
   ·rw [hso] at this
    simp only [OD.slot] at this ⊢
    rcases a2 q with ⟨e1, e2⟩ | ⟨x, x', e1, e2, e3⟩
    ·rw [e1]
    ·rw [e1] at this; cases this
  ·have := hf.next i hi
   have h' : (s.heap.obj i.k).slot s.heap.len i.k i.p = .unborn := this
   show ((s.heap.set id (.lst root')).obj i.k).slot _ _ _ = .unborn
   simp only [EHeap.set, natBeq_ne hi2, cond_false]
   exact (slot_dead (len := s.heap.len)).2.2 h'
 ·rw [hs1] at hne ⊢
  rw [hsn]
  simp only [OD.slot]
  by_cases hq : q = p
  ·subst hq
   rw [if_pos rfl, a1]
   exact ⟨h1.symm, h2.symm, h3.symm, by show (v.l.set r y).length = o1.n; rw [List.length_set, h4]⟩
  ·rw [if_neg (fun e => hq (by injection e)), hso] at hne ⊢
   simp only [OD.slot] at hne ⊢
   rcases a2 q with ⟨e1, e2⟩ | ⟨x, x', e1, e2, e3⟩
   ·rw [e2] at hne; exact absurd rfl hne
   ·rw [e1, e2]; exact ⟨rfl, e3.e, by show x'.τ.sz = x.τ.sz; rw [e3.τ], e3.n⟩
 ·rw [hsn] at hl
  rw [hs1]
  simp only [OD.slot] at hl
  by_cases hq : q = p
  ·subst hq
   rw [a1] at hl
   injection hl with hl
   subst hl
   refine ⟨o1, if_pos rfl, fun i hi j hj => ?_⟩
   have hi : i < v.l.length := by omega
   have hj : j < v.τ.sz := by omega
   have er : (v.setRow r y).row i = if i = r then y else v.row i := LV.setRow_row hr i
   show Wk (o1.get i j) (cellV _ id q i j (cellC v.τ ((v.setRow r y).row i) j))
   rw [er]
   rcases h5 i hi j hj with ⟨b1, b2⟩ | ⟨b1, b2, b3⟩
   ·rw [b2]
    have hc : cellC v.τ (if i = r then y else v.row i) j = cellC v.τ (v.row i) j := by
     by_cases hir : i = r
     ·subst hir
      rw [if_pos rfl]
      exact hy.old j hj (fun e => b1 ⟨rfl, e.1, e.2⟩)
     ·rw [if_neg hir]
    rw [hc]
    exact Wk.of_eq (sim_cellV (Cell.Sim.rfl _) (cellC_dat _ _ _)).symm
   ·subst b1
    rw [if_pos rfl]
    obtain ⟨u, e1, e2⟩ := hy.new j hj b2
    rw [e1]
    refine b3.trans ?_
    simp only [cellV]
    rw [EV.dat_len (cellC_dat _ _ _ _ e1) _ s.heap.len]
    exact e2 _
  ·rcases a2 q with ⟨e1, e2⟩ | ⟨x, x', e1, e2, e3⟩
   ·rw [e1] at hl; cases hl
   ·rw [e2] at hl
    injection hl with hl
    subst hl
    refine ⟨x.obj s.heap.len id q, by rw [if_neg (fun e => hq (by injection e)), hso]; simp only [OD.slot, e1], fun i hi j hj => ?_⟩
    exact Wk.of_eq (sim_cellV (e3.c i j (fun e => hq e.1)) (cellC_dat _ _ _)).symm
 ·rw [hsn] at hl
  simp only [OD.slot] at hl
  cases hv2 : root'.at q <;> rw [hv2] at hl <;> cases hl
end
end Go.Abs
namespace Go.Abs
open Go
noncomputable section
variable {P : Program} {d : Option Tmp} {ty : TypeId} {L : List GOp} {ρ : Type}
section
variable [SU] [Codes] {Q : Exit -> ESt -> Prop}
def frzF (k : Nat) (τ : Ty) (l : List τ.D) : Nat -> List Nat -> Option EV := fun id p => bif Nat.beq id k then (match p with
 | [] => some (.fz τ l)
 | _ :: _ => some .un) else none
def EHeap.frz (H : EHeap) (k : Nat) (v : LV) : EHeap := { H with obj := fun j => bif Nat.beq j k then .dead else scrubO (frzF k v.τ v.l) (H.obj j) }
def ESt.frz (s : ESt) (k : Nat) (v : LV) : ESt := { s with env := fun t => scrub (frzF k v.τ v.l) (s.env t), heap := s.heap.frz k v }
theorem WeakT.frz {s : ESt} {k : Nat} {v : LV} (ho : s.heap.obj k = .lst v) (hflat : froT v.τ = true) : WeakT s (s.frz k v) := Weak.fair fun hf => by
 let m : Id -> Option Id := fun i => if i.k = k then none else some i
 let Z : Id -> Prop := fun i => i = ⟨k, []⟩
 let H' := s.heap.frz k v
 have hat : s.heap.at k [] = some v := by simp only [EHeap.at, ho, LV.at_nil]
 have hlive := slot_lst hat
 have hobj : ∀ j, j ≠ k -> H'.obj j = scrubO (frzF k v.τ v.l) (s.heap.obj j) := fun j h => by simp only [H', EHeap.frz, natBeq_ne h, cond_false]
 have hne : ∀ id p, frzF k v.τ v.l id p = none -> id ≠ k := fun id p h e => by
  subst e
  simp only [frzF, Nat.beq_refl, cond_true] at h
  cases p <;> cases h
 have hdead : ∀ p, (toH H').slot ⟨k, p⟩ = .dead := fun p => by
  show (H'.obj k).slot _ _ _ = _
  simp only [H', EHeap.frz, Nat.beq_refl, cond_true]; rfl
 have hk : ScrubOk (frzF k v.τ v.l) s.heap (toH s.heap) H' m Z := ⟨fun id p u h => by
   by_cases e : id = k
   ·subst e
    simp only [frzF, Nat.beq_refl, cond_true] at h
    cases p with
    | cons x y => injection h with h; subst h; simp only [toV]; exact KG.un
    | nil =>
     injection h with h; subst h
     simp only [toV, EHeap.len_at hat]
     rintro E ι F w c rr ⟨h0, h1⟩
     rw [hlive] at h1
     obtain ⟨hn, A, cap, g1, g2, g3⟩ := h1.2 rfl
     obtain ⟨o1, o2⟩ := rr.obj _ _ hlive
     refine ⟨A, cap, g1, g2, o1, fun hpos => ?_⟩
     obtain ⟨b, cur, p1, p2, p3, p4⟩ := g3 (by omega)
     rw [p1] at o2
     obtain ⟨cur', q1, q2, q3⟩ := o2
     rw [p3] at q1
     injection q1 with q1
     injection q1 with q1
     subst q1
     refine ⟨b, 0, by rw [p2, Nat.zero_mul], .inr ⟨⟨id, []⟩, rfl, by rw [hlive]; trivial, p1⟩, fun i hi j hj => ?_⟩
     obtain ⟨c', r1, r2, r3⟩ := q3 i hi j hj
     refine ⟨c', ?_, ?_⟩
     ·rw [Nat.zero_add]
      simp [World.cell?, p3]; exact r1
     ·obtain ⟨u, e1, e2⟩ := cellC_enc v.τ (v.row i) j hflat
      have r3 : VRel (toH s.heap) ι F w (cellV s.heap.len id [] i j (cellC v.τ (v.row i) j)) c' := r3
      rw [e1] at r3
      simp only [cellV] at r3
      rw [e2 hj] at r3
      exact Reads.mono (fun b hb => .inl hb) (fun _ _ => rfl) _ _ r3
   ·simp only [frzF, natBeq_ne e, cond_false] at h
    exact (nomatch h),
  fun id p h hb => by
   have e := hne id p h
   refine .inr ⟨?_, by simp only [m, if_neg e]⟩
   show SlotLike _ ((H'.obj id).slot H'.len id p)
   rw [hobj id e]
   exact scrub_slots hb,
  fun id p h hb => EHeap.len_scrub (hobj id (hne id p h)) p⟩
 have gen : Gen (toH s.heap) (toH H') m Z := by
  refine Gen.scrub (fun j => j = k) hk hf.obj (fun j hj => ⟨fun p => by simp only [frzF, natBeq_ne hj, cond_false], hobj j hj, fun p => by simp only [m, if_neg hj], fun p h => hj (by injection h), fun p => rfl⟩)
   (fun i hi o' ho' => ?_) (fun i hi sb g' hm => ?_) (fun i j x hi h1' h2' e1 e2 => ?_) rfl (fun i hi => ?_) (fun i hi hil hip => ?_)
  ·obtain ⟨j, p⟩ := i
   simp only at hi; subst hi
   rw [hdead] at ho'; cases ho'
  ·obtain ⟨j, p⟩ := i
   simp only at hi; subst hi
   rw [hdead] at hm; cases hm
  ·simp only [m, if_pos hi] at e1; cases e1
  ·by_cases hik : i.k = k
   ·exfalso
    have hi : s.heap.next <= i.k := hi
    have := hf.next ⟨k, []⟩ (by rw [<- hik]; exact hi)
    rw [hlive] at this; cases this
   ·show (H'.obj i.k).slot _ _ _ = _
    rw [hobj _ hik]
    exact scrub_unborn.2 (hf.next i hi)
  ·obtain ⟨j, p⟩ := i
   simp only at hi; subst hi
   exact .inr (.inl (hdead p))
 refine Weak.gen m Z rfl gen (fun t => ScrubOk.keeps hk _ (hf.env t))
def rootsOf : EV -> List Nat
 | .sfull k [] => [k]
 | .agg l => l.filterMap fun u => match u with
  | .sfull k [] => some k
  | _ => none
 | _ => []
def frzAll (s : ESt) (K : ESt -> Option ρ) : List Nat -> Option ρ
 | [] => K s
 | k :: ks => match s.heap.obj k with
  | .lst v => bif froT v.τ then frzAll (s.frz k v) K ks else none
  | _ => frzAll s K ks
theorem frzAll_out {K : ESt -> Option ρ} {res : ρ} : ∀ (ks : List Nat) (s : ESt), frzAll s K ks = some res -> ∃ s', WeakT s s' /\ K s' = some res
 | [], s, h => ⟨s, WeakT.refl s, h⟩
 | k :: ks, s, h => by
  unfold frzAll at h
  split at h
  ·rename_i v ho
   obtain ⟨h1, h⟩ := bif_none h
   obtain ⟨s', q1, q2⟩ := frzAll_out ks _ h
   exact ⟨s', (WeakT.frz ho h1).trans q1, q2⟩
  ·exact frzAll_out ks _ h
def setL : List EV -> Nat -> EV -> List EV
 | [], _, _ => []
 | _ :: l, 0, v => v :: l
 | a :: l, n + 1, v => a :: setL l n v
theorem setL_len : ∀ (l : List EV) (c : Nat) (v : EV), (setL l c v).length = l.length
 | [], c, v => rfl
 | a :: l, 0, v => rfl
 | a :: l, n + 1, v => by simp [setL, setL_len l n v]
theorem setL_at (len : Len) : ∀ (l : List EV) (c : Nat) (v : EV) (j : Nat), j < l.length -> toVs len (setL l c v) j = if j = c then toV len v else toVs len l j
 | [], c, v, j, h => absurd h (Nat.not_lt_zero _)
 | a :: l, 0, v, 0, h => by simp [setL, toVs]
 | a :: l, 0, v, j + 1, h => by simp [setL, toVs]
 | a :: l, n + 1, v, 0, h => by simp [setL, toVs]
 | a :: l, n + 1, v, j + 1, h => by
  simp only [setL, toVs]
  rw [setL_at len l n v j (by simpa using h)]
  simp
def setsL : List EV -> Nat -> List EV -> List EV
 | l, _, [] => l
 | l, c, v :: m => setsL (setL l c v) (c + 1) m
theorem setsL_len : ∀ (m l : List EV) (c : Nat), (setsL l c m).length = l.length
 | [], l, c => rfl
 | v :: m, l, c => by simp only [setsL]; rw [setsL_len m, setL_len]
theorem setsL_at (len : Len) : ∀ (m l : List EV) (c : Nat) (j : Nat), j < l.length -> toVs len (setsL l c m) j = if c <= j /\ j < c + m.length then toVs len m (j - c) else toVs len l j
 | [], l, c, j, h => by rw [if_neg (by simp only [List.length_cons, List.length_nil]; omega)]; rfl
 | v :: m, l, c, j, h => by
  simp only [setsL]
  rw [setsL_at len m _ (c + 1) j (by rw [setL_len]; exact h), setL_at len l c v j h]
  by_cases h2 : c + 1 <= j /\ j < c + 1 + m.length
  ·rw [if_pos h2, if_pos (by simp only [List.length_cons, List.length_nil]; omega)]
   have e : j - c = (j - (c + 1)) + 1 := by omega
   rw [e]; simp only [toVs]
  ·rw [if_neg h2]
   by_cases h3 : j = c
   ·rw [if_pos h3, if_pos (by simp only [List.length_cons, List.length_nil]; omega)]
    have e : j - c = 0 := by omega
    rw [e]; simp only [toVs]
   ·rw [if_neg h3, if_neg (by simp only [List.length_cons, List.length_nil]; omega)]
theorem bif_and {a b c d : Nat} {x y : V} : (bif Nat.beq a b && Nat.beq c d then x else y) = if a = b /\ c = d then x else y := by
 by_cases h1 : a = b
 ·subst h1
  by_cases h2 : c = d
  ·subst h2; simp
  ·rw [natBeq_ne h2, if_neg (fun e => h2 e.2)]; simp
 ·rw [natBeq_ne h1, if_neg (fun e => h1 e.1)]; simp
theorem bif_in {i r c j n : Nat} {x y : V} : (bif Nat.beq i r && (Nat.ble c j && Nat.blt j (c + n)) then x else y) = if i = r /\ c <= j /\ j < c + n then x else y := by
 by_cases h1 : i = r
 ·subst h1
  by_cases h2 : c <= j
  ·by_cases h3 : j < c + n
   ·rw [Nat.ble_eq_true_of_le h2, blt_true h3, if_pos ⟨rfl, h2, h3⟩]; simp
   ·rw [blt_false (Nat.le_of_not_lt h3), if_neg (fun e => h3 e.2.2)]; simp
  ·have : Nat.ble c j = false := by
    cases hb : Nat.ble c j with
    | false => rfl
    | true => exact absurd (Nat.le_of_ble_eq_true hb) h2
   rw [this, if_neg (fun e => h2 e.2.1)]; simp
 ·rw [natBeq_ne h1, if_neg (fun e => h1 e.1)]; simp
inductive FCells (s : ESt) (id : Nat) (e : TypeId) (m : List EV) : Prop where
 | cells (ho : s.heap.obj id = .cells e m)
 | box {τ : Ty} {x : τ.D} (ho : s.heap.obj id = .lst ⟨e, τ, [x]⟩) (hf : froT τ = true) (hm : m = cellsE id [] τ x 0 0 τ.sz)
theorem FCells.slot {s : ESt} {id : Nat} {e : TypeId} {m : List EV} (h : FCells s id e m) : ∃ o, (toH s.heap).slot ⟨id, []⟩ = .live o /\ o.ver = 0 /\ o.elem = e /\ o.sz = m.length /\ o.n = 1 /\ (∀ c, c < m.length -> o.get 0 c = toVs s.heap.len m c) /\ ∀ p, p ≠ [] -> (toH s.heap).slot ⟨id, p⟩ = .unborn := by
 cases h with
 | cells ho =>
  refine ⟨_, slot_cells ho, rfl, rfl, rfl, rfl, fun c hc => rfl, fun p hp => ?_⟩
  show (s.heap.obj id).slot _ _ _ = _
  rw [ho]; cases p <;> first | exact absurd rfl hp | rfl
 | @box τ x ho hf hm =>
  have hat : s.heap.at id [] = some ⟨e, τ, [x]⟩ := by simp only [EHeap.at, ho, LV.at_nil]
  refine ⟨_, slot_lst hat, rfl, rfl, by rw [hm, cellsE_len]; rfl, rfl, fun c hc => ?_, fun p hp => ?_⟩
  ·rw [hm, cellsE_len] at hc
   rw [hm, cellsE_at _ _ _ _ _ _ _ _ _ hc, Nat.zero_add]
   exact (cellE_V (v := ⟨e, τ, [x]⟩) hat 0 c).symm
  ·show (s.heap.obj id).slot _ _ _ = _
   rw [ho]
   exact OD.flat_slot (o := .lst ⟨e, τ, [x]⟩) hf p hp
theorem weak_cells {s : ESt} {id : Nat} {e : TypeId} {m m' : List EV} {o1 : AObj} (hf : Fair s) (hc : FCells s id e m) (hl : m'.length = m.length) (hb : ∀ j, j < m'.length -> Born (toH s.heap) (toVs s.heap.len m' j))
  (h1 : o1.ver = 0) (h2 : o1.elem = e) (h3 : o1.sz = m.length) (h4 : o1.n = 1) (h5 : ∀ j, j < m.length -> Wk (o1.get 0 j) (toVs s.heap.len m' j)) (d : Option Tmp) :
  Weak (((toSt s).on ((toSt s).heap.set ⟨id, []⟩ o1)).put d .un) (toSt ((s.on (s.heap.set id (.cells e m'))).put d .un)) := by
 obtain ⟨o, q1, q2, q3, q4, q5, q6, q7⟩ := hc.slot
 have hlen : ∀ j p, (s.heap.set id (.cells e m')).len j p = s.heap.len j p := fun j p => by
  by_cases hj : j = id
  ·subst hj
   unfold EHeap.len
   simp only [EHeap.set, Nat.beq_refl, cond_true]
   cases hc with
   | cells ho => rw [ho]; cases p <;> rfl
   | box ho hf hm =>
    rw [ho]
    cases p with
    | nil => simp only [OD.len, LV.at_nil]; rfl
    | cons x y => simp only [OD.len, LV.at_flat (v := ⟨e, _, _⟩) hf (x :: y) (by simp)]
  ·exact EHeap.len_obj (EHeap.set_ne hj) p
 have hs1 : ∀ i : Id, ((toSt s).heap.set ⟨id, []⟩ o1).slot i = if i = ⟨id, []⟩ then .live o1 else (toH s.heap).slot i := fun i => by
  show (bif Id.beq i ⟨id, []⟩ then _ else _) = _
  exact beq_if _ _ _ _
 have hsn : ∀ p, (toH (s.heap.set id (.cells e m'))).slot ⟨id, p⟩ = (OD.cells e m').slot (s.heap.set id (.cells e m')).len id p := fun p => by
  show ((s.heap.set id (.cells e m')).obj id).slot _ _ _ = _
  simp only [EHeap.set, Nat.beq_refl, cond_true]
 refine weak_root hf id (fun k' hk => EHeap.set_ne hk) (fun j q _ => hlen j q) (fun i hi => by rw [hs1, if_neg (fun e => hi (by rw [e]))]) rfl (fun hn i hi => ?_) (fun p hne => ?_) (fun p o' hl' => ?_) (fun p sb g' hl' => ?_) d (fun _ => by simp only [toV]; exact Wk.refl _)
 ·by_cases hi2 : i.k = id
  ·obtain ⟨j, p⟩ := i
   simp only at hi2
   subst hi2
   have := hn ⟨j, p⟩ hi
   rw [hs1] at this
   rw [hsn]
   split at this
   ·cases this
   ·rename_i hne
    cases p with
    | nil => exact absurd rfl hne
    | cons x y => rfl
  ·have := hf.next i hi
   have h' : (s.heap.obj i.k).slot s.heap.len i.k i.p = .unborn := this
   show ((s.heap.set id (.cells e m')).obj i.k).slot _ _ _ = .unborn
   rw [EHeap.set_ne hi2]
   exact (slot_dead (len := s.heap.len)).2.2 h'
 ·rw [hs1] at hne ⊢
  rw [hsn]
  by_cases hp : p = []
  ·subst hp
   rw [if_pos rfl]
   exact ⟨h1.symm, h2.symm, by rw [h3]; exact hl, h4.symm⟩
  ·rw [if_neg (fun e => hp (by injection e))] at hne
   exact absurd (q7 p hp) hne
 ·rw [hsn] at hl'
  rw [hs1]
  cases p with
  | cons x y => cases hl'
  | nil =>
   injection hl' with hl'
   subst hl'
   refine ⟨o1, if_pos rfl, fun r hr c hc => ?_⟩
   obtain rfl : r = 0 := by omega
   show Wk (o1.get 0 c) (toVs _ m' c)
   rw [toVs_len (H := toH s.heap) (fun j p _ => hlen j p) m' hb]
   exact h5 c (by omega)
 ·rw [hsn] at hl'
  cases p <;> cases hl'
end
end
end Go.Abs
namespace Go.Abs
open Go
noncomputable section
variable {P : Program} {d : Option Tmp} {ty : TypeId} {L : List GOp} {ρ : Type}
section
variable [SU] [Codes] {Q : Exit -> ESt -> Prop}
theorem LV.at_even : ∀ (p : List Nat) (v a : LV), v.at p = some a -> p.length % 2 = 0
 | [], _, _, _ => rfl
 | [x], v, a, h => by rw [LV.at_odd] at h; cases h
 | c :: r :: p, v, a, h => by
  rw [LV.at_cons] at h
  cases hk : v.kid c r with
  | none => rw [hk] at h; cases h
  | some k =>
   rw [hk] at h
   have := LV.at_even p k a h
   simp only [List.length_cons]; omega
def attF (id k n : Nat) : Nat -> List Nat -> Option EV := fun j q => bif Nat.beq j k then some .un else bif Nat.beq j id && Nat.ble n q.length then some .un else none
theorem attF_none {id k n j : Nat} {q : List Nat} (h : attF id k n j q = none) : j ≠ k /\ ¬ (j = id /\ n <= q.length) := by
 unfold attF at h
 cases e1 : Nat.beq j k with
 | true => rw [e1] at h; cases h
 | false =>
  rw [e1] at h
  simp only [cond_false] at h
  refine ⟨fun e => by subst e; simp at e1, fun ⟨e2, e3⟩ => ?_⟩
  subst e2
  rw [Nat.beq_refl, Nat.ble_eq_true_of_le e3] at h
  cases h
theorem attF_some {id k n j : Nat} {q : List Nat} {u : EV} (h : attF id k n j q = some u) : u = .un := by
 unfold attF at h
 cases e1 : Nat.beq j k with
 | true => rw [e1] at h; injection h with h; exact h.symm
 | false =>
  rw [e1] at h
  simp only [cond_false] at h
  cases e2 : Nat.beq j id && Nat.ble n q.length with
  | true => rw [e2] at h; injection h with h; exact h.symm
  | false => rw [e2] at h; cases h
theorem attF_not {id k n j : Nat} {q : List Nat} (h1 : j ≠ k) (h2 : j = id -> q.length < n) : attF id k n j q = none := by
 unfold attF
 rw [natBeq_ne h1, cond_false]
 by_cases e : j = id
 ·have : Nat.ble n q.length = false := by
   cases hb : Nat.ble n q.length with
   | false => rfl
   | true => have := Nat.le_of_ble_eq_true hb; have := h2 e; omega
  rw [this, Bool.and_false, cond_false]
 ·rw [natBeq_ne e, Bool.false_and, cond_false]
def attM (id k : Nat) (P : List Nat) : Id -> Option Id := fun i => if i.k = id then (if P <+: i.p then some ⟨k, i.p.drop P.length⟩ else some i) else if i.k = k then none else some i
def EHeap.att (H : EHeap) (id k : Nat) (P : List Nat) (root' : LV) : EHeap :=
 { H with obj := fun j => bif Nat.beq j id then .lst root' else bif Nat.beq j k then .dead else scrubO (attF id k P.length) (H.obj j) }
def ESt.att (s : ESt) (id k : Nat) (P : List Nat) (root' : LV) : ESt := { s with env := fun t => scrub (attF id k P.length) (s.env t), heap := s.heap.att id k P root' }
theorem weak_att {s : ESt} {id k : Nat} {p : List Nat} {root v root' w : LV} {r c : Nat} {y : v.τ.D} {H1 : Heap} {o1 : AObj} (hf : Fair s) (hik : id ≠ k) (ho : s.heap.obj id = .lst root) (hk : s.heap.obj k = .lst w) (hv : root.at p = some v) (hr : r < v.l.length)
  (hc : c < v.τ.sz) (hy1 : cellC v.τ y c = .own w.e w.τ w.l) (hy2 : ∀ c', c' ≠ c -> cellC v.τ y c' = cellC v.τ (v.row r) c') (hp : root.put p (v.setRow r y) = some root')
  (hs1 : ∀ i, H1.slot i = if i = ⟨id, p⟩ then .live o1 else (toH s.heap).slot i) (hlo : H1.lo = s.heap.lo)
  (h1 : o1.ver = 0) (h2 : o1.elem = v.e) (h3 : o1.sz = v.τ.sz) (h4 : o1.n = v.l.length)
  (h5 : ∀ i, i < v.l.length -> ∀ j, j < v.τ.sz -> (¬ (i = r /\ j = c) /\ o1.get i j = (v.obj s.heap.len id p).get i j) \/ (i = r /\ j = c /\ Wk (o1.get i j) (.sref ⟨k, []⟩ 0 0 w.l.length)))
  (d : Option Tmp) : Weak (((toSt s).on H1).put d .un) (toSt ((s.att id k (p ++ [c, r]) root').put d .un)) := by
 let PP : List Nat := p ++ [c, r]
 let m : Id -> Option Id := attM id k PP
 let f := attF id k PP.length
 let H' := s.heap.att id k PP root'
 obtain ⟨a1, a2, a3, a4⟩ := LV.put_ok p root v root' r c y hv hr hy2 hp
 have hpe := LV.at_even p root v hv
 have hPP : PP.length = p.length + 2 := by simp [PP]
 have atP : ∀ q, root'.at (PP ++ q) = w.at q := fun q => by
  have e1 : root'.at PP = some ⟨w.e, w.τ, w.l⟩ := by
   rw [LV.at_append _ _ _ _ a1, LV.at_one]
   refine LV.kid_of ?_
   rw [LV.setRow_row hr, if_pos rfl]
   exact hy1
  rw [LV.at_append _ _ _ _ e1]
 have hobj : ∀ j, j ≠ id -> j ≠ k -> H'.obj j = scrubO f (s.heap.obj j) := fun j e1 e2 => by simp only [H', EHeap.att, natBeq_ne e1, natBeq_ne e2, cond_false]; rfl
 have hobji : H'.obj id = .lst root' := by simp only [H', EHeap.att, Nat.beq_refl, cond_true]
 have hobjk : H'.obj k = .dead := by simp only [H', EHeap.att, natBeq_ne (fun e => hik e.symm), cond_false, Nat.beq_refl, cond_true]
 have hsl : ∀ q, (toH s.heap).slot ⟨id, q⟩ = (OD.lst root).slot s.heap.len id q := fun q => by show (s.heap.obj id).slot _ _ _ = _; rw [ho]
 have hslk : ∀ q, (toH s.heap).slot ⟨k, q⟩ = (OD.lst w).slot s.heap.len k q := fun q => by show (s.heap.obj k).slot _ _ _ = _; rw [hk]
 have hsl' : ∀ q, (toH H').slot ⟨id, q⟩ = (OD.lst root').slot H'.len id q := fun q => by show (H'.obj id).slot _ _ _ = _; rw [hobji]
 have fn : ∀ j q, f j q = none -> j ≠ k /\ ¬ (j = id /\ PP <+: q) := fun j q h => by
  obtain ⟨e1, e2⟩ := attF_none h
  exact ⟨e1, fun ⟨x, y⟩ => e2 ⟨x, y.length_le⟩⟩
 have mo : ∀ j q, j ≠ id -> j ≠ k -> m ⟨j, q⟩ = some ⟨j, q⟩ := fun j q e1 e2 => by simp only [m, attM, if_neg e1, if_neg e2]
 have mi : ∀ q, ¬ PP <+: q -> m ⟨id, q⟩ = some ⟨id, q⟩ := fun q e => by simp only [m, attM, if_true, if_neg e]
 have mp : ∀ q, m ⟨id, PP ++ q⟩ = some ⟨k, q⟩ := fun q => by
  simp only [m, attM, if_true]
  rw [if_pos ⟨q, rfl⟩]
  simp
 have mk : ∀ q, m ⟨k, q⟩ = none := fun q => by simp only [m, attM, if_neg (fun e : k = id => hik e.symm), if_true]
 have hkk : ScrubOk f s.heap H1 H' m (fun _ => False) := ⟨fun j q u h => by
   have : u = .un := attF_some h
   rw [this]; simp only [toV]; exact KG.un,
  fun j q h hb => by
   obtain ⟨e1, e2⟩ := fn j q h
   by_cases hj : j = id
   ·subst hj
    have hq : ¬ PP <+: q := fun e => e2 ⟨rfl, e⟩
    refine .inr ⟨?_, mi q hq⟩
    rw [hsl', hs1]
    rw [hsl] at hb
    simp only [OD.slot] at hb ⊢
    by_cases hqp : q = p
    ·subst hqp
     rw [if_pos rfl, a1]
     exact ⟨h1.symm, h2.symm, h3.symm, by show (v.l.set r y).length = o1.n; rw [List.length_set, h4]⟩
    ·rw [if_neg (fun e => hqp (by injection e)), hsl]
     simp only [OD.slot]
     rcases a2 q hq with ⟨x1, x2⟩ | ⟨x, x', x1, x2, x3⟩
     ·rw [x2] at hb; exact absurd rfl hb
     ·rw [x1, x2]; exact ⟨rfl, x3.e, by show x'.τ.sz = x.τ.sz; rw [x3.τ], x3.n⟩
   ·refine .inr ⟨?_, mo j q hj e1⟩
    rw [hs1, if_neg (fun e => hj (by injection e))]
    show SlotLike _ ((H'.obj j).slot H'.len j q)
    rw [hobj j hj e1]
    exact scrub_slots hb,
  fun j q h hb => by
   obtain ⟨e1, e2⟩ := fn j q h
   by_cases hj : j = id
   ·subst hj
    have hq : ¬ PP <+: q := fun e => e2 ⟨rfl, e⟩
    unfold EHeap.len
    rw [hobji, ho]
    simp only [OD.len]
    rcases a2 q hq with ⟨x1, x2⟩ | ⟨x, x', x1, x2, x3⟩
    ·rw [x1, x2]
    ·rw [x1, x2]; simp only [x3.n]
   ·exact EHeap.len_scrub (hobj j hj e1) q⟩
 have fo : ∀ j, j ≠ id -> j ≠ k -> ∀ q, f j q = none := fun j e1 e2 q => attF_not e2 (fun e => absurd e e1)
 have lenP : H'.len id PP = some w.l.length := by
  unfold EHeap.len
  rw [hobji]
  simp only [OD.len]
  have := atP []
  rw [List.append_nil, LV.at_nil] at this
  rw [this]
 -- cells of the list that moves
 have cellM : ∀ (q : List Nat) (a : LV), w.at q = some a -> ∀ r' c', r' < a.l.length -> KG H1 (toH H') m (fun _ => False) (cellV s.heap.len k q r' c' (cellC a.τ (a.row r') c')) (cellV H'.len id (PP ++ q) r' c' (cellC a.τ (a.row r') c')) := fun q a ha r' c' hr' => by
  cases hx : cellC a.τ (a.row r') c' with
  | ev u => exact KG.dat (cellC_dat _ _ _ _ hx)
  | own t e l =>
   simp only [cellV]
   have e1 : (toH s.heap).slot ⟨k, q ++ [c', r']⟩ = .live (LV.obj s.heap.len k (q ++ [c', r']) ⟨t, e, l⟩) := by
    rw [hslk]
    exact kid_born ha hx
   have e2 : (toH H').slot ⟨id, PP ++ q ++ [c', r']⟩ = .live (LV.obj H'.len id (PP ++ q ++ [c', r']) ⟨t, e, l⟩) := by
    rw [hsl']
    exact kid_born (by rw [atP]; exact ha) hx
   refine KG.sref (o := LV.obj s.heap.len k (q ++ [c', r']) ⟨t, e, l⟩) (by rw [hs1, if_neg (fun e => hik (by injection e with e _; exact e.symm))]; exact e1) e2 ?_ rfl rfl rfl rfl (by show 0 + l.length <= l.length; omega)
   have := mp (q ++ [c', r'])
   rwa [<- List.append_assoc] at this
 have idlive : (toH s.heap).slot ⟨id, []⟩ ≠ .unborn := by rw [hsl]; simp only [OD.slot, LV.at_nil]; intro e; cases e
 have klive : (toH s.heap).slot ⟨k, []⟩ ≠ .unborn := by rw [hslk]; simp only [OD.slot, LV.at_nil]; intro e; cases e
 have kdead : ∀ q, (toH H').slot ⟨k, q⟩ = .dead := fun q => by show (H'.obj k).slot _ _ _ = _; rw [hobjk]; rfl
 have hs1n : ∀ j q, (j = id -> q ≠ p) -> H1.slot ⟨j, q⟩ = (toH s.heap).slot ⟨j, q⟩ := fun j q e => by
  rw [hs1, if_neg (fun e2 => by injection e2 with e2 e3; exact e e2 e3)]
 -- cells of the lists that stay
 have cellS : ∀ (q : List Nat) (a a' : LV), root.at q = some a -> root'.at q = some a' -> q.length % 2 = 0 -> ¬ PP <+: q -> ∀ r' c' (x x' : Cell), ¬ (q = p /\ r' = r /\ c' = c) -> x = cellC a.τ (a.row r') c' -> x' = cellC a'.τ (a'.row r') c' -> x.Sim x' ->
   KG H1 (toH H') m (fun _ => False) (cellV s.heap.len id q r' c' x) (cellV H'.len id q r' c' x') := fun q a a' ha ha' hqe hnq r' c' x x' hne hx hx' hsim => by
  cases x with
  | ev u =>
   cases x' with
   | own t e l => exact hsim.elim
   | ev u' =>
    have : u = u' := hsim
    subst this
    exact KG.dat (cellC_dat _ _ _ _ hx.symm)
  | own t e l =>
   cases x' with
   | ev u => exact hsim.elim
   | own t' e' l' =>
    obtain ⟨rfl, rfl, hl⟩ := hsim
    simp only [cellV]
    have np : ¬ PP <+: q ++ [c', r'] := fun ⟨z, hz⟩ => by
     have hlen := congrArg List.length hz
     simp only [List.length_append, List.length_cons, List.length_nil] at hlen
     by_cases hz0 : z = []
     ·subst hz0
      rw [List.append_nil] at hz
      have h2 : p = q /\ [c, r] = [c', r'] := List.append_inj' hz rfl
      have h3 := h2.2
      simp only [List.cons.injEq, and_true] at h3
      exact hne ⟨h2.1.symm, h3.2.symm, h3.1.symm⟩
     ·have hzl : z.length ≠ 0 := fun e => hz0 (List.eq_nil_of_length_eq_zero e)
      refine hnq (List.prefix_of_prefix_length_le ⟨z, hz⟩ (List.prefix_append q [c', r']) ?_)
      omega
    rw [hl]
    have e1 : (toH s.heap).slot ⟨id, q ++ [c', r']⟩ = .live (LV.obj s.heap.len id (q ++ [c', r']) ⟨t, e, l⟩) := by rw [hsl]; exact kid_born ha hx.symm
    have e2 : (toH H').slot ⟨id, q ++ [c', r']⟩ = .live (LV.obj H'.len id (q ++ [c', r']) ⟨t, e, l'⟩) := by rw [hsl']; exact kid_born ha' hx'.symm
    by_cases hqp : q ++ [c', r'] = p
    ·have hv2 : root.at (q ++ [c', r']) = some ⟨t, e, l⟩ := by rw [LV.at_append _ _ _ _ ha, LV.at_one, LV.kid_of hx.symm]
     have hvv : v = ⟨t, e, l⟩ := by rw [hqp, hv] at hv2; injection hv2
     refine KG.sref (o := o1) (by rw [hs1, if_pos (by rw [hqp])]) e2 (mi _ np) h1.symm rfl ?_ ?_ (by show 0 + l'.length <= l'.length; omega)
     ·rw [h3, hvv]; rfl
     ·rw [h2, hvv]; rfl
    ·exact KG.sref (o := LV.obj s.heap.len id (q ++ [c', r']) ⟨t, e, l⟩) (by rw [hs1n _ _ (fun _ => hqp)]; exact e1) e2 (mi _ np) rfl rfl rfl rfl (by show 0 + l'.length <= l'.length; omega)
 have gen : Gen H1 (toH H') m (fun _ => False) := by
  refine Gen.scrub (fun j => j = id \/ j = k) hkk hf.obj (fun j hj => ?_) (fun i hi o' ho' => ?_) (fun i hi sb g' hm => ?_) (fun i j x hi h1' h2' e1 e2 => ?_) (by rw [hlo]; rfl) (fun i hi => ?_) (fun i hi hil hip => ?_)
  ·have e1 : j ≠ id := fun e => hj (.inl e)
   have e2 : j ≠ k := fun e => hj (.inr e)
   exact ⟨fo j e1 e2, hobj j e1 e2, fun q => mo j q e1 e2, fun q h => h, fun q => hs1n j q (fun e => absurd e e1)⟩
  ·obtain ⟨j, q⟩ := i
   by_cases hj : j = id
   ·subst hj
    rw [hsl'] at ho'
    simp only [OD.slot] at ho'
    cases ha' : root'.at q with
    | none => rw [ha'] at ho'; cases ho'
    | some a' =>
     rw [ha'] at ho'
     injection ho' with ho'; subst ho'
     by_cases hq : PP <+: q
     ·obtain ⟨q', rfl⟩ := hq
      rw [atP] at ha'
      refine .inr ⟨⟨k, q'⟩, LV.obj s.heap.len k q' a', mp q', ?_, fun h => h, rfl, rfl, Nat.le_refl _, fun r' hr' c' _ => cellM q' a' ha' r' c' hr'⟩
      rw [hs1n _ _ (fun e => absurd e.symm hik), hslk]
      simp only [OD.slot, ha']
     ·by_cases hqp : q = p
      ·subst hqp
       rw [a1] at ha'
       injection ha' with ha'; subst ha'
       refine .inr ⟨⟨j, q⟩, o1, mi q hq, by rw [hs1, if_pos rfl], fun h => h, h2.symm, h3.symm, by rw [h4]; show (v.l.set r y).length <= _; rw [List.length_set]; exact Nat.le_refl _, fun r' hr' c' hc' => ?_⟩
       have hr' : r' < v.l.length := by
        have : r' < (v.l.set r y).length := hr'
        rwa [List.length_set] at this
       have hc' : c' < v.τ.sz := hc'
       have er : (v.setRow r y).row r' = if r' = r then y else v.row r' := LV.setRow_row hr r'
       show KG _ _ _ _ _ (cellV H'.len j q r' c' (cellC v.τ ((v.setRow r y).row r') c'))
       rcases h5 r' hr' c' hc' with ⟨b1, b2⟩ | ⟨rfl, rfl, b3⟩
       ·rw [b2]
        refine cellS q v (v.setRow r y) hv a1 hpe hq r' c' _ _ (fun e => b1 ⟨e.2.1, e.2.2⟩) rfl rfl ?_
        have : cellC v.τ ((v.setRow r y).row r') c' = cellC v.τ (v.row r') c' := by
         rw [er]
         by_cases hrr : r' = r
         ·rw [if_pos hrr, hrr]; exact hy2 c' (fun e => b1 ⟨hrr, e⟩)
         ·rw [if_neg hrr]
        show (cellC v.τ (v.row r') c').Sim (cellC v.τ ((v.setRow r y).row r') c')
        rw [this]; exact Cell.Sim.rfl _
       ·rw [er, if_pos rfl, hy1]
        simp only [cellV]
        have e2 : (toH H').slot ⟨j, PP⟩ = .live (LV.obj H'.len j PP w) := by
         rw [hsl']
         have := atP []
         rw [List.append_nil, LV.at_nil] at this
         simp only [OD.slot, this]
        have e1 : H1.slot ⟨k, []⟩ = .live (LV.obj s.heap.len k [] w) := by
         rw [hs1n _ _ (fun e => absurd e.symm hik), hslk]
         simp only [OD.slot, LV.at_nil]
        have em : m ⟨j, PP⟩ = some ⟨k, []⟩ := by
         have := mp []
         rwa [List.append_nil] at this
        exact KG.of_wk' b3 (KG.sref e1 e2 em rfl rfl rfl rfl (by show 0 + w.l.length <= w.l.length; omega))
      ·rcases a2 q hq with ⟨x1, x2⟩ | ⟨x, x', x1, x2, x3⟩
       ·rw [x1] at ha'; cases ha'
       ·rw [x2] at ha'
        injection ha' with ha'; subst ha'
        refine .inr ⟨⟨j, q⟩, LV.obj s.heap.len j q x, mi q hq, ?_, fun h => h, x3.e, ?_, Nat.le_of_eq x3.n, fun r' hr' c' hc' => ?_⟩
        ·rw [hs1n _ _ (fun _ => hqp), hsl]
         simp only [OD.slot, x1]
        ·show x'.τ.sz = x.τ.sz
         rw [x3.τ]
        ·exact cellS q x x' x1 x2 (LV.at_even _ _ _ x1) hq r' c' _ _ (fun e => hqp e.1) rfl rfl (x3.c r' c' (fun e => hqp e.1))
   ·have hj2 : j = k := hi.resolve_left hj
    subst hj2
    rw [kdead] at ho'; cases ho'
  ·obtain ⟨j, q⟩ := i
   by_cases hj : j = id
   ·subst hj
    rw [hsl'] at hm
    simp only [OD.slot] at hm
    cases ha' : root'.at q <;> rw [ha'] at hm <;> cases hm
   ·have hj2 : j = k := hi.resolve_left hj
    subst hj2
    rw [kdead] at hm; cases hm
  ·obtain ⟨j1, q1⟩ := i
   obtain ⟨j2, q2⟩ := j
   have n1 : j1 ≠ k := fun e => by subst e; rw [kdead] at h1'; exact h1'
   have n2 : j2 ≠ k := fun e => by subst e; rw [kdead] at h2'; exact h2'
   have hj : j1 = id := hi.resolve_right n1
   subst hj
   have key : ∀ q y, m ⟨j1, q⟩ = some y -> (PP <+: q /\ y = ⟨k, q.drop PP.length⟩) \/ (¬ PP <+: q /\ y = ⟨j1, q⟩) := fun q y e => by
    by_cases hq : PP <+: q
    ·obtain ⟨z, rfl⟩ := hq
     rw [mp] at e
     injection e with e
     exact .inl ⟨⟨z, rfl⟩, by rw [<- e]; simp⟩
    ·rw [mi q hq] at e
     injection e with e
     exact .inr ⟨hq, e.symm⟩
   by_cases hj2 : j2 = j1
   ·subst hj2
    rcases key q1 x e1 with ⟨p1, x1⟩ | ⟨p1, x1⟩ <;> rcases key q2 x e2 with ⟨p2, x2⟩ | ⟨p2, x2⟩
    ·rw [x1] at x2
     injection x2 with _ x2
     obtain ⟨z1, rfl⟩ := p1
     obtain ⟨z2, rfl⟩ := p2
     simp at x2
     rw [x2]
    ·rw [x1] at x2
     injection x2 with x2 _
     exact absurd x2.symm hik
    ·rw [x1] at x2
     injection x2 with x2 _
     exact absurd x2 hik
    ·rw [<- x1, <- x2]
   ·rw [mo j2 q2 hj2 n2] at e2
    injection e2 with e2
    rcases key q1 x e1 with ⟨p1, x1⟩ | ⟨p1, x1⟩
    ·rw [x1] at e2; injection e2 with e2 _; exact absurd e2 n2
    ·rw [x1] at e2; injection e2 with e2 _; exact absurd e2 hj2
  ·have hi : s.heap.next <= i.k := hi
   have e1 : i.k ≠ id := fun e => idlive (by
    have := hf.next ⟨id, []⟩ (by rw [<- e]; exact hi)
    exact this)
   have e2 : i.k ≠ k := fun e => klive (by
    have := hf.next ⟨k, []⟩ (by rw [<- e]; exact hi)
    exact this)
   show (H'.obj i.k).slot _ _ _ = _
   rw [hobj _ e1 e2]
   exact scrub_unborn.2 (hf.next i hi)
  ·obtain ⟨j, q⟩ := i
   simp only at hip hil
   subst hip
   by_cases hj : j = id
   ·subst hj
    have np : ¬ PP <+: ([] : List Nat) := fun ⟨z, hz⟩ => by
     have := congrArg List.length hz
     simp only [List.length_append, List.length_nil] at this
     omega
    have fnone : f j [] = none := attF_not hik (fun _ => by rw [hPP]; simp)
    rcases hkk.slot j [] fnone idlive with h | ⟨h, h'⟩
    ·exact .inr (.inl h)
    ·exact .inr (.inr ⟨h', h⟩)
   ·have hj2 : j = k := hi.resolve_left hj
    subst hj2
    exact .inr (.inl (kdead []))
 refine Weak.gen m (fun _ => False) (by rw [toSt_put, put_nt, put_nt]; rfl) (by rw [put_heap, toSt_put, put_heap]; exact gen) (fun t => ?_)
 have hh1 : (((toSt s).on H1).put d .un).heap = H1 := by rw [put_heap]; rfl
 have hh2 : (toSt ((s.att id k (p ++ [c, r]) root').put d .un)).heap = toH H' := by rw [toSt_put, put_heap]; rfl
 rw [hh1, hh2, toSt_put]
 have base : KG H1 (toH H') m (fun _ => False) (toV s.heap.len (s.env t)) (toV H'.len (scrub f (s.env t))) := ScrubOk.keeps hkk _ (hf.env t)
 cases d with
 | none => exact base
 | some d =>
  show KG _ _ _ _ ((((toSt s).on H1).put (some d) .un).env t) (((toSt (s.att id k (p ++ [c, r]) root')).put (some d) _).env t)
  simp only [St.put]
  cases Nat.beq t d with
  | false => exact base
  | true =>
   show KG _ _ _ _ _ (bif Nat.blt d s.nt then toV H'.len .un else .un)
   cases Nat.blt d s.nt <;> exact KG.un
theorem up_slot {len : Len} {k : Nat} {e : TypeId} {i j : Nat} {f : SU.D i -> SU.D j} {l : List (SU.D i)} (h : Codes.upF i j = some f) (p : List Nat) : (OD.lst ⟨e, .st j, l.map f⟩).slot len k p = (OD.lst ⟨e, .st i, l⟩).slot len k p /\ (OD.lst ⟨e, .st j, l.map f⟩).len p = (OD.lst ⟨e, .st i, l⟩).len p := by
 obtain ⟨h1, h2, h3⟩ := Codes.up_ok i j f h
 have hrow : ∀ r, (l.map f).getD r (SU.z j) = f (l.getD r (SU.z i)) := fun r => by
  rw [<- h2]
  simp only [List.getD_eq_getElem?_getD, List.getElem?_map]
  cases l[r]? <;> rfl
 have hc : ∀ r c, cellC (.st j) (LV.row ⟨e, .st j, l.map f⟩ r) c = cellC (.st i) (LV.row ⟨e, .st i, l⟩ r) c := fun r c => by
  show Codes.cell j ((l.map f).getD r (SU.z j)) c = Codes.cell i (l.getD r (SU.z i)) c
  rw [hrow]; exact h3 _ _
 match p with
 | [] =>
  simp only [OD.slot, OD.len, LV.at_nil]
  have hn : (l.map f).length = l.length := List.length_map _
  have hg : (fun r c => cellV len k [] r c (cellC (.st j) (LV.row ⟨e, .st j, l.map f⟩ r) c)) = (fun r c => cellV len k [] r c (cellC (.st i) (LV.row ⟨e, .st i, l⟩ r) c)) := by
   funext r c
   rw [hc]
  refine ⟨?_, by rw [show (LV.mk e (.st j) (l.map f)).l.length = l.length from hn]⟩
  show Slot.live { elem := e, sz := SU.sz j, ver := 0, n := (l.map f).length, get := fun r c => cellV len k [] r c (cellC (.st j) (LV.row ⟨e, .st j, l.map f⟩ r) c) } = Slot.live { elem := e, sz := SU.sz i, ver := 0, n := l.length, get := fun r c => cellV len k [] r c (cellC (.st i) (LV.row ⟨e, .st i, l⟩ r) c) }
  rw [hn, h1, hg]
 | [x] => simp only [OD.slot, OD.len, LV.at_odd, and_self]
 | c :: r :: q =>
  have hk : LV.kid ⟨e, .st j, l.map f⟩ c r = LV.kid ⟨e, .st i, l⟩ c r := by
   unfold LV.kid
   have := hc r c
   unfold LV.row at this
   rw [this]
  simp only [OD.slot, OD.len, LV.at_cons, hk, and_self]
theorem toSt_up {s : ESt} {k : Nat} {e : TypeId} {i j : Nat} {f : SU.D i -> SU.D j} {l : List (SU.D i)} (ho : s.heap.obj k = .lst ⟨e, .st i, l⟩) (h : Codes.upF i j = some f) : toSt (s.on (s.heap.set k (.lst ⟨e, .st j, l.map f⟩))) = toSt s := by
 have hl : (s.heap.set k (.lst ⟨e, .st j, l.map f⟩)).len = s.heap.len := by
  funext a p
  unfold EHeap.len
  by_cases ha : a = k
  ·subst ha
   simp only [EHeap.set, Nat.beq_refl, cond_true, ho]
   exact (up_slot (len := fun _ _ => none) (k := 0) h p).2
  ·rw [EHeap.set_ne ha]
 unfold toSt ESt.on toH
 simp only [hl]
 congr 2
 funext id
 by_cases ha : id.k = k
 ·simp only [EHeap.set, ha, Nat.beq_refl, cond_true, ho]
  exact (up_slot h id.p).1
 ·rw [EHeap.set_ne ha]
def upTo (w : LV) (e : Ty) : LV := match w, e with
 | ⟨el, .st i, l⟩, .st j => (match Codes.upF i j with
  | some f => ⟨el, .st j, l.map f⟩
  | none => ⟨el, .st i, l⟩)
 | w, _ => w
theorem toSt_upTo {s : ESt} {k : Nat} {w : LV} (e : Ty) (ho : s.heap.obj k = .lst w) : toSt (s.on (s.heap.set k (.lst (upTo w e)))) = toSt s := by
 have same : toSt (s.on (s.heap.set k (.lst w))) = toSt s := by
  have : s.on (s.heap.set k (.lst w)) = s := by
   obtain ⟨nt, env, H⟩ := s
   obtain ⟨nx, lo, obj, md⟩ := H
   unfold ESt.on EHeap.set
   simp only
   congr 2
   funext a
   by_cases ha : a = k
   ·subst ha; rw [Nat.beq_refl]; exact ho.symm
   ·rw [natBeq_ne ha]; rfl
  rw [this]
 unfold upTo
 split
 ·rename_i el i l j
  split
  ·rename_i f hf
   exact toSt_up ho hf
  ·exact same
 ·exact same
theorem Fair.of_eq {s s1 : ESt} (h : toSt s1 = toSt s) (hn : s1.heap.next = s.heap.next) (hf : Fair s) : Fair s1 := by
 have hH : toH s1.heap = toH s.heap := congrArg St.heap h
 have hE : ∀ t, toV s1.heap.len (s1.env t) = toV s.heap.len (s.env t) := fun t => congrFun (congrArg St.env h) t
 exact ⟨fun t => by rw [hH, hE]; exact hf.env t, by rw [hH]; exact hf.obj, by rw [hH, hn]; exact hf.next⟩
end
end
end Go.Abs
namespace Go.Abs
open Go
noncomputable section
variable {P : Program} {d : Option Tmp} {ty : TypeId} {L : List GOp} {ρ : Type}
section
variable [SU] [Codes] {Q : Exit -> ESt -> Prop}
def partsE : EV -> Option (List EV)
 | .st k v => bif Codes.fro k then some (cellsE 0 [] (.st k) v 0 0 (SU.sz k)) else none
 | .agg l => some l
 | _ => none
def shO {α ρ : Type} (x : α) (K : α -> Option ρ) : Option ρ := K x
@[simp] theorem shO_eq {α ρ : Type} (x : α) (K : α -> Option ρ) : shO x K = K x := rfl
def putO (s : ESt) (d : Option Tmp) (id : Nat) (back : LV -> Option LV) (v : LV) (r : Nat) (y : v.τ.D) (K : ESt -> Option ρ) : Option ρ := match back ⟨v.e, v.τ, v.l.set r y⟩ with
 | some root' => bif froT root'.τ then K ((s.on (s.heap.set id (.lst root'))).put d .un) else shO root'.l fun l => K ((s.on (s.heap.set id (.lst ⟨root'.e, root'.τ, l⟩))).put d .un)
 | none => none
def attO (s : ESt) (d : Option Tmp) (id : Nat) (p : List Nat) (back : LV -> Option LV) (v : LV) (r c : Nat) (u : EV) (K : ESt -> Option ρ) (no : Option ρ) : Option ρ := match u with
 | .sfull k [] => (match ownTC v.τ c with
  | some (_, e) => (match s.heap.obj k with
   | .lst w => bif Nat.beq id k then none else (match ownSC v.τ (v.l.getD r v.τ.z) c (upTo w e).e (upTo w e).τ (upTo w e).l with
    | some y => (match back ⟨v.e, v.τ, v.l.set r y⟩ with
     | some root' => shO root'.l fun l => K (((s.on (s.heap.set k (.lst (upTo w e)))).att id k (p ++ [c, r]) ⟨root'.e, root'.τ, l⟩).put d .un)
     | none => none)
    | none => none)
   | _ => no)
  | none => no)
 | _ => no
def store1 (s : ESt) (d : Option Tmp) (agg : Bool) (sz : Nat) (a u : EV) (K : ESt -> Option ρ) (no : Option ρ) : Option ρ := match a with
 | .ptr id p r c => match s.heap.obj id with
  | .cells e l => match p with
   | [] => grd (Nat.blt r 1) (bif agg then (match partsE u with
     | some m => bif Nat.beq m.length sz && Nat.ble (c + sz) l.length then K ((s.on (s.heap.set id (.cells e (setsL l c m)))).put d .un) else none
     | none => none)
      else bif Nat.beq sz 1 && Nat.blt c l.length && u.one then K ((s.on (s.heap.set id (.cells e (setL l c u)))).put d .un) else none)
   | _ => none
  | .lst root => root.walkK p fun v back => grd (Nat.blt r v.l.length) (bif agg then (bif Nat.beq (aggLen u) sz && Nat.ble (c + sz) v.τ.sz then (match rowSet v.τ (v.l.getD r v.τ.z) c u with
      | some y => putO s d id back v r y K
      | none => no) else none)
     else bif Nat.beq sz 1 && Nat.blt c v.τ.sz && u.one then (match setC v.τ (v.l.getD r v.τ.z) c u with
      | some y => putO s d id back v r y K
      | none => attO s d id p back v r c u K no) else none)
  | _ => none
 | _ => none
theorem agg_eval {s : ESt} {y : Operand} (h0 : 0 < aggLen (s.eval y)) : ∃ g, (toSt s).eval y = .agg (aggLen (s.eval y)) g /\ ∀ j, j < aggLen (s.eval y) -> Wk (g j) (cellsV s.heap.len (s.eval y) j) := by
 cases he : s.eval y with
 | st i v =>
  have := eval_eq he rfl
  rw [this]
  exact ⟨_, by simp only [toV]; rfl, fun j hj => Wk.refl _⟩
 | agg l =>
  obtain ⟨g', hg, hw⟩ := tmp_eq he
  exact ⟨g', hg, hw⟩
 | _ => rw [he] at h0; exact absurd h0 (Nat.lt_irrefl _)
theorem evCell_born (H : Heap) (len : Len) (v : Value) : Born H (toV len (evCell v)) := by rw [evCell_eq]; exact V.cell_born _ _
theorem eval_born {s : ESt} (hf : Fair s) (x : Operand) : Born (toH s.heap) (toV s.heap.len (s.eval x)) := by
 cases x with
 | tmp t => exact hf.env t
 | const v =>
  show Born _ (toV _ (evOf v))
  rcases evOf_cases v with ⟨cs, rfl⟩ | e
  ·simp only [evOf]
   cases ha : cs.all (·.oneCell') with
   | false => simp only [cond_false, toV]; trivial
   | true =>
    simp only [cond_true, toV, List.length_map, Array.length_toList]
    intro j hj
    rw [toVs_eq]
    simp only [List.getD_eq_getElem?_getD, List.getElem?_map, Array.getElem?_toList]
    rw [Array.getElem?_eq_getElem hj]
    exact evCell_born _ _ _
  ·rw [e]; exact evCell_born _ _ _
 | global g => simp only [ESt.eval, toV]; trivial
 | func f => simp only [ESt.eval, toV]; intro j hj; exact absurd hj (Nat.not_lt_zero _)
theorem parts_ok {s : ESt} {y : Operand} {m : List EV} (hf : Fair s) (h : partsE (s.eval y) = some m) : m.length = aggLen (s.eval y) /\ (∀ j, j < m.length -> Wk (cellsV s.heap.len (s.eval y) j) (toVs s.heap.len m j)) /\ ∀ j, j < m.length -> Born (toH s.heap) (toVs s.heap.len m j) := by
 cases he : s.eval y with
 | st k v =>
  rw [he] at h
  simp only [partsE] at h
  obtain ⟨hfr, h⟩ := bif_none h
  injection h with h
  subst h
  rw [cellsE_len]
  have e : ∀ j, j < SU.sz k -> toVs s.heap.len (cellsE 0 [] (.st k) v 0 0 (SU.sz k)) j = .t (SU.enc k v j) := fun j hj => by
   rw [cellsE_at _ _ _ _ _ _ _ _ _ hj, Nat.zero_add, cellE_F (τ := .st k) hfr hj]; rfl
  exact ⟨rfl, fun j hj => by rw [e j hj]; exact Wk.refl _, fun j hj => by rw [e j hj]; trivial⟩
 | agg l =>
  rw [he] at h
  simp only [partsE] at h
  injection h with h
  subst h
  have := eval_born hf y
  rw [he] at this
  simp only [toV] at this
  exact ⟨rfl, fun j hj => Wk.refl _, this⟩
 | _ => rw [he] at h; cases h
theorem setL_born {s : ESt} {l : List EV} {c : Nat} {u : EV} (hl : ∀ j, j < l.length -> Born (toH s.heap) (toVs s.heap.len l j)) (hu : Born (toH s.heap) (toV s.heap.len u)) :
  ∀ j, j < (setL l c u).length -> Born (toH s.heap) (toVs s.heap.len (setL l c u) j) := fun j hj => by
 rw [setL_len] at hj
 rw [setL_at _ _ _ _ _ hj]
 split
 ·exact hu
 ·exact hl j hj
theorem setsL_born {s : ESt} {l m : List EV} {c : Nat} (hl : ∀ j, j < l.length -> Born (toH s.heap) (toVs s.heap.len l j)) (hm : ∀ j, j < m.length -> Born (toH s.heap) (toVs s.heap.len m j)) :
  ∀ j, j < (setsL l c m).length -> Born (toH s.heap) (toVs s.heap.len (setsL l c m) j) := fun j hj => by
 rw [setsL_len] at hj
 rw [setsL_at _ _ _ _ _ hj]
 split
 ·exact hm _ (by omega)
 ·exact hl j hj
theorem FCells.born {s : ESt} {id : Nat} {e : TypeId} {m : List EV} (hf : Fair s) (h : FCells s id e m) : ∀ j, j < m.length -> Born (toH s.heap) (toVs s.heap.len m j) := fun j hj => by
 obtain ⟨o, q1, q2, q3, q4, q5, q6, q7⟩ := h.slot
 rw [<- q6 j hj]
 exact hf.obj _ _ q1 0 (by omega) j (by omega)
theorem store_cells1 [T : Tys P] {s : ESt} {t : TypeId} {x y : Operand} {id c : Nat} {e : TypeId} {m : List EV} {K : ESt -> Option ρ} {res : ρ} (hK : ∀ s', K s' = some res -> SLT P L Q s') (hf : Fair s) (hx : s.eval x = .ptr id [] 0 c) (hc : FCells s id e m)
  (h0 : Nat.blt 0 (Tys.c P t).sz = true) (ha : (Tys.c P t).agg = false) (hsz : Nat.beq (Tys.c P t).sz 1 = true) (hcl : Nat.blt c m.length = true) (hu : (s.eval y).one = true)
  (h : K ((s.on (s.heap.set id (.cells e (setL m c (s.eval y))))).put d .un) = some res) : SL P (⟨d, .store t x y, ty, none⟩ :: L) (liftQ Q) (toSt s) := by
 have := TySz.of' h0 ha
 rw [natBeq hsz] at this
 have hcl := Nat.le_of_ble_eq_true hcl
 obtain ⟨o, q1, q2, q3, q4, q5, q6, q7⟩ := hc.slot
 have hx := eval_eq hx rfl
 simp only [toV] at hx
 obtain ⟨u, u1, u2, u3⟩ := one_eq hu
 refine SL.store1 hx q1 q2.symm (by omega) (by rw [q4]; exact hcl) u1 u2 (SL.weak (weak_cells (o1 := o.put1 0 c u) hf hc (setL_len _ _ _) (setL_born (hc.born hf) (eval_born hf y)) q2 q3 q4 q5 (fun j hj => ?_) d) (hK _ h).out)
 simp only [AObj.put1, bif_and]
 rw [setL_at _ _ _ _ _ hj]
 by_cases hjc : j = c
 ·rw [if_pos ⟨trivial, hjc⟩, if_pos hjc]; exact u3
 ·rw [if_neg (fun e => hjc e.2), if_neg hjc, q6 j hj]; exact Wk.refl _
theorem store_cellsA [T : Tys P] {s : ESt} {t : TypeId} {x y : Operand} {id c : Nat} {e : TypeId} {m l : List EV} {K : ESt -> Option ρ} {res : ρ} (hK : ∀ s', K s' = some res -> SLT P L Q s') (hf : Fair s) (hx : s.eval x = .ptr id [] 0 c) (hc : FCells s id e m)
  (h0 : Nat.blt 0 (Tys.c P t).sz = true) (ha : (Tys.c P t).agg = true) (hp : partsE (s.eval y) = some l) (hsz : Nat.beq l.length (Tys.c P t).sz = true) (hcl : Nat.ble (c + (Tys.c P t).sz) m.length = true)
  (h : K ((s.on (s.heap.set id (.cells e (setsL m c l)))).put d .un) = some res) : SL P (⟨d, .store t x y, ty, none⟩ :: L) (liftQ Q) (toSt s) := by
 have := TySz.of' h0 ha
 have hsz := natBeq hsz
 have hcl := Nat.le_of_ble_eq_true hcl
 have h0' : 0 < (Tys.c P t).sz := Nat.le_of_ble_eq_true h0
 obtain ⟨o, q1, q2, q3, q4, q5, q6, q7⟩ := hc.slot
 have hx := eval_eq hx rfl
 simp only [toV] at hx
 obtain ⟨p1, p2, p3⟩ := parts_ok hf hp
 obtain ⟨g, hg, hw⟩ := agg_eval (s := s) (y := y) (by omega)
 rw [<- p1, hsz] at hg
 refine SL.storeA hx q1 q2.symm (by omega) (by rw [q4]; exact hcl) hg (SL.weak (weak_cells (o1 := o.put 0 c (Tys.c P t).sz g) hf hc (setsL_len _ _ _) (setsL_born (hc.born hf) p3) q2 q3 q4 q5 (fun j hj => ?_) d) (hK _ h).out)
 simp only [AObj.put, bif_in]
 rw [setsL_at _ _ _ _ _ hj, hsz]
 by_cases hjc : c <= j /\ j < c + (Tys.c P t).sz
 ·rw [if_pos ⟨trivial, hjc⟩, if_pos hjc]
  exact (hw _ (by omega)).trans (p2 _ (by omega))
 ·rw [if_neg (fun e => hjc e.2), if_neg hjc, q6 j hj]; exact Wk.refl _
theorem store1_ok [T : Tys P] {s : ESt} {t : TypeId} {x y : Operand} {K : ESt -> Option ρ} {no : Option ρ} {res : ρ} (hK : ∀ s', K s' = some res -> SLT P L Q s') (h0 : Nat.blt 0 (Tys.c P t).sz = true)
  (hno : Fair s -> no = some res -> SL P (⟨d, .store t x y, ty, none⟩ :: L) (liftQ Q) (toSt s))
  (h : store1 s d (Tys.c P t).agg (Tys.c P t).sz (s.eval x) (s.eval y) K no = some res) : SLT P (⟨d, .store t x y, ty, none⟩ :: L) Q s := by
 refine ⟨SL.fair fun hf => ?_⟩
 unfold store1 at h
 split at h
 ·rename_i id p r c hx
  split at h
  ·rename_i e l ho
   split at h
   ·have hh := grd_out h
    clear h
    obtain ⟨hr, h⟩ := hh
    have hr := Nat.le_of_ble_eq_true hr
    obtain rfl : r = 0 := by omega
    cases ha : (Tys.c P t).agg with
    | true =>
     rw [ha] at h
     simp only [cond_true] at h
     split at h
     ·rename_i m hm
      obtain ⟨hb, h⟩ := bif_none h
      simp only [Bool.and_eq_true] at hb
      exact store_cellsA hK hf hx (.cells ho) h0 ha hm hb.1 hb.2 h
     ·cases h
    | false =>
     rw [ha] at h
     simp only [cond_false] at h
     obtain ⟨hb, h⟩ := bif_none h
     simp only [Bool.and_eq_true] at hb
     exact store_cells1 hK hf hx (.cells ho) h0 ha hb.1.1 hb.1.2 hb.2 h
   ·cases h
  ·rename_i root ho
   obtain ⟨v, back, hv, hback, g⟩ := LV.walkK_out _ _ _ _ h
   clear h
   obtain ⟨hr, h⟩ := grd_out g
   clear g
   have hr : r < v.l.length := Nat.le_of_ble_eq_true hr
   have hat : s.heap.at id p = some v := by simp only [EHeap.at, ho]; exact hv
   have hs := slot_lst hat
   have hx := eval_eq hx rfl
   simp only [toV] at hx
   cases ha : (Tys.c P t).agg with
   | true =>
    rw [ha] at h
    simp only [cond_true] at h
    obtain ⟨hb, h⟩ := bif_none h
    simp only [Bool.and_eq_true] at hb
    split at h
    ·rename_i y' hy
     unfold putO at h
     split at h
     ·rename_i root' hp
      have h : K ((s.on (s.heap.set id (.lst root'))).put d .un) = some res := by cases hfr : froT root'.τ <;> (rw [hfr] at h; exact h)
      have hp := hback _ _ hp
      have h1 := natBeq hb.1
      have h2 := Nat.le_of_ble_eq_true hb.2
      have h0' : 0 < (Tys.c P t).sz := Nat.le_of_ble_eq_true h0
      have := TySz.of' h0 ha
      obtain ⟨g, hg, hw⟩ := agg_eval (s := s) (y := y) (by omega)
      have k := rowSet_ok hy
      rw [h1] at hg k
      refine SL.storeA hx hs rfl hr h2 hg (SL.weak (weak_store (o1 := (v.obj s.heap.len id p).put r c (Tys.c P t).sz g) (g := fun len => cellsV len (s.eval y)) hf ho hv hr k hp rfl rfl rfl rfl (fun i hi j hj => ?_) d) (hK _ h).out)
      simp only [AObj.put, bif_in]
      by_cases hjc : i = r /\ c <= j /\ j < c + (Tys.c P t).sz
      ·exact .inr ⟨hjc.1, hjc.2, by rw [if_pos hjc]; exact hw _ (by omega)⟩
      ·exact .inl ⟨hjc, by rw [if_neg hjc]⟩
     ·cases h
    ·exact hno hf h
   | false =>
    rw [ha] at h
    simp only [cond_false] at h
    obtain ⟨hb, h⟩ := bif_none h
    simp only [Bool.and_eq_true] at hb
    have h1 := natBeq hb.1.1
    have h2 : c < v.τ.sz := Nat.le_of_ble_eq_true hb.1.2
    have := TySz.of' h0 ha
    rw [h1] at this
    split at h
    ·rename_i y' hy
     unfold putO at h
     split at h
     ·rename_i root' hp
      have h : K ((s.on (s.heap.set id (.lst root'))).put d .un) = some res := by cases hfr : froT root'.τ <;> (rw [hfr] at h; exact h)
      have hp := hback _ _ hp
      obtain ⟨u, u1, u2, u3⟩ := one_eq hb.2
      refine SL.store1 hx hs rfl hr h2 u1 u2 (SL.weak (weak_store (o1 := (v.obj s.heap.len id p).put1 r c u) (g := fun len _ => toV len (s.eval y)) hf ho hv hr (RowOk.set hy) hp rfl rfl rfl rfl (fun i hi j hj => ?_) d) (hK _ h).out)
      simp only [AObj.put1, bif_and]
      by_cases hjc : i = r /\ j = c
      ·exact .inr ⟨hjc.1, by omega, by rw [if_pos hjc]; exact u3⟩
      ·exact .inl ⟨fun e => hjc ⟨e.1, by omega⟩, by rw [if_neg hjc]⟩
     ·cases h
    ·unfold attO at h
     split at h
     ·rename_i k hu
      split at h
      ·rename_i te e hte
       split at h
       ·rename_i w hw
        cases hik : Nat.beq id k with
        | true => rw [hik] at h; cases h
        | false =>
         rw [hik] at h
         simp only [cond_false] at h
         have hne : id ≠ k := fun e => by subst e; simp at hik
         split at h
         ·rename_i y' hy
          split at h
          ·rename_i root' hp
           have hp := hback _ _ hp
           have heq := toSt_upTo e hw
           let s1 : ESt := s.on (s.heap.set k (.lst (upTo w e)))
           have hf1 : Fair s1 := Fair.of_eq heq rfl hf
           have ho1 : s1.heap.obj id = .lst root := by show (bif Nat.beq id k then _ else _) = _; rw [hik]; exact ho
           have hw1 : s1.heap.obj k = .lst (upTo w e) := by show (bif Nat.beq k k then _ else _) = _; rw [Nat.beq_refl]; rfl
           have hu1 : s1.eval y = .sfull k [] := hu
           have hone : (s1.eval y).one = true := by rw [hu1]; rfl
           obtain ⟨u, u1, u2, u3⟩ := one_eq hone
           have hatk : s1.heap.at k [] = some (upTo w e) := by simp only [EHeap.at, hw1, LV.at_nil]
           rw [hu1] at u3
           simp only [toV, EHeap.len_at hatk] at u3
           obtain ⟨y1, y2⟩ := ownSC_ok _ _ _ _ _ _ _ hy
           have hat1 : s1.heap.at id p = some v := by simp only [EHeap.at, ho1]; exact hv
           have hs1 := slot_lst hat1
           have hx1 : (toSt s1).eval x = .ptr ⟨id, p⟩ 0 r c := by rw [heq]; exact hx
           rw [<- heq]
           refine SL.store1 hx1 hs1 rfl hr h2 u1 u2 (SL.weak (weak_att (H1 := (toSt s1).heap.set ⟨id, p⟩ ((v.obj s1.heap.len id p).put1 r c u)) (o1 := (v.obj s1.heap.len id p).put1 r c u) hf1 hne ho1 hw1 hv hr h2 y1 y2 hp (fun i => ?_) rfl rfl rfl rfl rfl (fun i hi j hj => ?_) d) (hK _ h).out)
           ·show (bif Id.beq i ⟨id, p⟩ then _ else _) = _
            exact beq_if _ _ _ _
           ·simp only [AObj.put1, bif_and]
            by_cases hjc : i = r /\ j = c
            ·exact .inr ⟨hjc.1, hjc.2, by rw [if_pos hjc]; exact u3⟩
            ·exact .inl ⟨hjc, by rw [if_neg hjc]⟩
          ·cases h
         ·cases h
       ·exact hno hf h
      ·exact hno hf h
     ·exact hno hf h
  ·cases h
 ·cases h
def storeBox (s : ESt) (d : Option Tmp) (agg : Bool) (sz : Nat) (a u : EV) (K : ESt -> Option ρ) (no : Option ρ) : Option ρ := match a with
 | .ptr id [] r c => match s.heap.obj id with
  | .lst ⟨e, τ, [x]⟩ => bif froT τ then grd (Nat.blt r 1) (bif agg then (match partsE u with
     | some m => bif Nat.beq m.length sz && Nat.ble (c + sz) τ.sz then K ((s.on (s.heap.set id (.cells e (setsL (cellsE id [] τ x 0 0 τ.sz) c m)))).put d .un) else none
     | none => none)
      else bif Nat.beq sz 1 && Nat.blt c τ.sz && u.one then K ((s.on (s.heap.set id (.cells e (setL (cellsE id [] τ x 0 0 τ.sz) c u)))).put d .un) else none) else no
  | _ => no
 | _ => no
theorem storeBox_ok [T : Tys P] {s : ESt} {t : TypeId} {x y : Operand} {K : ESt -> Option ρ} {no : Option ρ} {res : ρ} (hK : ∀ s', K s' = some res -> SLT P L Q s') (h0 : Nat.blt 0 (Tys.c P t).sz = true)
  (hno : no = some res -> SL P (⟨d, .store t x y, ty, none⟩ :: L) (liftQ Q) (toSt s)) (hf : Fair s)
  (h : storeBox s d (Tys.c P t).agg (Tys.c P t).sz (s.eval x) (s.eval y) K no = some res) : SL P (⟨d, .store t x y, ty, none⟩ :: L) (liftQ Q) (toSt s) := by
 unfold storeBox at h
 split at h
 ·rename_i id r c hx
  split at h
  ·rename_i e τ z ho
   cases hfr : froT τ with
   | false => rw [hfr] at h; exact hno h
   | true =>
    rw [hfr] at h
    simp only [cond_true] at h
    have hh := grd_out h
    clear h
    obtain ⟨hr, h⟩ := hh
    have hr := Nat.le_of_ble_eq_true hr
    obtain rfl : r = 0 := by omega
    have hc : FCells s id e (cellsE id [] τ z 0 0 τ.sz) := .box ho hfr rfl
    cases ha : (Tys.c P t).agg with
    | true =>
     rw [ha] at h
     simp only [cond_true] at h
     split at h
     ·rename_i m hm
      obtain ⟨hb, h⟩ := bif_none h
      simp only [Bool.and_eq_true] at hb
      exact store_cellsA hK hf hx hc h0 ha hm hb.1 (by rw [cellsE_len]; exact hb.2) h
     ·cases h
    | false =>
     rw [ha] at h
     simp only [cond_false] at h
     obtain ⟨hb, h⟩ := bif_none h
     simp only [Bool.and_eq_true] at hb
     exact store_cells1 hK hf hx hc h0 ha hb.1.1 (by rw [cellsE_len]; exact hb.1.2) hb.2 h
  ·exact hno h
 ·exact hno h
def storeO (P : Program) [Tys P] (s : ESt) (d : Option Tmp) (t : TypeId) (x y : Operand) (K : ESt -> Option ρ) : Option ρ :=
 bif Nat.blt 0 (Tys.c P t).sz then store1 s d (Tys.c P t).agg (Tys.c P t).sz (s.eval x) (s.eval y) K
  (storeBox s d (Tys.c P t).agg (Tys.c P t).sz (s.eval x) (s.eval y) K
   (frzAll s (fun s' => store1 s' d (Tys.c P t).agg (Tys.c P t).sz (s'.eval x) (s'.eval y) K none) (rootsOf (s.eval y)))) else none
theorem storeO_ok [T : Tys P] {s : ESt} {t : TypeId} {x y : Operand} {K : ESt -> Option ρ} {res : ρ} (hK : ∀ s', K s' = some res -> SLT P L Q s') (h : storeO P s d t x y K = some res) : SLT P (⟨d, .store t x y, ty, none⟩ :: L) Q s := by
 unfold storeO at h
 obtain ⟨h0, h⟩ := bif_none h
 refine store1_ok hK h0 (fun hf h => ?_) h
 refine storeBox_ok hK h0 (fun h => ?_) hf h
 obtain ⟨s', w, h⟩ := frzAll_out _ _ h
 exact SL.weak w (store1_ok (no := none) hK h0 (fun _ h => by cases h) h).out
end
end
end Go.Abs
