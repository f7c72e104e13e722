/-
Typed states: lists of the state's own become data that is only read; stores.
No statement of the program is proved here.
-/
import Derived.Test.YtlcholjffgaemaaG8
set_option linter.unusedVariables false
set_option linter.unusedSimpArgs false
set_option linter.unusedSectionVars false
namespace Go.Abs
open Go
noncomputable section

variable {P : Program} {d : Option Tmp} {ty : TypeId} {L : List GOp} {ρ : Type}

section
variable [SU] [Codes] {Q : Exit → ESt → Prop}
def frzF (k : Nat) (τ : Ty) (l : List τ.D) : Nat → List Nat → Option EV := fun id p => bif Nat.beq id k then (match p with
  | [] => some (.fz τ l)
  | _ :: _ => some .un) else none
def EHeap.frz (H : EHeap) (k : Nat) (v : LV) : EHeap := { H with obj := fun j => bif Nat.beq j k then .dead else scrubO (frzF k v.τ v.l) (H.obj j) }
def ESt.frz (s : ESt) (k : Nat) (v : LV) : ESt := { s with env := fun t => scrub (frzF k v.τ v.l) (s.env t), heap := s.heap.frz k v }
theorem WeakT.frz {s : ESt} {k : Nat} {v : LV} (ho : s.heap.obj k = .lst v) (hflat : froT v.τ = true) : WeakT s (s.frz k v) := Weak.fair fun hf => by
  let m : Id → Option Id := fun i => if i.k = k then none else some i
  let Z : Id → Prop := fun i => i = ⟨k, []⟩
  let H' := s.heap.frz k v
  have hat : s.heap.at k [] = some v := by simp only [EHeap.at, ho, LV.at_nil]
  have hlive := slot_lst hat
  have hobj : ∀ j, j ≠ k → H'.obj j = scrubO (frzF k v.τ v.l) (s.heap.obj j) := fun j h => by simp only [H', EHeap.frz, natBeq_ne h, cond_false]
  have hne : ∀ id p, frzF k v.τ v.l id p = none → id ≠ k := fun id p h e => by
    subst e
    simp only [frzF, Nat.beq_refl, cond_true] at h
    cases p <;> cases h
  have hdead : ∀ p, (toH H').slot ⟨k, p⟩ = .dead := fun p => by
    show (H'.obj k).slot _ _ _ = _
    simp only [H', EHeap.frz, Nat.beq_refl, cond_true]; rfl
  have hk : ScrubOk (frzF k v.τ v.l) s.heap (toH s.heap) H' m Z := ⟨fun id p u h => by
      by_cases e : id = k
      · subst e
        simp only [frzF, Nat.beq_refl, cond_true] at h
        cases p with
        | cons x y => injection h with h; subst h; simp only [toV]; exact KG.un
        | nil =>
          injection h with h; subst h
          simp only [toV, EHeap.len_at hat]
          rintro E ι F w c rr ⟨h0, h1⟩
          rw [hlive] at h1
          obtain ⟨hn, A, cap, g1, g2, g3⟩ := h1.2 rfl
          obtain ⟨o1, o2⟩ := rr.obj _ _ hlive
          refine ⟨A, cap, g1, g2, o1, fun hpos => ?_⟩
          obtain ⟨b, cur, p1, p2, p3, p4⟩ := g3 (by omega)
          rw [p1] at o2
          obtain ⟨cur', q1, q2, q3⟩ := o2
          rw [p3] at q1
          injection q1 with q1
          injection q1 with q1
          subst q1
          refine ⟨b, 0, by rw [p2, Nat.zero_mul], .inr ⟨⟨id, []⟩, rfl, by rw [hlive]; trivial, p1⟩, fun i hi j hj => ?_⟩
          obtain ⟨c', r1, r2, r3⟩ := q3 i hi j hj
          refine ⟨c', ?_, ?_⟩
          · rw [Nat.zero_add]
            simp [World.cell?, p3]; exact r1
          · obtain ⟨u, e1, e2⟩ := cellC_enc v.τ (v.row i) j hflat
            have r3 : VRel (toH s.heap) ι F w (cellV s.heap.len id [] i j (cellC v.τ (v.row i) j)) c' := r3
            rw [e1] at r3
            simp only [cellV] at r3
            rw [e2 hj] at r3
            exact Reads.mono (fun b hb => .inl hb) (fun _ _ => rfl) _ _ r3
      · simp only [frzF, natBeq_ne e, cond_false] at h
        exact (nomatch h),
    fun id p h hb => rfl,
    fun id p h hb => by
      have e := hne id p h
      refine .inr ⟨?_, by simp only [m, if_neg e]⟩
      show SlotLike _ ((H'.obj id).slot H'.len id p)
      rw [hobj id e]
      exact scrub_slots hb,
    fun id p h hb => EHeap.len_scrub (hobj id (hne id p h)) p⟩
  have gen : Gen (toH s.heap) (toH H') m Z := by
    refine Gen.scrub (fun j => j = k) hk hf.obj (fun j hj => ⟨fun p => by simp only [frzF, natBeq_ne hj, cond_false], hobj j hj, fun p => by simp only [m, if_neg hj], fun p h => hj (by injection h), fun p => rfl⟩)
      (fun i hi o' ho' => ?_) (fun i hi sb g' hm => ?_) (fun i j x hi h1' h2' e1 e2 => ?_) rfl (fun i hi => ?_) (fun i hi hil hip => ?_)
    · obtain ⟨j, p⟩ := i
      simp only at hi; subst hi
      rw [hdead] at ho'; cases ho'
    · obtain ⟨j, p⟩ := i
      simp only at hi; subst hi
      rw [hdead] at hm; cases hm
    · simp only [m, if_pos hi] at e1; cases e1
    · by_cases hik : i.k = k
      · exfalso
        have hi : s.heap.next ≤ i.k := hi
        have := hf.next ⟨k, []⟩ (by rw [← hik]; exact hi)
        rw [hlive] at this; cases this
      · show (H'.obj i.k).slot _ _ _ = _
        rw [hobj _ hik]
        exact scrub_unborn.2 (hf.next i hi)
    · obtain ⟨j, p⟩ := i
      simp only at hi; subst hi
      exact .inr (.inl (hdead p))
  refine Weak.gen m Z rfl gen (fun t => ScrubOk.keeps hk _ (hf.env t))

/-- The lists that a value names. -/
def rootsOf : EV → List Nat
  | .sfull k [] => [k]
  | .agg l => l.filterMap fun u => match u with
    | .sfull k [] => some k
    | _ => none
  | _ => []
def frzAll (s : ESt) (K : ESt → Option ρ) : List Nat → Option ρ
  | [] => K s
  | k :: ks => match s.heap.obj k with
    | .lst v => bif froT v.τ then frzAll (s.frz k v) K ks else none
    | _ => frzAll s K ks
theorem frzAll_out {K : ESt → Option ρ} {res : ρ} : ∀ (ks : List Nat) (s : ESt), frzAll s K ks = some res → ∃ s', WeakT s s' ∧ K s' = some res
  | [], s, h => ⟨s, WeakT.refl s, h⟩
  | k :: ks, s, h => by
    unfold frzAll at h
    split at h
    · rename_i v ho
      obtain ⟨h1, h⟩ := bif_none h
      obtain ⟨s', q1, q2⟩ := frzAll_out ks _ h
      exact ⟨s', (WeakT.frz ho h1).trans q1, q2⟩
    · exact frzAll_out ks _ h

/-! ### Stores -/
def setL : List EV → Nat → EV → List EV
  | [], _, _ => []
  | _ :: l, 0, v => v :: l
  | a :: l, n + 1, v => a :: setL l n v
theorem setL_len : ∀ (l : List EV) (c : Nat) (v : EV), (setL l c v).length = l.length
  | [], c, v => rfl
  | a :: l, 0, v => rfl
  | a :: l, n + 1, v => by simp [setL, setL_len l n v]
theorem setL_at (len : Len) : ∀ (l : List EV) (c : Nat) (v : EV) (j : Nat), j < l.length → toVs len (setL l c v) j = if j = c then toV len v else toVs len l j
  | [], c, v, j, h => absurd h (Nat.not_lt_zero _)
  | a :: l, 0, v, 0, h => by simp [setL, toVs]
  | a :: l, 0, v, j + 1, h => by simp [setL, toVs]
  | a :: l, n + 1, v, 0, h => by simp [setL, toVs]
  | a :: l, n + 1, v, j + 1, h => by
    simp only [setL, toVs]
    rw [setL_at len l n v j (by simpa using h)]
    simp
def setsL : List EV → Nat → List EV → List EV
  | l, _, [] => l
  | l, c, v :: m => setsL (setL l c v) (c + 1) m
theorem setsL_len : ∀ (m l : List EV) (c : Nat), (setsL l c m).length = l.length
  | [], l, c => rfl
  | v :: m, l, c => by simp only [setsL]; rw [setsL_len m, setL_len]
theorem setsL_at (len : Len) : ∀ (m l : List EV) (c : Nat) (j : Nat), j < l.length → toVs len (setsL l c m) j = if c ≤ j ∧ j < c + m.length then toVs len m (j - c) else toVs len l j
  | [], l, c, j, h => by rw [if_neg (by simp only [List.length_cons, List.length_nil]; omega)]; rfl
  | v :: m, l, c, j, h => by
    simp only [setsL]
    rw [setsL_at len m _ (c + 1) j (by rw [setL_len]; exact h), setL_at len l c v j h]
    by_cases h2 : c + 1 ≤ j ∧ j < c + 1 + m.length
    · rw [if_pos h2, if_pos (by simp only [List.length_cons, List.length_nil]; omega)]
      have e : j - c = (j - (c + 1)) + 1 := by omega
      rw [e]; simp only [toVs]
    · rw [if_neg h2]
      by_cases h3 : j = c
      · rw [if_pos h3, if_pos (by simp only [List.length_cons, List.length_nil]; omega)]
        have e : j - c = 0 := by omega
        rw [e]; simp only [toVs]
      · rw [if_neg h3, if_neg (by simp only [List.length_cons, List.length_nil]; omega)]
theorem bif_and {a b c d : Nat} {x y : V} : (bif Nat.beq a b && Nat.beq c d then x else y) = if a = b ∧ c = d then x else y := by
  by_cases h1 : a = b
  · subst h1
    by_cases h2 : c = d
    · subst h2; simp
    · rw [natBeq_ne h2, if_neg (fun e => h2 e.2)]; simp
  · rw [natBeq_ne h1, if_neg (fun e => h1 e.1)]; simp
theorem bif_in {i r c j n : Nat} {x y : V} : (bif Nat.beq i r && (Nat.ble c j && Nat.blt j (c + n)) then x else y) = if i = r ∧ c ≤ j ∧ j < c + n then x else y := by
  by_cases h1 : i = r
  · subst h1
    by_cases h2 : c ≤ j
    · by_cases h3 : j < c + n
      · rw [Nat.ble_eq_true_of_le h2, blt_true h3, if_pos ⟨rfl, h2, h3⟩]; simp
      · rw [blt_false (Nat.le_of_not_lt h3), if_neg (fun e => h3 e.2.2)]; simp
    · have : Nat.ble c j = false := by
        cases hb : Nat.ble c j with
        | false => rfl
        | true => exact absurd (Nat.le_of_ble_eq_true hb) h2
      rw [this, if_neg (fun e => h2 e.2.1)]; simp
  · rw [natBeq_ne h1, if_neg (fun e => h1 e.1)]; simp

/-- Where something is stored, as cells. -/
inductive FCells (s : ESt) (id : Nat) (e : TypeId) (m : List EV) : Prop where
  | cells (ho : s.heap.obj id = .cells e m)
  | box {τ : Ty} {x : τ.D} (ho : s.heap.obj id = .lst ⟨e, τ, [x]⟩) (hf : froT τ = true) (hm : m = cellsE id [] τ x 0 0 τ.sz)
theorem FCells.slot {s : ESt} {id : Nat} {e : TypeId} {m : List EV} (h : FCells s id e m) : ∃ o, (toH s.heap).slot ⟨id, []⟩ = .live o ∧ o.ver = 0 ∧ o.elem = e ∧ o.sz = m.length ∧ o.n = 1 ∧ (∀ c, c < m.length → o.get 0 c = toVs s.heap.len m c) ∧ ∀ p, p ≠ [] → (toH s.heap).slot ⟨id, p⟩ = .unborn := by
  cases h with
  | cells ho =>
    refine ⟨_, slot_cells ho, rfl, rfl, rfl, rfl, fun c hc => rfl, fun p hp => ?_⟩
    show (s.heap.obj id).slot _ _ _ = _
    rw [ho]; cases p <;> first | exact absurd rfl hp | rfl
  | @box τ x ho hf hm =>
    have hat : s.heap.at id [] = some ⟨e, τ, [x]⟩ := by simp only [EHeap.at, ho, LV.at_nil]
    refine ⟨_, slot_lst hat, rfl, rfl, by rw [hm, cellsE_len]; rfl, rfl, fun c hc => ?_, fun p hp => ?_⟩
    · rw [hm, cellsE_len] at hc
      rw [hm, cellsE_at _ _ _ _ _ _ _ _ _ hc, Nat.zero_add]
      exact (cellE_V (v := ⟨e, τ, [x]⟩) hat 0 c).symm
    · show (s.heap.obj id).slot _ _ _ = _
      rw [ho]
      exact OD.flat_slot (o := .lst ⟨e, τ, [x]⟩) hf p hp
theorem weak_cells {s : ESt} {id : Nat} {e : TypeId} {m m' : List EV} {o1 : AObj} (hf : Fair s) (hc : FCells s id e m) (hl : m'.length = m.length) (hb : ∀ j, j < m'.length → Born (toH s.heap) (toVs s.heap.len m' j))
    (h1 : o1.ver = 0) (h2 : o1.elem = e) (h3 : o1.sz = m.length) (h4 : o1.n = 1) (h5 : ∀ j, j < m.length → Wk (o1.get 0 j) (toVs s.heap.len m' j)) (d : Option Tmp) :
    Weak (((toSt s).on ((toSt s).heap.set ⟨id, []⟩ o1)).put d .un) (toSt ((s.on (s.heap.set id (.cells e m'))).put d .un)) := by
  obtain ⟨o, q1, q2, q3, q4, q5, q6, q7⟩ := hc.slot
  have hlen : ∀ j p, (s.heap.set id (.cells e m')).len j p = s.heap.len j p := fun j p => by
    by_cases hj : j = id
    · subst hj
      unfold EHeap.len
      simp only [EHeap.set, Nat.beq_refl, cond_true]
      cases hc with
      | cells ho => rw [ho]; cases p <;> rfl
      | box ho hf hm =>
        rw [ho]
        cases p with
        | nil => simp only [OD.len, LV.at_nil]; rfl
        | cons x y => simp only [OD.len, LV.at_flat (v := ⟨e, _, _⟩) hf (x :: y) (by simp)]
    · exact EHeap.len_obj (EHeap.set_ne hj) p
  have hs1 : ∀ i : Id, ((toSt s).heap.set ⟨id, []⟩ o1).slot i = if i = ⟨id, []⟩ then .live o1 else (toH s.heap).slot i := fun i => by
    show (bif Id.beq i ⟨id, []⟩ then _ else _) = _
    exact beq_if _ _ _ _
  have hsn : ∀ p, (toH (s.heap.set id (.cells e m'))).slot ⟨id, p⟩ = (OD.cells e m').slot (s.heap.set id (.cells e m')).len id p := fun p => by
    show ((s.heap.set id (.cells e m')).obj id).slot _ _ _ = _
    simp only [EHeap.set, Nat.beq_refl, cond_true]
  refine weak_root hf id (fun k' hk => EHeap.set_ne hk) (fun j q _ => hlen j q) (fun i hi => by rw [hs1, if_neg (fun e => hi (by rw [e]))]) rfl (fun hn i hi => ?_) (fun p hne => ?_) (fun p o' hl' => ?_) (fun p sb g' hl' => ?_) d (fun _ => by simp only [toV]; exact Wk.refl _)
  · by_cases hi2 : i.k = id
    · obtain ⟨j, p⟩ := i
      simp only at hi2
      subst hi2
      have := hn ⟨j, p⟩ hi
      rw [hs1] at this
      rw [hsn]
      split at this
      · cases this
      · rename_i hne
        cases p with
        | nil => exact absurd rfl hne
        | cons x y => rfl
    · have := hf.next i hi
      have h' : (s.heap.obj i.k).slot s.heap.len i.k i.p = .unborn := this
      show ((s.heap.set id (.cells e m')).obj i.k).slot _ _ _ = .unborn
      rw [EHeap.set_ne hi2]
      exact (slot_dead (len := s.heap.len)).2.2 h'
  · rw [hs1] at hne ⊢
    rw [hsn]
    by_cases hp : p = []
    · subst hp
      rw [if_pos rfl]
      exact ⟨h1.symm, h2.symm, by rw [h3]; exact hl, h4.symm⟩
    · rw [if_neg (fun e => hp (by injection e))] at hne
      exact absurd (q7 p hp) hne
  · rw [hsn] at hl'
    rw [hs1]
    cases p with
    | cons x y => cases hl'
    | nil =>
      injection hl' with hl'
      subst hl'
      refine ⟨o1, if_pos rfl, fun r hr c hc => ?_⟩
      obtain rfl : r = 0 := by omega
      show Wk (o1.get 0 c) (toVs _ m' c)
      rw [toVs_len (H := toH s.heap) (fun j p _ => hlen j p) m' hb]
      exact h5 c (by omega)
  · rw [hsn] at hl'
    cases p <;> cases hl'
end
end
end Go.Abs
