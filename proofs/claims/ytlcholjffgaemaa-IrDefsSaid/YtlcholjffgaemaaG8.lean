/-
Typed states: stores of values that own nothing.
No statement of the program is proved here.
-/
import Derived.Test.YtlcholjffgaemaaG7
set_option linter.unusedVariables false
set_option linter.unusedSimpArgs false
set_option linter.unusedSectionVars false
namespace Go.Abs
open Go

variable {P : Program} {d : Option Tmp} {ty : TypeId} {L : List GOp} {ρ : Type}

section
variable [SU] [Codes] {Q : Exit → ESt → Prop}
/-- A row that is replaced, whose lists stay. -/
theorem LV.setRow_at' {v : LV} {r : Nat} {y : v.τ.D} (hr : r < v.l.length) (hy : ∀ c, (v.setRow r y).kid c r = v.kid c r) :
    ∀ q, ((v.setRow r y).at q = none ∧ v.at q = none) ∨ ∃ a a', v.at q = some a ∧ (v.setRow r y).at q = some a' ∧ a.Alike a' (fun r' c' => q = [] ∧ r' = r)
  | [] => by
    refine .inr ⟨v, v.setRow r y, LV.at_nil _, LV.at_nil _, rfl, rfl, by simp [LV.setRow], fun r' c' hn => ?_⟩
    have e : (v.setRow r y).row r' = if r' = r then y else v.row r' := LV.setRow_row hr r'
    show (cellC v.τ (v.row r') c').Sim (cellC v.τ ((v.setRow r y).row r') c')
    rw [e, if_neg (fun h => hn ⟨rfl, h⟩)]; exact Cell.Sim.rfl _
  | [x] => .inl ⟨LV.at_odd _ _, LV.at_odd _ _⟩
  | c2 :: r2 :: q => by
    have hk : (v.setRow r y).kid c2 r2 = v.kid c2 r2 := by
      by_cases h : r2 = r
      · subst h; exact hy c2
      · refine LV.kid_congr ?_
        have e : (v.setRow r y).row r2 = if r2 = r then y else v.row r2 := LV.setRow_row hr r2
        show cellC v.τ ((v.setRow r y).row r2) c2 = _
        rw [e, if_neg h]
    rw [LV.at_cons, LV.at_cons, hk]
    cases v.kid c2 r2 with
    | none => exact .inl ⟨rfl, rfl⟩
    | some k =>
      show (LV.at k q = none ∧ LV.at k q = none) ∨ _
      cases h : LV.at k q with
      | none => exact .inl ⟨rfl, rfl⟩
      | some a => exact .inr ⟨a, a, h, h, LV.Alike.refl _ _⟩
theorem LV.put_row : ∀ (p : List Nat) (v w0 v' : LV) (r : Nat) (y : w0.τ.D), v.at p = some w0 → r < w0.l.length → (∀ c, (w0.setRow r y).kid c r = w0.kid c r) → v.put p (w0.setRow r y) = some v' →
    v'.at p = some (w0.setRow r y) ∧ (∀ q, (v'.at q = none ∧ v.at q = none) ∨ ∃ a a', v.at q = some a ∧ v'.at q = some a' ∧ a.Alike a' (fun r' c' => q = p ∧ r' = r)) ∧ v'.e = v.e ∧ v'.τ = v.τ
  | [], v, w0, v', r, y, ha, hr, hy, hp => by
    rw [LV.at_nil] at ha; injection ha with ha; subst ha
    rw [LV.put] at hp
    injection hp with hp; subst hp
    exact ⟨LV.at_nil _, LV.setRow_at' hr hy, rfl, rfl⟩
  | [x], v, w0, v', r, y, ha, hr, hy, hp => by rw [LV.at_odd] at ha; cases ha
  | c1 :: r1 :: p, v, w0, v', r, y, ha, hr, hy, hp => by
    obtain ⟨k, k', y1, hk, hp1, hs, rfl⟩ := LV.put_cons hp
    rw [LV.at_cons, hk] at ha
    have ha : LV.at k p = some w0 := ha
    obtain ⟨i1, i2, i3, i4⟩ := LV.put_row p k w0 k' r y ha hr hy hp1
    obtain ⟨⟨l0, s1⟩, s2, s3⟩ := setKC_ok _ _ _ _ _ _ _ hs
    have hkc := LV.kid_some hk
    have hr1 : r1 < v.l.length := by
      refine Classical.byContradiction fun hn => ?_
      have e : v.row r1 = v.τ.z := by unfold LV.row; rw [List.getD_eq_getElem?_getD, List.getElem?_eq_none (by omega)]; rfl
      rw [e] at hkc
      have hz := z_ownC _ _ _ _ _ hkc
      have := LV.at_empty p k w0 hz ha
      rw [this] at hr; simp at hr
    have hkid : (v.setRow r1 y1).kid c1 r1 = some k' := by
      have e : (v.setRow r1 y1).row r1 = y1 := by rw [LV.setRow_row hr1, if_pos rfl]
      exact LV.kid_of (v := v.setRow r1 y1) (c := c1) (r := r1) (t := k'.e) (e := k'.τ) (l := k'.l) (by rw [e]; exact s2)
    refine ⟨by rw [LV.at_cons, hkid]; exact i1, fun q => ?_, rfl, rfl⟩
    by_cases hpre : [c1, r1] <+: q
    · obtain ⟨s, rfl⟩ := hpre
      show ((v.setRow r1 y1).at (c1 :: r1 :: s) = none ∧ v.at (c1 :: r1 :: s) = none) ∨ _
      rw [LV.at_cons, hkid, LV.at_cons, hk]
      rcases i2 s with h | ⟨a, a', h1, h2, h3⟩
      · exact .inl h
      · refine .inr ⟨a, a', by rw [List.cons_append, List.cons_append, List.nil_append, LV.at_cons, hk]; exact h1, by rw [List.cons_append, List.cons_append, List.nil_append, LV.at_cons, hkid]; exact h2, h3.e, h3.τ, h3.n, fun r' c' hn => h3.c r' c' (fun ⟨e1, e2⟩ => hn ⟨by rw [e1]; rfl, e2⟩)⟩
    · rcases LV.setRow_at (v := v) (r := r1) (c := c1) (y := y1) hr1 (.inr trivial) s3 q hpre with h | ⟨a, a', h1, h2, h3⟩
      · exact .inl h
      · refine .inr ⟨a, a', h1, h2, h3.e, h3.τ, h3.n, fun r' c' hn => ?_⟩
        by_cases hc : q = [] ∧ r' = r1 ∧ c' = c1
        · obtain ⟨rfl, rfl, rfl⟩ := hc
          rw [LV.at_nil] at h1 h2
          injection h1 with h1; subst h1
          injection h2 with h2; subst h2
          have e : (v.setRow r' y1).row r' = y1 := by rw [LV.setRow_row hr1, if_pos rfl]
          rw [e, hkc]
          show (Cell.own k.e k.τ k.l).Sim (cellC v.τ y1 c')
          rw [s2]
          have hlen : k'.l.length = k.l.length := by
            rcases i2 [] with ⟨_, h⟩ | ⟨a, a', h1, h2, h3⟩
            · rw [LV.at_nil] at h; cases h
            · rw [LV.at_nil] at h1 h2
              injection h1 with h1; subst h1
              injection h2 with h2; subst h2
              exact h3.n
          exact ⟨i3.symm, i4.symm, hlen.symm⟩
        · exact h3.c r' c' hc

/-- Several cells of a datum. -/
def setsC (τ : Ty) (x : τ.D) (c : Nat) : List EV → Option τ.D
  | [] => some x
  | v :: l => match setC τ x c v with
    | some y => setsC τ y (c + 1) l
    | none => none
theorem setsC_ok {τ : Ty} : ∀ (l : List EV) (x : τ.D) (c : Nat) (y : τ.D), setsC τ x c l = some y →
    (∀ j, c ≤ j ∧ j < c + l.length → (∃ u, cellC τ x j = .ev u) ∧ ∃ u, cellC τ y j = .ev u ∧ ∀ len, Wk (toVs len l (j - c)) (toV len u)) ∧ ∀ j, ¬ (c ≤ j ∧ j < c + l.length) → cellC τ y j = cellC τ x j
  | [], x, c, y, h => by
    simp only [setsC] at h
    injection h with h
    subst h
    exact ⟨fun j hj => by simp only [List.length_nil] at hj; omega, fun j _ => rfl⟩
  | v :: l, x, c, y, h => by
    simp only [setsC] at h
    split at h
    · rename_i x1 h1
      obtain ⟨⟨u0, a1⟩, ⟨u1, a2, a3⟩, a4⟩ := setC_ok τ x c v x1 h1
      obtain ⟨b1, b2⟩ := setsC_ok l x1 (c + 1) y h
      refine ⟨fun j hj => ?_, fun j hj => ?_⟩
      · simp only [List.length_cons] at hj
        by_cases hjc : j = c
        · subst hjc
          have e := b2 j (by omega)
          refine ⟨⟨u0, a1⟩, u1, e.trans a2, fun len => ?_⟩
          rw [Nat.sub_self]; simp only [toVs]; exact a3 len
        · obtain ⟨⟨u, c1⟩, u', c2, c3⟩ := b1 j (by omega)
          refine ⟨⟨u, by rw [← a4 j hjc]; exact c1⟩, u', c2, fun len => ?_⟩
          have e : j - c = (j - (c + 1)) + 1 := by omega
          rw [e]; simp only [toVs]; exact c3 len
      · simp only [List.length_cons] at hj
        rw [b2 j (by omega), a4 j (by omega)]
    · cases h
def aggLen : EV → Nat
  | .st k _ => SU.sz k
  | .agg l => l.length
  | _ => 0
def Cell.kid : Cell → Option LV
  | .own t e l => some ⟨t, e, l⟩
  | .ev _ => none
theorem LV.kid_eq (v : LV) (c r : Nat) : v.kid c r = (cellC v.τ (v.row r) c).kid := by
  unfold LV.kid LV.row
  split <;> rename_i h <;> rw [h] <;> rfl
def castI (i : Nat) : (τ : Ty) → SU.D i → Option τ.D
  | .st i', v => castN SU.D i i' v
  | _, _ => none
/-- A row with some cells replaced by a value of some cells. -/
def rowSet (τ : Ty) (x : τ.D) (c : Nat) (u : EV) : Option τ.D := match u with
  | .st i v => bif Codes.fro i then (match castI i τ v with
      | some y => bif Nat.beq c 0 then some y else none
      | none => setsC τ x c (cellsE 0 [] (.st i) v 0 0 (SU.sz i))) else none
  | .agg l => setsC τ x c l
  | _ => none
def cellsV (len : Len) : EV → Nat → V
  | .st i v, j => .t (SU.enc i v j)
  | .agg l, j => toVs len l j
  | _, _ => .un
/-- What a store needs: the row's lists stay, some cells are new. -/
structure RowOk (τ : Ty) (x y : τ.D) (c n : Nat) (g : Len → Nat → V) : Prop where
  kid : ∀ j, (cellC τ y j).kid = (cellC τ x j).kid
  old : ∀ j, j < τ.sz → ¬ (c ≤ j ∧ j < c + n) → cellC τ y j = cellC τ x j
  new : ∀ j, j < τ.sz → c ≤ j ∧ j < c + n → ∃ u, cellC τ y j = .ev u ∧ ∀ len, Wk (g len (j - c)) (toV len u)
theorem RowOk.sets {τ : Ty} {x y : τ.D} {c : Nat} {l : List EV} (h : setsC τ x c l = some y) : RowOk τ x y c l.length (fun len => toVs len l) := by
  obtain ⟨a, b⟩ := setsC_ok _ _ _ _ h
  refine ⟨fun j => ?_, fun j _ hj => b j hj, fun j _ hj => (a j hj).2⟩
  by_cases hj : c ≤ j ∧ j < c + l.length
  · obtain ⟨⟨u, e1⟩, u', e2, _⟩ := a j hj
    rw [e1, e2]; rfl
  · rw [b j hj]
theorem RowOk.set {τ : Ty} {x y : τ.D} {c : Nat} {u : EV} (h : setC τ x c u = some y) : RowOk τ x y c 1 (fun len _ => toV len u) := by
  obtain ⟨⟨u0, a1⟩, ⟨u1, a2, a3⟩, a4⟩ := setC_ok τ x c u y h
  refine ⟨fun j => ?_, fun j _ hj => a4 j (by omega), fun j _ hj => ?_⟩
  · by_cases hj : j = c
    · subst hj; rw [a1, a2]; rfl
    · rw [a4 j hj]
  · obtain rfl : j = c := by omega
    exact ⟨u1, a2, a3⟩
theorem rowSet_ok {τ : Ty} {x y : τ.D} {c : Nat} {u : EV} (h : rowSet τ x c u = some y) : RowOk τ x y c (aggLen u) (fun len => cellsV len u) := by
  unfold rowSet at h
  split at h
  · rename_i i v
    have parts : Codes.fro i = true → setsC τ x c (cellsE 0 [] (.st i) v 0 0 (SU.sz i)) = some y → RowOk τ x y c (aggLen (EV.st i v)) (fun len => cellsV len (EV.st i v)) := fun hf h => by
      have k := RowOk.sets h
      rw [cellsE_len] at k
      refine ⟨k.kid, k.old, fun j h1 h2 => ?_⟩
      have h2 : c ≤ j ∧ j < c + SU.sz i := h2
      obtain ⟨u', c1, c2⟩ := k.new j h1 h2
      refine ⟨u', c1, fun len => ?_⟩
      have := c2 len
      rw [cellsE_at _ _ _ _ _ _ _ _ _ (by omega), Nat.zero_add, cellE_F (τ := .st i) hf (by show j - c < SU.sz i; omega)] at this
      exact this
    obtain ⟨hf, h⟩ := bif_none h
    cases τ with
    | st i' =>
      simp only [castI] at h
      split at h
      · rename_i y' hy
        obtain ⟨hc, h⟩ := bif_none h
        injection h with h
        subst h
        obtain rfl := natBeq hc
        obtain ⟨e, hy⟩ := castN_ok _ _ _ _ _ hy
        subst e
        obtain rfl := eq_of_heq hy
        refine ⟨fun j => ?_, fun j h1 h2 => ?_, fun j h1 h2 => ?_⟩
        · obtain ⟨u1, e1, _⟩ := Codes.cell_ok i v j hf
          obtain ⟨u2, e2, _⟩ := Codes.cell_ok i x j hf
          simp only [cellC, e1, e2]; rfl
        · exact absurd ⟨Nat.zero_le _, by rw [Nat.zero_add]; exact h1⟩ h2
        · obtain ⟨u', e1, e2⟩ := Codes.cell_ok i v j hf
          exact ⟨u', e1, fun len => Wk.of_eq (e2 h1 len).symm⟩
      · exact parts hf h
    | _ => exact parts hf h
  · rename_i l
    exact RowOk.sets h
  · cases h

/-! ### The states behind a store -/
theorem RowOk.kids {v : LV} {r c n : Nat} {y : v.τ.D} {g : Len → Nat → V} (hr : r < v.l.length) (k : RowOk v.τ (v.row r) y c n g) : ∀ c', (v.setRow r y).kid c' r = v.kid c' r := fun c' => by
  rw [LV.kid_eq, LV.kid_eq]
  have e : (v.setRow r y).row r = y := by rw [LV.setRow_row hr, if_pos rfl]
  show (cellC v.τ ((v.setRow r y).row r) c').kid = _
  rw [e]; exact k.kid c'
/-- The cell that a list shows, where another one is alike. -/
theorem sim_cellV {len len' : Len} {k : Nat} {p : List Nat} {r c : Nat} {x x' : Cell} (h : x.Sim x') (hd : ∀ u, x = .ev u → u.dat = true) : cellV len' k p r c x' = cellV len k p r c x := by
  cases x with
  | ev u =>
    cases x' with
    | ev u' =>
      have h : u = u' := h
      subst h
      exact EV.dat_len (hd u rfl) _ _
    | own t e l => exact h.elim
  | own t e l =>
    cases x' with
    | ev u' => exact h.elim
    | own t' e' l' =>
      obtain ⟨h1, h2, h3⟩ := h
      show V.sref _ 0 0 l'.length = V.sref _ 0 0 l.length
      rw [h3]
theorem weak_store {s : ESt} {id : Nat} {p : List Nat} {root v root' : LV} {r c n : Nat} {y : v.τ.D} {g : Len → Nat → V} {o1 : AObj} (hf : Fair s) (ho : s.heap.obj id = .lst root) (hv : root.at p = some v) (hr : r < v.l.length)
    (hy : RowOk v.τ (v.row r) y c n g) (hp : root.put p (v.setRow r y) = some root')
    (h1 : o1.ver = 0) (h2 : o1.elem = v.e) (h3 : o1.sz = v.τ.sz) (h4 : o1.n = v.l.length)
    (h5 : ∀ i, i < v.l.length → ∀ j, j < v.τ.sz → (¬ (i = r ∧ c ≤ j ∧ j < c + n) ∧ o1.get i j = (v.obj s.heap.len id p).get i j) ∨ (i = r ∧ (c ≤ j ∧ j < c + n) ∧ Wk (o1.get i j) (g s.heap.len (j - c))))
    (d : Option Tmp) : Weak (((toSt s).on ((toSt s).heap.set ⟨id, p⟩ o1)).put d .un) (toSt ((s.on (s.heap.set id (.lst root'))).put d .un)) := by
  obtain ⟨a1, a2, a3, a4⟩ := LV.put_row p root v root' r y hv hr (hy.kids hr) hp
  have hnewat : ∀ q, (s.heap.set id (.lst root')).at id q = root'.at q := fun q => by simp only [EHeap.at, EHeap.set, Nat.beq_refl, cond_true]
  have holdat : ∀ q, s.heap.at id q = root.at q := fun q => by simp only [EHeap.at, ho]
  have hlen : ∀ j q, (s.heap.set id (.lst root')).len j q = s.heap.len j q := fun j q => by
    by_cases hj : j = id
    · subst hj
      unfold EHeap.len
      simp only [EHeap.set, Nat.beq_refl, cond_true, ho, OD.len]
      rcases a2 q with ⟨e1, e2⟩ | ⟨x, x', e1, e2, e3⟩
      · rw [e1, e2]
      · rw [e1, e2]; simp only [e3.n]
    · exact EHeap.len_obj (EHeap.set_ne hj) q
  have hs1 : ∀ i : Id, ((toSt s).heap.set ⟨id, p⟩ o1).slot i = if i = ⟨id, p⟩ then .live o1 else (toH s.heap).slot i := fun i => by
    show (bif Id.beq i ⟨id, p⟩ then _ else _) = _
    exact beq_if _ _ _ _
  have hsn : ∀ q, (toH (s.heap.set id (.lst root'))).slot ⟨id, q⟩ = (OD.lst root').slot (s.heap.set id (.lst root')).len id q := fun q => by
    show ((s.heap.set id (.lst root')).obj id).slot _ _ _ = _
    simp only [EHeap.set, Nat.beq_refl, cond_true]
  have hso : ∀ q, (toH s.heap).slot ⟨id, q⟩ = (OD.lst root).slot s.heap.len id q := fun q => by
    show (s.heap.obj id).slot _ _ _ = _
    rw [ho]
  refine weak_root hf id (fun k' hk => by simp only [EHeap.set, natBeq_ne hk, cond_false]) (fun j q _ => hlen j q) (fun i hi => by rw [hs1, if_neg (fun e => hi (by rw [e]))]) rfl (fun hn i hi => ?_) (fun q hne => ?_) (fun q o' hl => ?_) (fun q sb g' hl => ?_) d (fun _ => by simp only [toV]; exact Wk.refl _)
  · by_cases hi2 : i.k = id
    · obtain ⟨j, q⟩ := i
      simp only at hi2
      subst hi2
      have := hn ⟨j, q⟩ hi
      rw [hs1] at this
      rw [hsn]
      split at this
      · cases this
      · rw [hso] at this
        simp only [OD.slot] at this ⊢
        rcases a2 q with ⟨e1, e2⟩ | ⟨x, x', e1, e2, e3⟩
        · rw [e1]
        · rw [e1] at this; cases this
    · have := hf.next i hi
      have h' : (s.heap.obj i.k).slot s.heap.len i.k i.p = .unborn := this
      show ((s.heap.set id (.lst root')).obj i.k).slot _ _ _ = .unborn
      simp only [EHeap.set, natBeq_ne hi2, cond_false]
      exact (slot_dead (len := s.heap.len)).2.2 h'
  · rw [hs1] at hne ⊢
    rw [hsn]
    simp only [OD.slot]
    by_cases hq : q = p
    · subst hq
      rw [if_pos rfl, a1]
      exact ⟨h1.symm, h2.symm, h3.symm, by show (v.l.set r y).length = o1.n; rw [List.length_set, h4]⟩
    · rw [if_neg (fun e => hq (by injection e)), hso] at hne ⊢
      simp only [OD.slot] at hne ⊢
      rcases a2 q with ⟨e1, e2⟩ | ⟨x, x', e1, e2, e3⟩
      · rw [e2] at hne; exact absurd rfl hne
      · rw [e1, e2]; exact ⟨rfl, e3.e, by show x'.τ.sz = x.τ.sz; rw [e3.τ], e3.n⟩
  · rw [hsn] at hl
    rw [hs1]
    simp only [OD.slot] at hl
    by_cases hq : q = p
    · subst hq
      rw [a1] at hl
      injection hl with hl
      subst hl
      refine ⟨o1, if_pos rfl, fun i hi j hj => ?_⟩
      have hi : i < v.l.length := by omega
      have hj : j < v.τ.sz := by omega
      have er : (v.setRow r y).row i = if i = r then y else v.row i := LV.setRow_row hr i
      show Wk (o1.get i j) (cellV _ id q i j (cellC v.τ ((v.setRow r y).row i) j))
      rw [er]
      rcases h5 i hi j hj with ⟨b1, b2⟩ | ⟨b1, b2, b3⟩
      · rw [b2]
        have hc : cellC v.τ (if i = r then y else v.row i) j = cellC v.τ (v.row i) j := by
          by_cases hir : i = r
          · subst hir
            rw [if_pos rfl]
            exact hy.old j hj (fun e => b1 ⟨rfl, e.1, e.2⟩)
          · rw [if_neg hir]
        rw [hc]
        exact Wk.of_eq (sim_cellV (Cell.Sim.rfl _) (cellC_dat _ _ _)).symm
      · subst b1
        rw [if_pos rfl]
        obtain ⟨u, e1, e2⟩ := hy.new j hj b2
        rw [e1]
        refine b3.trans ?_
        simp only [cellV]
        rw [EV.dat_len (cellC_dat _ _ _ _ e1) _ s.heap.len]
        exact e2 _
    · rcases a2 q with ⟨e1, e2⟩ | ⟨x, x', e1, e2, e3⟩
      · rw [e1] at hl; cases hl
      · rw [e2] at hl
        injection hl with hl
        subst hl
        refine ⟨x.obj s.heap.len id q, by rw [if_neg (fun e => hq (by injection e)), hso]; simp only [OD.slot, e1], fun i hi j hj => ?_⟩
        exact Wk.of_eq (sim_cellV (e3.c i j (fun e => hq e.1)) (cellC_dat _ _ _)).symm
  · rw [hsn] at hl
    simp only [OD.slot] at hl
    cases hv2 : root'.at q <;> rw [hv2] at hl <;> cases hl
end
end Go.Abs
