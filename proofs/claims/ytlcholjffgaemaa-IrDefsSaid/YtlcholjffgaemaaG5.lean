/-
Typed states: variables, slices that are built and made: the evaluator, and that it is sound.
No statement of the program is proved here.
-/
import Derived.Test.YtlcholjffgaemaaG4
import Derived.Test.YtlcholjffgaemaaF8s
set_option linter.unusedVariables false
set_option linter.unusedSimpArgs false
set_option linter.unusedSectionVars false
namespace Go.Abs
open Go
noncomputable section

variable {P : Program} {d : Option Tmp} {ty : TypeId} {L : List GOp} {ρ : Type}

theorem V.cell_born (H : Heap) (v : Value) : Born H (V.cell v) := by
  unfold V.cell
  split <;> first | trivial | (generalize Nat.ble _ _ = b; cases b <;> trivial)

section
variable [SU] [Codes] {Q : Exit → ESt → Prop}
/-- The codes of the Go types, for data that is only read. -/
class TyE (P : Program) [Tys P] where
  c : TypeId → Option Ty
  fro : ∀ t τ, c t = some τ → froT τ = true
  zero : ∀ t τ z, c t = some τ → (Tys.c P t).zero = some z → τ.sz = z.cells.size ∧ ∀ j, j < τ.sz → ∃ u, cellC τ τ.z j = .ev u ∧ ∀ len, Wk (V.cell (z.cells.getD j undef)) (toV len u)

def EV.one : EV → Bool
  | .un => false
  | .und => false
  | .agg _ => false
  | .tup _ => false
  | .st _ _ => false
  | _ => true
theorem EV.one_toV {len : Len} {u : EV} (h : u.one = true) : (toV len u).one = true := by
  cases u <;> first
    | (cases h; done)
    | rfl
    | (rename_i id p; simp only [toV]; cases len id p <;> rfl)
theorem evCell_ne (v : Value) (l : List EV) : evCell v ≠ .agg l := by
  unfold evCell
  split <;> try (intro h; cases h; done)
  rename_i x
  cases h : Nat.ble x.size 9223372036854775807 <;> simp only [h, cond_true, cond_false] <;> intro h <;> cases h
theorem evCell_ne' (v : Value) (f : FuncId) (l : List EV) : evCell v ≠ .fn f l := by
  unfold evCell
  split <;> try (intro h; cases h; done)
  rename_i x
  cases h : Nat.ble x.size 9223372036854775807 <;> simp only [h, cond_true, cond_false] <;> intro h <;> cases h
theorem evOf_cases (v : Value) : (∃ cs, v = .agg cs) ∨ evOf v = evCell v := by
  cases v <;> first | exact .inl ⟨_, rfl⟩ | exact .inr rfl
theorem tmp_eq {s : ESt} {x : Operand} {l : List EV} (h : s.eval x = .agg l) : ∃ g, (toSt s).eval x = .agg l.length g ∧ ∀ j, j < l.length → Wk (g j) (toVs s.heap.len l j) := by
  have hw := s.eval_wk x
  rw [h] at hw
  simp only [toV] at hw
  cases x with
  | tmp t =>
    refine ⟨toVs s.heap.len l, ?_, fun j hj => Wk.refl _⟩
    have : (toSt s).eval (.tmp t) = toV s.heap.len (s.eval (.tmp t)) := rfl
    rw [this, h]; simp only [toV]
  | const v =>
    rcases evOf_cases v with ⟨cs, rfl⟩ | e
    · simp only [ESt.eval, evOf] at h
      cases ha : cs.all (·.oneCell') with
      | false => rw [ha] at h; cases h
      | true =>
        rw [ha] at h
        simp only [cond_true] at h
        injection h with h
        subst h
        refine ⟨fun j => V.cell (cs.getD j undef), ?_, fun j hj => Wk.of_eq ?_⟩
        · simp only [St.eval, V.ofValue, ha, cond_true, List.length_map, Array.length_toList]
        · simp only [List.length_map, Array.length_toList] at hj
          rw [toVs_eq]
          simp [List.getD_eq_getElem?_getD, hj, Array.getD_eq_getD_getElem?, evCell_eq]
    · simp only [ESt.eval] at h
      rw [e] at h
      exact (evCell_ne v l h).elim
  | global g => cases h
  | func f => cases h
theorem one_eq {s : ESt} {x : Operand} (h : (s.eval x).one = true) : ∃ u, (toSt s).eval x = u ∧ u.one = true ∧ Wk u (toV s.heap.len (s.eval x)) := by
  refine ⟨_, rfl, ?_, s.eval_wk x⟩
  cases hx : (s.eval x).isAgg with
  | false => rw [eval_eq rfl hx]; exact EV.one_toV h
  | true =>
    cases x with
    | tmp t => exact EV.one_toV (len := s.heap.len) h
    | const v =>
      exfalso
      simp only [ESt.eval] at h hx
      rcases evOf_cases v with ⟨cs, rfl⟩ | e
      · simp only [evOf] at h
        cases ha : cs.all (·.oneCell') <;> rw [ha] at h <;> cases h
      · rw [e] at hx h
        cases hv : evCell v with
        | agg l => exact evCell_ne v l hv
        | fn f l => exact evCell_ne' v f l hv
        | _ => rw [hv] at hx; cases hx
    | global g => cases h
    | func f => rfl

/-! ### box, alloc -/
def boxO (e : TypeId) (τo : Option Ty) (u : EV) (K : OD → Option ρ) : Option ρ := match u with
  | .st i v => bif Codes.fro i then K (.lst ⟨e, .st i, [v]⟩) else none
  | .agg l => match τo with
    | some (.st i) => match Codes.make i l with
      | some y => bif Codes.fro i then K (.lst ⟨e, .st i, [y]⟩) else K (.cells e l)
      | none => K (.cells e l)
    | _ => K (.cells e l)
  | u => bif u.one then K (.cells e [u]) else none
def newO (s : ESt) (d : Option Tmp) (u : Nat → EV) (K : ESt → Option ρ) (o : OD) : Option ρ := litO s.heap.next fun id => K ((s.on (s.heap.add id o)).put d (u id))
theorem newO_eq (s : ESt) (d : Option Tmp) (u : Nat → EV) (K : ESt → Option ρ) (o : OD) : newO s d u K o = K ((s.on (s.heap.add s.heap.next o)).put d (u s.heap.next)) := litO_eq _ _
theorem slot_box {len : Len} {k : Nat} {e : TypeId} {i : Nat} {v : SU.D i} : (OD.lst ⟨e, .st i, [v]⟩).slot len k [] = .live { elem := e, sz := SU.sz i, ver := 0, n := 1, get := fun r c => cellV len k [] r c (cellC (.st i) (LV.row ⟨e, .st i, [v]⟩ r) c) } := by
  simp only [OD.slot, LV.at_nil]; rfl
theorem row_one {e : TypeId} {τ : Ty} {v : τ.D} : LV.row ⟨e, τ, [v]⟩ 0 = v := rfl
theorem box_flat {e : TypeId} {i : Nat} {v : SU.D i} (h : Codes.fro i = true) : (OD.lst ⟨e, .st i, [v]⟩).flat = true := h
/-- The new variable of a struct. -/
theorem boxSt_sim {len : Len} {k : Nat} {e : TypeId} {i : Nat} {v : SU.D i} {g : Nat → V} (hg : ∀ j, j < SU.sz i → ∃ u, Codes.cell i v j = .ev u ∧ Wk (g j) (toV len u)) :
    ∃ a', (OD.lst ⟨e, .st i, [v]⟩).slot len k [] = .live a' ∧ a'.ver = 0 ∧ a'.elem = e ∧ a'.sz = SU.sz i ∧ a'.n = 1 ∧ ∀ r, r < 1 → ∀ c, c < SU.sz i → Wk (g c) (a'.get r c) := by
  refine ⟨_, slot_box, rfl, rfl, rfl, rfl, fun r hr c hc => ?_⟩
  obtain rfl : r = 0 := by omega
  obtain ⟨u, e1, e2⟩ := hg c hc
  show Wk (g c) (cellV len k [] 0 c (cellC (.st i) v c))
  simp only [cellC, e1, cellV]
  exact e2
theorem boxO_ok [T : Tys P] [TyE P] {s : ESt} {e : TypeId} {x : Operand} {K : ESt → Option ρ} {res : ρ} (hK : ∀ s', K s' = some res → SLT P L Q s')
    (h : boxO e (TyE.c P e) (s.eval x) (newO s d (fun id => .ptr id [] 0 0) K) = some res) : SLT P (⟨d, .box e x, ty, none⟩ :: L) Q s := by
  refine ⟨SL.fair fun hf => ?_⟩
  unfold boxO at h
  split at h
  · rename_i i v hx
    have hx := eval_eq hx rfl
    simp only [toV] at hx
    obtain ⟨h1, h⟩ := bif_none h
    rw [newO_eq] at h
    obtain ⟨a', q1, q2, q3, q4, q5, q6⟩ := boxSt_sim (len := (s.heap.add s.heap.next (.lst ⟨e, .st i, [v]⟩)).len) (k := s.heap.next) (e := e) (v := v) (g := fun j => .t (SU.enc i v j)) (fun j hj => by
      obtain ⟨u, e1, e2⟩ := Codes.cell_ok i v j h1
      exact ⟨u, e1, Wk.of_eq (e2 hj _).symm⟩)
    refine SL.boxA' _ rfl hx (SL.weak (weak_add (a := V.boxed e (SU.sz i) (fun j => .t (SU.enc i v j))) (u := .ptr s.heap.next [] 0 0) hf (box_flat h1) q1 q2 q3 q4 q5 q6 d (fun _ => ?_)) (hK _ h).out)
    simp only [toV]; exact Wk.refl _
  · rename_i l hx
    obtain ⟨g, hg, hw⟩ := tmp_eq hx
    have fall : newO s d (fun id => .ptr id [] 0 0) K (.cells e l) = some res → SL P (⟨d, .box e x, ty, none⟩ :: L) (liftQ Q) (toSt s) := fun h => by
      rw [newO_eq] at h
      have hlen : ∀ id p, (toH s.heap).slot ⟨id, p⟩ ≠ .unborn → (s.heap.add s.heap.next (.cells e l)).len id p = s.heap.len id p := fun id p hb => by
        have : id ≠ s.heap.next := fun e => hb (hf.next ⟨id, p⟩ (by rw [e]; exact Nat.le_refl _))
        exact EHeap.len_obj (EHeap.add_ne this) p
      have hb : ∀ j, j < l.length → Born (toH s.heap) (toVs s.heap.len l j) := fun j hj => by
        cases x with
        | tmp t =>
          have := hf.env t
          have hx : s.env t = .agg l := hx
          rw [hx] at this
          simp only [toV] at this
          exact this j hj
        | const v =>
          rcases evOf_cases v with ⟨cs, rfl⟩ | e
          · simp only [ESt.eval, evOf] at hx
            cases ha : cs.all (·.oneCell') with
            | false => rw [ha] at hx; cases hx
            | true =>
              rw [ha] at hx
              simp only [cond_true] at hx
              injection hx with hx
              subst hx
              rw [toVs_eq]
              simp only [List.length_map, Array.length_toList] at hj
              simp only [List.getD_eq_getElem?_getD, List.getElem?_map, Array.getElem?_toList, Array.getElem?_eq_getElem hj, Option.map_some, Option.getD_some]
              rw [evCell_eq]
              exact V.cell_born _ _
          · simp only [ESt.eval] at hx
            rw [e] at hx
            exact (evCell_ne v l hx).elim
        | global g => cases hx
        | func f => cases hx
      refine SL.boxA' _ rfl hg (SL.weak (weak_add (a := V.boxed e l.length g) (o := .cells e l) (u := .ptr s.heap.next [] 0 0) hf rfl rfl rfl rfl rfl rfl (fun r hr c hc => ?_) d (fun _ => ?_)) (hK _ h).out)
      · have hc : c < l.length := hc
        show Wk (g c) (toVs _ l c)
        rw [toVs_len hlen l hb]
        exact hw c hc
      · simp only [toV]; exact Wk.refl _
    split at h
    · split at h
      · rename_i i hi _ y hy
        cases h1 : Codes.fro i with
        | false => rw [h1] at h; exact fall h
        | true =>
          rw [h1] at h
          simp only [cond_true] at h
          rw [newO_eq] at h
          obtain ⟨m1, m2⟩ := Codes.make_ok _ _ _ hy
          obtain ⟨a', q1, q2, q3, q4, q5, q6⟩ := boxSt_sim (len := (s.heap.add s.heap.next (.lst ⟨e, .st i, [y]⟩)).len) (k := s.heap.next) (e := e) (v := y) (g := g) (fun j hj => by
            obtain ⟨u, e1, e2⟩ := m2 j hj
            obtain ⟨u', e1', e3⟩ := Codes.cell_ok i y j h1
            rw [e1] at e1'
            injection e1' with e1'
            subst e1'
            exact ⟨u, e1, (hw j (by omega)).trans ((e2 _).trans (Wk.of_eq ((e3 hj _).trans (e3 hj _).symm)))⟩)
          refine SL.boxA' _ rfl hg (SL.weak (weak_add (a := V.boxed e l.length g) (u := .ptr s.heap.next [] 0 0) hf (box_flat h1) q1 q2 q3 (q4.trans m1.symm) q5 (fun r hr c hc => q6 r hr c (by have hc : c < l.length := hc; omega)) d (fun _ => ?_)) (hK _ h).out)
          simp only [toV]; exact Wk.refl _
      · exact fall h
    · exact fall h
  · rename_i hne1 hne2
    obtain ⟨h1, h⟩ := bif_none h
    rw [newO_eq] at h
    obtain ⟨u, hu1, hu2, hu3⟩ := one_eq h1
    have hb : Born (toH s.heap) (toV s.heap.len (s.eval x)) := by
      cases x with
      | tmp t => exact hf.env t
      | const v =>
        show Born _ (toV _ (evOf v))
        rcases evOf_cases v with ⟨cs, rfl⟩ | e
        · simp only [ESt.eval, evOf] at h1
          cases ha : cs.all (·.oneCell') <;> rw [ha] at h1 <;> cases h1
        · rw [e, evCell_eq]
          exact V.cell_born _ _
      | global g => cases h1
      | func f => simp only [ESt.eval, toV]; intro j hj; exact absurd hj (Nat.not_lt_zero _)
    have hlen : ∀ id p, (toH s.heap).slot ⟨id, p⟩ ≠ .unborn → (s.heap.add s.heap.next (.cells e [s.eval x])).len id p = s.heap.len id p := fun id p hb => by
      have : id ≠ s.heap.next := fun e => hb (hf.next ⟨id, p⟩ (by rw [e]; exact Nat.le_refl _))
      exact EHeap.len_obj (EHeap.add_ne this) p
    refine SL.box1' _ rfl hu1 hu2 (SL.weak (weak_add (a := V.boxed e 1 (fun _ => u)) (o := .cells e [s.eval x]) (u := .ptr s.heap.next [] 0 0) hf rfl rfl rfl rfl rfl rfl (fun r hr c hc => ?_) d (fun _ => ?_)) (hK _ h).out)
    · have hc : c < 1 := hc
      obtain rfl : c = 0 := by omega
      show Wk u (toVs _ [s.eval x] 0)
      simp only [toVs]
      rw [toV_len hlen _ hb]
      exact hu3
    · simp only [toV]; exact Wk.refl _

def allocO (P : Program) [Tys P] [TyE P] (e : TypeId) (K : OD → Option ρ) : Option ρ := match (Tys.c P e).zero with
  | some z => match TyE.c P e with
    | some (.st i) => K (.lst ⟨e, .st i, [SU.z i]⟩)
    | _ => K (.cells e (z.cells.toList.map evCell))
  | none => none
theorem allocO_ok [T : Tys P] [TE : TyE P] {s : ESt} {e : TypeId} {K : ESt → Option ρ} {res : ρ} (hK : ∀ s', K s' = some res → SLT P L Q s')
    (h : allocO P e (newO s d (fun id => .ptr id [] 0 0) K) = some res) : SLT P (⟨d, .alloc e, ty, none⟩ :: L) Q s := by
  refine ⟨SL.fair fun hf => ?_⟩
  unfold allocO at h
  split at h
  · rename_i z hz
    have := (T.ok _).zero _ hz
    have fall : newO s d (fun id => .ptr id [] 0 0) K (.cells e (z.cells.toList.map evCell)) = some res → SL P (⟨d, .alloc e, ty, none⟩ :: L) (liftQ Q) (toSt s) := fun h => by
      rw [newO_eq] at h
      refine SL.alloc' _ rfl (SL.weak (weak_add (a := V.boxed e z.cells.size (fun j => V.cell (z.cells.getD j undef))) (o := .cells e (z.cells.toList.map evCell)) (u := .ptr s.heap.next [] 0 0) hf rfl rfl rfl rfl (by simp [V.boxed]) rfl (fun r hr c hc => ?_) d (fun _ => ?_)) (hK _ h).out)
      · have hc : c < z.cells.size := hc
        show Wk (V.cell (z.cells.getD c undef)) (toVs _ (z.cells.toList.map evCell) c)
        rw [toVs_eq]
        refine Wk.of_eq ?_
        simp [List.getD_eq_getElem?_getD, hc, Array.getD_eq_getD_getElem?, evCell_eq]
      · simp only [toV]; exact Wk.refl _
    split at h
    · rename_i i hτ
      rw [newO_eq] at h
      have h1 := TE.fro e _ hτ
      obtain ⟨z1, z2⟩ := TE.zero e _ z hτ hz
      obtain ⟨a', q1, q2, q3, q4, q5, q6⟩ := boxSt_sim (len := (s.heap.add s.heap.next (.lst ⟨e, .st i, [SU.z i]⟩)).len) (k := s.heap.next) (e := e) (v := SU.z i) (g := fun j => V.cell (z.cells.getD j undef)) (fun j hj => by
        obtain ⟨u, e1, e2⟩ := z2 j hj
        exact ⟨u, e1, e2 _⟩)
      refine SL.alloc' _ rfl (SL.weak (weak_add (a := V.boxed e z.cells.size (fun j => V.cell (z.cells.getD j undef))) (u := .ptr s.heap.next [] 0 0) hf (box_flat h1) q1 q2 q3 (q4.trans (show SU.sz i = z.cells.size from z1)) q5 (fun r hr c hc => q6 r hr c (by have hc : c < z.cells.size := hc; have z1 : SU.sz i = z.cells.size := z1; omega)) d (fun _ => ?_)) (hK _ h).out)
      simp only [toV]; exact Wk.refl _
    · exact fall h
  · cases h
end
end
end Go.Abs
