/-
Typed states: the evaluator of stores.
No statement of the program is proved here.
-/
import Derived.Test.YtlcholjffgaemaaG9
set_option linter.unusedVariables false
set_option linter.unusedSimpArgs false
set_option linter.unusedSectionVars false
namespace Go.Abs
open Go
noncomputable section

variable {P : Program} {d : Option Tmp} {ty : TypeId} {L : List GOp} {ρ : Type}

section
variable [SU] [Codes] {Q : Exit → ESt → Prop}
def partsE : EV → Option (List EV)
  | .st k v => bif Codes.fro k then some (cellsE 0 [] (.st k) v 0 0 (SU.sz k)) else none
  | .agg l => some l
  | _ => none
def putO (s : ESt) (d : Option Tmp) (id : Nat) (root : LV) (p : List Nat) (v : LV) (r : Nat) (y : v.τ.D) (K : ESt → Option ρ) : Option ρ := match root.put p ⟨v.e, v.τ, v.l.set r y⟩ with
  | some root' => K ((s.on (s.heap.set id (.lst root'))).put d .un)
  | none => none
def store1 (s : ESt) (d : Option Tmp) (agg : Bool) (sz : Nat) (a u : EV) (K : ESt → Option ρ) (no : Option ρ) : Option ρ := match a with
  | .ptr id p r c => match s.heap.obj id with
    | .cells e l => match p with
      | [] => grd (Nat.blt r 1) (bif agg then (match partsE u with
          | some m => bif Nat.beq m.length sz && Nat.ble (c + sz) l.length then K ((s.on (s.heap.set id (.cells e (setsL l c m)))).put d .un) else none
          | none => none)
         else bif Nat.beq sz 1 && Nat.blt c l.length && u.one then K ((s.on (s.heap.set id (.cells e (setL l c u)))).put d .un) else none)
      | _ => none
    | .lst root => match root.at p with
      | some v => grd (Nat.blt r v.l.length) (bif agg then (bif Nat.beq (aggLen u) sz && Nat.ble (c + sz) v.τ.sz then (match rowSet v.τ (v.l.getD r v.τ.z) c u with
            | some y => putO s d id root p v r y K
            | none => no) else none)
          else bif Nat.beq sz 1 && Nat.blt c v.τ.sz && u.one then (match setC v.τ (v.l.getD r v.τ.z) c u with
            | some y => putO s d id root p v r y K
            | none => no) else none)
      | none => none
    | _ => none
  | _ => none
theorem agg_eval {s : ESt} {y : Operand} (h0 : 0 < aggLen (s.eval y)) : ∃ g, (toSt s).eval y = .agg (aggLen (s.eval y)) g ∧ ∀ j, j < aggLen (s.eval y) → Wk (g j) (cellsV s.heap.len (s.eval y) j) := by
  cases he : s.eval y with
  | st i v =>
    have := eval_eq he rfl
    rw [this]
    exact ⟨_, by simp only [toV]; rfl, fun j hj => Wk.refl _⟩
  | agg l =>
    obtain ⟨g', hg, hw⟩ := tmp_eq he
    exact ⟨g', hg, hw⟩
  | _ => rw [he] at h0; exact absurd h0 (Nat.lt_irrefl _)
theorem evCell_born (H : Heap) (len : Len) (v : Value) : Born H (toV len (evCell v)) := by rw [evCell_eq]; exact V.cell_born _ _
theorem eval_born {s : ESt} (hf : Fair s) (x : Operand) : Born (toH s.heap) (toV s.heap.len (s.eval x)) := by
  cases x with
  | tmp t => exact hf.env t
  | const v =>
    show Born _ (toV _ (evOf v))
    rcases evOf_cases v with ⟨cs, rfl⟩ | e
    · simp only [evOf]
      cases ha : cs.all (·.oneCell') with
      | false => simp only [cond_false, toV]; trivial
      | true =>
        simp only [cond_true, toV, List.length_map, Array.length_toList]
        intro j hj
        rw [toVs_eq]
        simp only [List.getD_eq_getElem?_getD, List.getElem?_map, Array.getElem?_toList]
        rw [Array.getElem?_eq_getElem hj]
        exact evCell_born _ _ _
    · rw [e]; exact evCell_born _ _ _
  | global g => simp only [ESt.eval, toV]; trivial
  | func f => simp only [ESt.eval, toV]; intro j hj; exact absurd hj (Nat.not_lt_zero _)
theorem parts_ok {s : ESt} {y : Operand} {m : List EV} (hf : Fair s) (h : partsE (s.eval y) = some m) : m.length = aggLen (s.eval y) ∧ (∀ j, j < m.length → Wk (cellsV s.heap.len (s.eval y) j) (toVs s.heap.len m j)) ∧ ∀ j, j < m.length → Born (toH s.heap) (toVs s.heap.len m j) := by
  cases he : s.eval y with
  | st k v =>
    rw [he] at h
    simp only [partsE] at h
    obtain ⟨hfr, h⟩ := bif_none h
    injection h with h
    subst h
    rw [cellsE_len]
    have e : ∀ j, j < SU.sz k → toVs s.heap.len (cellsE 0 [] (.st k) v 0 0 (SU.sz k)) j = .t (SU.enc k v j) := fun j hj => by
      rw [cellsE_at _ _ _ _ _ _ _ _ _ hj, Nat.zero_add, cellE_F (τ := .st k) hfr hj]; rfl
    exact ⟨rfl, fun j hj => by rw [e j hj]; exact Wk.refl _, fun j hj => by rw [e j hj]; trivial⟩
  | agg l =>
    rw [he] at h
    simp only [partsE] at h
    injection h with h
    subst h
    have := eval_born hf y
    rw [he] at this
    simp only [toV] at this
    exact ⟨rfl, fun j hj => Wk.refl _, this⟩
  | _ => rw [he] at h; cases h
theorem setL_born {s : ESt} {l : List EV} {c : Nat} {u : EV} (hl : ∀ j, j < l.length → Born (toH s.heap) (toVs s.heap.len l j)) (hu : Born (toH s.heap) (toV s.heap.len u)) :
    ∀ j, j < (setL l c u).length → Born (toH s.heap) (toVs s.heap.len (setL l c u) j) := fun j hj => by
  rw [setL_len] at hj
  rw [setL_at _ _ _ _ _ hj]
  split
  · exact hu
  · exact hl j hj
theorem setsL_born {s : ESt} {l m : List EV} {c : Nat} (hl : ∀ j, j < l.length → Born (toH s.heap) (toVs s.heap.len l j)) (hm : ∀ j, j < m.length → Born (toH s.heap) (toVs s.heap.len m j)) :
    ∀ j, j < (setsL l c m).length → Born (toH s.heap) (toVs s.heap.len (setsL l c m) j) := fun j hj => by
  rw [setsL_len] at hj
  rw [setsL_at _ _ _ _ _ hj]
  split
  · exact hm _ (by omega)
  · exact hl j hj
theorem FCells.born {s : ESt} {id : Nat} {e : TypeId} {m : List EV} (hf : Fair s) (h : FCells s id e m) : ∀ j, j < m.length → Born (toH s.heap) (toVs s.heap.len m j) := fun j hj => by
  obtain ⟨o, q1, q2, q3, q4, q5, q6, q7⟩ := h.slot
  rw [← q6 j hj]
  exact hf.obj _ _ q1 0 (by omega) j (by omega)
/-- FCells of a variable are set. -/
theorem store_cells1 [T : Tys P] {s : ESt} {t : TypeId} {x y : Operand} {id c : Nat} {e : TypeId} {m : List EV} {K : ESt → Option ρ} {res : ρ} (hK : ∀ s', K s' = some res → SLT P L Q s') (hf : Fair s) (hx : s.eval x = .ptr id [] 0 c) (hc : FCells s id e m)
    (h0 : Nat.blt 0 (Tys.c P t).sz = true) (ha : (Tys.c P t).agg = false) (hsz : Nat.beq (Tys.c P t).sz 1 = true) (hcl : Nat.blt c m.length = true) (hu : (s.eval y).one = true)
    (h : K ((s.on (s.heap.set id (.cells e (setL m c (s.eval y))))).put d .un) = some res) : SL P (⟨d, .store t x y, ty, none⟩ :: L) (liftQ Q) (toSt s) := by
  have := TySz.of' h0 ha
  rw [natBeq hsz] at this
  have hcl := Nat.le_of_ble_eq_true hcl
  obtain ⟨o, q1, q2, q3, q4, q5, q6, q7⟩ := hc.slot
  have hx := eval_eq hx rfl
  simp only [toV] at hx
  obtain ⟨u, u1, u2, u3⟩ := one_eq hu
  refine SL.store1 hx q1 q2.symm (by omega) (by rw [q4]; exact hcl) u1 u2 (SL.weak (weak_cells (o1 := o.put1 0 c u) hf hc (setL_len _ _ _) (setL_born (hc.born hf) (eval_born hf y)) q2 q3 q4 q5 (fun j hj => ?_) d) (hK _ h).out)
  simp only [AObj.put1, bif_and]
  rw [setL_at _ _ _ _ _ hj]
  by_cases hjc : j = c
  · rw [if_pos ⟨trivial, hjc⟩, if_pos hjc]; exact u3
  · rw [if_neg (fun e => hjc e.2), if_neg hjc, q6 j hj]; exact Wk.refl _
theorem store_cellsA [T : Tys P] {s : ESt} {t : TypeId} {x y : Operand} {id c : Nat} {e : TypeId} {m l : List EV} {K : ESt → Option ρ} {res : ρ} (hK : ∀ s', K s' = some res → SLT P L Q s') (hf : Fair s) (hx : s.eval x = .ptr id [] 0 c) (hc : FCells s id e m)
    (h0 : Nat.blt 0 (Tys.c P t).sz = true) (ha : (Tys.c P t).agg = true) (hp : partsE (s.eval y) = some l) (hsz : Nat.beq l.length (Tys.c P t).sz = true) (hcl : Nat.ble (c + (Tys.c P t).sz) m.length = true)
    (h : K ((s.on (s.heap.set id (.cells e (setsL m c l)))).put d .un) = some res) : SL P (⟨d, .store t x y, ty, none⟩ :: L) (liftQ Q) (toSt s) := by
  have := TySz.of' h0 ha
  have hsz := natBeq hsz
  have hcl := Nat.le_of_ble_eq_true hcl
  have h0' : 0 < (Tys.c P t).sz := Nat.le_of_ble_eq_true h0
  obtain ⟨o, q1, q2, q3, q4, q5, q6, q7⟩ := hc.slot
  have hx := eval_eq hx rfl
  simp only [toV] at hx
  obtain ⟨p1, p2, p3⟩ := parts_ok hf hp
  obtain ⟨g, hg, hw⟩ := agg_eval (s := s) (y := y) (by omega)
  rw [← p1, hsz] at hg
  refine SL.storeA hx q1 q2.symm (by omega) (by rw [q4]; exact hcl) hg (SL.weak (weak_cells (o1 := o.put 0 c (Tys.c P t).sz g) hf hc (setsL_len _ _ _) (setsL_born (hc.born hf) p3) q2 q3 q4 q5 (fun j hj => ?_) d) (hK _ h).out)
  simp only [AObj.put, bif_in]
  rw [setsL_at _ _ _ _ _ hj, hsz]
  by_cases hjc : c ≤ j ∧ j < c + (Tys.c P t).sz
  · rw [if_pos ⟨trivial, hjc⟩, if_pos hjc]
    exact (hw _ (by omega)).trans (p2 _ (by omega))
  · rw [if_neg (fun e => hjc e.2), if_neg hjc, q6 j hj]; exact Wk.refl _

theorem store1_ok [T : Tys P] {s : ESt} {t : TypeId} {x y : Operand} {K : ESt → Option ρ} {no : Option ρ} {res : ρ} (hK : ∀ s', K s' = some res → SLT P L Q s') (h0 : Nat.blt 0 (Tys.c P t).sz = true)
    (hno : Fair s → no = some res → SL P (⟨d, .store t x y, ty, none⟩ :: L) (liftQ Q) (toSt s))
    (h : store1 s d (Tys.c P t).agg (Tys.c P t).sz (s.eval x) (s.eval y) K no = some res) : SLT P (⟨d, .store t x y, ty, none⟩ :: L) Q s := by
  refine ⟨SL.fair fun hf => ?_⟩
  unfold store1 at h
  split at h
  · rename_i id p r c hx
    split at h
    · rename_i e l ho
      split at h
      · have hh := grd_out h
        clear h
        obtain ⟨hr, h⟩ := hh
        have hr := Nat.le_of_ble_eq_true hr
        obtain rfl : r = 0 := by omega
        cases ha : (Tys.c P t).agg with
        | true =>
          rw [ha] at h
          simp only [cond_true] at h
          split at h
          · rename_i m hm
            obtain ⟨hb, h⟩ := bif_none h
            simp only [Bool.and_eq_true] at hb
            exact store_cellsA hK hf hx (.cells ho) h0 ha hm hb.1 hb.2 h
          · cases h
        | false =>
          rw [ha] at h
          simp only [cond_false] at h
          obtain ⟨hb, h⟩ := bif_none h
          simp only [Bool.and_eq_true] at hb
          exact store_cells1 hK hf hx (.cells ho) h0 ha hb.1.1 hb.1.2 hb.2 h
      · cases h
    · rename_i root ho
      split at h
      · rename_i v hv
        obtain ⟨hr, h⟩ := grd_out h
        have hr : r < v.l.length := Nat.le_of_ble_eq_true hr
        have hat : s.heap.at id p = some v := by simp only [EHeap.at, ho]; exact hv
        have hs := slot_lst hat
        have hx := eval_eq hx rfl
        simp only [toV] at hx
        cases ha : (Tys.c P t).agg with
        | true =>
          rw [ha] at h
          simp only [cond_true] at h
          obtain ⟨hb, h⟩ := bif_none h
          simp only [Bool.and_eq_true] at hb
          split at h
          · rename_i y' hy
            unfold putO at h
            split at h
            · rename_i root' hp
              have h1 := natBeq hb.1
              have h2 := Nat.le_of_ble_eq_true hb.2
              have h0' : 0 < (Tys.c P t).sz := Nat.le_of_ble_eq_true h0
              have := TySz.of' h0 ha
              obtain ⟨g, hg, hw⟩ := agg_eval (s := s) (y := y) (by omega)
              have k := rowSet_ok hy
              rw [h1] at hg k
              refine SL.storeA hx hs rfl hr h2 hg (SL.weak (weak_store (o1 := (v.obj s.heap.len id p).put r c (Tys.c P t).sz g) (g := fun len => cellsV len (s.eval y)) hf ho hv hr k hp rfl rfl rfl rfl (fun i hi j hj => ?_) d) (hK _ h).out)
              simp only [AObj.put, bif_in]
              by_cases hjc : i = r ∧ c ≤ j ∧ j < c + (Tys.c P t).sz
              · exact .inr ⟨hjc.1, hjc.2, by rw [if_pos hjc]; exact hw _ (by omega)⟩
              · exact .inl ⟨hjc, by rw [if_neg hjc]⟩
            · cases h
          · exact hno hf h
        | false =>
          rw [ha] at h
          simp only [cond_false] at h
          obtain ⟨hb, h⟩ := bif_none h
          simp only [Bool.and_eq_true] at hb
          split at h
          · rename_i y' hy
            unfold putO at h
            split at h
            · rename_i root' hp
              have h1 := natBeq hb.1.1
              have h2 : c < v.τ.sz := Nat.le_of_ble_eq_true hb.1.2
              have := TySz.of' h0 ha
              rw [h1] at this
              obtain ⟨u, u1, u2, u3⟩ := one_eq hb.2
              refine SL.store1 hx hs rfl hr h2 u1 u2 (SL.weak (weak_store (o1 := (v.obj s.heap.len id p).put1 r c u) (g := fun len _ => toV len (s.eval y)) hf ho hv hr (RowOk.set hy) hp rfl rfl rfl rfl (fun i hi j hj => ?_) d) (hK _ h).out)
              simp only [AObj.put1, bif_and]
              by_cases hjc : i = r ∧ j = c
              · exact .inr ⟨hjc.1, by omega, by rw [if_pos hjc]; exact u3⟩
              · exact .inl ⟨fun e => hjc ⟨e.1, by omega⟩, by rw [if_neg hjc]⟩
            · cases h
          · exact hno hf h
      · cases h
    · cases h
  · cases h

/-- A struct's variable is told by its cells from now on. -/
def storeBox (s : ESt) (d : Option Tmp) (agg : Bool) (sz : Nat) (a u : EV) (K : ESt → Option ρ) (no : Option ρ) : Option ρ := match a with
  | .ptr id [] r c => match s.heap.obj id with
    | .lst ⟨e, τ, [x]⟩ => bif froT τ then grd (Nat.blt r 1) (bif agg then (match partsE u with
          | some m => bif Nat.beq m.length sz && Nat.ble (c + sz) τ.sz then K ((s.on (s.heap.set id (.cells e (setsL (cellsE id [] τ x 0 0 τ.sz) c m)))).put d .un) else none
          | none => none)
         else bif Nat.beq sz 1 && Nat.blt c τ.sz && u.one then K ((s.on (s.heap.set id (.cells e (setL (cellsE id [] τ x 0 0 τ.sz) c u)))).put d .un) else none) else no
    | _ => no
  | _ => no
theorem storeBox_ok [T : Tys P] {s : ESt} {t : TypeId} {x y : Operand} {K : ESt → Option ρ} {no : Option ρ} {res : ρ} (hK : ∀ s', K s' = some res → SLT P L Q s') (h0 : Nat.blt 0 (Tys.c P t).sz = true)
    (hno : no = some res → SL P (⟨d, .store t x y, ty, none⟩ :: L) (liftQ Q) (toSt s)) (hf : Fair s)
    (h : storeBox s d (Tys.c P t).agg (Tys.c P t).sz (s.eval x) (s.eval y) K no = some res) : SL P (⟨d, .store t x y, ty, none⟩ :: L) (liftQ Q) (toSt s) := by
  unfold storeBox at h
  split at h
  · rename_i id r c hx
    split at h
    · rename_i e τ z ho
      cases hfr : froT τ with
      | false => rw [hfr] at h; exact hno h
      | true =>
        rw [hfr] at h
        simp only [cond_true] at h
        have hh := grd_out h
        clear h
        obtain ⟨hr, h⟩ := hh
        have hr := Nat.le_of_ble_eq_true hr
        obtain rfl : r = 0 := by omega
        have hc : FCells s id e (cellsE id [] τ z 0 0 τ.sz) := .box ho hfr rfl
        cases ha : (Tys.c P t).agg with
        | true =>
          rw [ha] at h
          simp only [cond_true] at h
          split at h
          · rename_i m hm
            obtain ⟨hb, h⟩ := bif_none h
            simp only [Bool.and_eq_true] at hb
            exact store_cellsA hK hf hx hc h0 ha hm hb.1 (by rw [cellsE_len]; exact hb.2) h
          · cases h
        | false =>
          rw [ha] at h
          simp only [cond_false] at h
          obtain ⟨hb, h⟩ := bif_none h
          simp only [Bool.and_eq_true] at hb
          exact store_cells1 hK hf hx hc h0 ha hb.1.1 (by rw [cellsE_len]; exact hb.1.2) hb.2 h
    · exact hno h
  · exact hno h
def storeO (P : Program) [Tys P] (s : ESt) (d : Option Tmp) (t : TypeId) (x y : Operand) (K : ESt → Option ρ) : Option ρ :=
  bif Nat.blt 0 (Tys.c P t).sz then store1 s d (Tys.c P t).agg (Tys.c P t).sz (s.eval x) (s.eval y) K
    (storeBox s d (Tys.c P t).agg (Tys.c P t).sz (s.eval x) (s.eval y) K
      (frzAll s (fun s' => store1 s' d (Tys.c P t).agg (Tys.c P t).sz (s'.eval x) (s'.eval y) K none) (rootsOf (s.eval y)))) else none
theorem storeO_ok [T : Tys P] {s : ESt} {t : TypeId} {x y : Operand} {K : ESt → Option ρ} {res : ρ} (hK : ∀ s', K s' = some res → SLT P L Q s') (h : storeO P s d t x y K = some res) : SLT P (⟨d, .store t x y, ty, none⟩ :: L) Q s := by
  unfold storeO at h
  obtain ⟨h0, h⟩ := bif_none h
  refine store1_ok hK h0 (fun hf h => ?_) h
  refine storeBox_ok hK h0 (fun h => ?_) hf h
  obtain ⟨s', w, h⟩ := frzAll_out _ _ h
  exact SL.weak w (store1_ok (no := none) hK h0 (fun _ h => by cases h) h).out
end
end
end Go.Abs
