/-
Typed states, and the evaluator of operations that only reckon: what it comes to is what the operation does.
No statement of the program is proved here.
-/
import Derived.Test.YtlcholjffgaemaaG1
set_option linter.unusedVariables false
set_option linter.unusedSimpArgs false
set_option linter.unusedSectionVars false
namespace Go.Abs
open Go
noncomputable section
/-- A condition that is not reckoned out. -/
def okB (p : Prop) : Bool := @decide p (Classical.propDecidable p)
theorem okB_of {p : Prop} (h : p) : okB p = true := @decide_eq_true p (Classical.propDecidable p) h
theorem okB_out {p : Prop} (h : okB p = true) : p := @of_decide_eq_true p (Classical.propDecidable p) h

variable {P : Program} {d : Option Tmp} {ty : TypeId}

section
variable [SU] [Codes]
/-- Objects. -/
inductive OD where
  | none
  | dead
  | lst (v : LV)
  | cells (e : TypeId) (l : List EV)
  | hole (v : LV) (q : List Nat) (r c : Nat)
  | mp (s : Bool) (τ : Ty) (g : MKey → Option τ.D)

structure EHeap where
  next : Nat
  lo : Nat
  obj : Nat → OD
def EHeap.at (H : EHeap) (k : Nat) (p : List Nat) : Option LV := match H.obj k with
  | .lst v => v.at p
  | _ => none
def OD.len : OD → List Nat → Option Nat
  | .lst v, p => match v.at p with
    | some a => some a.l.length
    | Option.none => Option.none
  | .cells _ _, [] => some 1
  | _, _ => Option.none
def EHeap.len (H : EHeap) : Len := fun k p => (H.obj k).len p
theorem EHeap.len_at {H : EHeap} {k : Nat} {p : List Nat} {v : LV} (h : H.at k p = some v) : H.len k p = some v.l.length := by
  unfold EHeap.at at h
  unfold EHeap.len
  split at h
  · rename_i w ho
    rw [ho]
    simp only [OD.len, h]
  · cases h
structure ESt where
  nt : Nat
  env : Nat → EV
  heap : EHeap

/-! ### What they are over the abstract states -/
def cellV (len : Len) (k : Nat) (p : List Nat) (r c : Nat) : Cell → V
  | .ev u => toV len u
  | .own _ _ l => .sref ⟨k, p ++ [c, r]⟩ 0 0 l.length
def LV.obj (len : Len) (k : Nat) (p : List Nat) (v : LV) : AObj := { elem := v.e, sz := v.τ.sz, ver := 0, n := v.l.length, get := fun r c => cellV len k p r c (cellC v.τ (v.row r) c) }
def LV.holed (len : Len) (k : Nat) (p : List Nat) (v : LV) (q : List Nat) (r c : Nat) : AObj :=
  { elem := v.e, sz := v.τ.sz, ver := 0, n := v.l.length, get := fun r' c' => if p = q ∧ r' = r ∧ c' = c then .un else cellV len k p r' c' (cellC v.τ (v.row r') c') }
def OD.slot (len : Len) (k : Nat) : OD → List Nat → Slot
  | .none, _ => .unborn
  | .dead, _ => .dead
  | .lst v, p => match v.at p with
    | some a => .live (a.obj len k p)
    | Option.none => .unborn
  | .cells e l, [] => .live { elem := e, sz := l.length, ver := 0, n := 1, get := fun _ c => toVs len l c }
  | .cells _ _, _ :: _ => .unborn
  | .hole v q r c, p => if q ++ [c, r] <+: p then .dead else match v.at p with
    | some a => .live (a.holed len k p q r c)
    | Option.none => .unborn
  | .mp s τ g, [] => .mp s (fun x => match g x with
    | some y => some (.t (encC τ y 0))
    | Option.none => Option.none)
  | .mp _ _ _, _ :: _ => .unborn
def toH (H : EHeap) : Heap := ⟨H.next, fun id => (H.obj id.k).slot H.len id.k id.p, H.lo⟩
def toSt (s : ESt) : St := ⟨s.nt, fun t => toV s.heap.len (s.env t), toH s.heap⟩

theorem slot_lst {H : EHeap} {k : Nat} {p : List Nat} {v : LV} (h : H.at k p = some v) : (toH H).slot ⟨k, p⟩ = .live (v.obj H.len k p) := by
  unfold EHeap.at at h
  show (H.obj k).slot H.len k p = _
  split at h
  · rename_i w ho
    rw [ho]
    simp only [OD.slot, h]
  · cases h
theorem slot_cells {H : EHeap} {k : Nat} {e : TypeId} {l : List EV} (h : H.obj k = .cells e l) : (toH H).slot ⟨k, []⟩ = .live { elem := e, sz := l.length, ver := 0, n := 1, get := fun _ c => toVs H.len l c } := by
  show (H.obj k).slot H.len k [] = _
  rw [h]; rfl
theorem LV.at_append : ∀ (p : List Nat) (v a : LV) (q : List Nat), v.at p = some a → v.at (p ++ q) = a.at q
  | [], v, a, q, h => by rw [LV.at_nil] at h; injection h with h; rw [h]; rfl
  | [_], v, a, q, h => by rw [LV.at_odd] at h; cases h
  | c :: r :: p, v, a, q, h => by
    rw [LV.at_cons] at h
    rw [List.cons_append, List.cons_append, LV.at_cons]
    cases hk : v.kid c r with
    | none => rw [hk] at h; cases h
    | some k =>
      rw [hk] at h
      exact LV.at_append p k a q h
theorem EHeap.at_append {H : EHeap} {k : Nat} {p q : List Nat} {a : LV} (h : H.at k p = some a) : H.at k (p ++ q) = a.at q := by
  unfold EHeap.at at h ⊢
  split at h
  · exact LV.at_append _ _ _ _ h
  · cases h
theorem LV.at_one (v : LV) (c r : Nat) : v.at [c, r] = v.kid c r := by
  rw [LV.at_cons]
  cases v.kid c r with
  | none => rfl
  | some k => exact LV.at_nil k

/-! ### Operands -/
def evCell : Value → EV
  | .bool b => .b b
  | .int k n => .i k n
  | .string s => bif Nat.ble s.size 9223372036854775807 then .s s else .un
  | .slice Option.none 0 0 => .nils
  | .pointer Option.none => .nilp
  | .map Option.none => .nilm
  | .nilFunc => .nilf
  | .nilIface => .nili
  | _ => .un
theorem evCell_eq (len : Len) (v : Value) : toV len (evCell v) = V.cell v := by
  unfold evCell V.cell
  split <;> try (simp only [toV]; done)
  rename_i s
  cases h : Nat.ble s.size 9223372036854775807 <;> simp only [h, cond_true, cond_false, toV]
def evOf : Value → EV
  | .agg cs => bif cs.all (·.oneCell') then .agg (cs.toList.map evCell) else .un
  | v => evCell v
theorem evOf_wk (len : Len) (v : Value) : Wk (V.ofValue v) (toV len (evOf v)) := by
  unfold V.ofValue
  split
  · rename_i cs
    simp only [evOf]
    cases h : cs.all (·.oneCell')
    · exact Wk.un _
    · simp only [cond_true, toV, List.length_map, Array.length_toList]
      refine Wk.agg fun j hj => Wk.of_eq ?_
      rw [toVs_eq]
      simp [List.getD_eq_getElem?_getD, hj, Array.getD_eq_getD_getElem?, evCell_eq]
  · rename_i hv
    have : evOf v = evCell v := by
      cases v <;> first | rfl | exact absurd rfl (hv _)
    rw [this, evCell_eq]; exact Wk.refl _
def ESt.eval (s : ESt) : Operand → EV
  | .tmp t => s.env t
  | .const v => evOf v
  | .global _ => .un
  | .func f => .fn f []
theorem ESt.eval_wk (s : ESt) (x : Operand) : Wk ((toSt s).eval x) (toV s.heap.len (s.eval x)) := by
  cases x with
  | tmp t => exact Wk.refl _
  | const v => exact evOf_wk _ v
  | global g => exact Wk.un _
  | func f => simp only [St.eval, ESt.eval, toV, List.length_nil]; exact fun H ι F w c ⟨cs, h1, h2, h3⟩ => ⟨cs, h1, h2, fun j hj => absurd hj (Nat.not_lt_zero _)⟩
def ESt.put (s : ESt) (d : Option Tmp) (v : EV) : ESt := match d with
  | Option.none => s
  | some d => { s with env := fun t => bif Nat.beq t d then (bif Nat.blt d s.nt then v else .un) else s.env t }
theorem toSt_put (s : ESt) (d : Option Tmp) (v : EV) : toSt (s.put d v) = (toSt s).put d (toV s.heap.len v) := by
  cases d with
  | none => rfl
  | some d =>
    simp only [toSt, ESt.put, St.put]
    congr 1
    funext t
    cases Nat.beq t d with
    | false => rfl
    | true => cases Nat.blt d s.nt <;> simp [toV]
theorem QV.wk {g : GOp} {u u' : V} {st : St} (h : QV P g u st) (k : Wk u u') : QV P g u' st := fun E ι F a w r => by
  obtain ⟨v, h1, h2⟩ := h E ι F a w r
  exact ⟨v, h1, k _ _ _ _ _ h2⟩
def EV.isAgg : EV → Bool
  | .agg _ => true
  | .fn _ _ => true
  | _ => false
theorem eval_eq {s : ESt} {x : Operand} {u : EV} (h : s.eval x = u) (hu : u.isAgg = false) : (toSt s).eval x = toV s.heap.len u := by
  subst h
  cases x with
  | tmp t => rfl
  | const v =>
    show V.ofValue v = toV _ (evOf v)
    unfold V.ofValue
    split
    · rename_i cs
      simp only [ESt.eval, evOf] at hu ⊢
      cases h : cs.all (·.oneCell') with
      | false => simp only [cond_false, toV]
      | true => rw [h] at hu; cases hu
    · rename_i hv
      have : evOf v = evCell v := by
        cases v <;> first | rfl | exact absurd rfl (hv _)
      rw [this, evCell_eq]
  | global g => simp only [St.eval, ESt.eval, toV]
  | func f => cases hu

/-! ### The words of what is computed -/
variable {ρ : Type}
def grd (b : Bool) (x : Option ρ) : Option ρ := bif b then x else none
def ixO (m : Int) (n : Nat) (K : Nat → Option ρ) : Option ρ := grd (okB (0 ≤ m ∧ m < n)) (K m.toNat)
def wrO (k : IntKind) (z : Int) (K : Int → Option ρ) : Option ρ := match k with
  | .i64 => grd (okB (-9223372036854775808 ≤ z ∧ z ≤ 9223372036854775807)) (K z)
  | k => K (k.wrap z)
theorem grd_out {b : Bool} {x : Option ρ} {r : ρ} (h : grd b x = some r) : b = true ∧ x = some r := by
  cases b
  · cases h
  · exact ⟨rfl, h⟩
theorem ixO_out {m : Int} {n : Nat} {K : Nat → Option ρ} {r : ρ} (h : ixO m n K = some r) : (0 ≤ m ∧ m < n) ∧ K m.toNat = some r := by
  obtain ⟨h1, h2⟩ := grd_out h
  exact ⟨okB_out h1, h2⟩
theorem wrO_out {k : IntKind} {z : Int} {K : Int → Option ρ} {r : ρ} (h : wrO k z K = some r) : K (k.wrap z) = some r := by
  unfold wrO at h
  split at h
  · obtain ⟨h1, h2⟩ := grd_out h
    have h1 := okB_out h1
    rw [wrap_in h1.1 h1.2]; exact h2
  · exact h
theorem bif_none {b : Bool} {x : Option ρ} {r : ρ} (h : (bif b then x else none) = some r) : b = true ∧ x = some r := grd_out h
/-- The head of a value is laid open. -/
def fE (u : EV) (K : EV → Option ρ) : Option ρ := match u with
  | .un => K .un
  | .und => K .und
  | .b x => K (.b x)
  | .i k n => K (.i k n)
  | .s x => K (.s x)
  | .fz τ l => K (.fz τ l)
  | .fp τ x c => K (.fp τ x c)
  | .st i x => K (.st i x)
  | .ptr id p r c => K (.ptr id p r c)
  | .sref id p r n => K (.sref id p r n)
  | .sfull id p => K (.sfull id p)
  | .nils => K .nils
  | .nilp => K .nilp
  | .nilm => K .nilm
  | .nilf => K .nilf
  | .nili => K .nili
  | .mref id => K (.mref id)
  | .agg l => K (.agg l)
  | .tup l => K (.tup l)
  | .fn f l => K (.fn f l)
theorem fE_eq (u : EV) (K : EV → Option ρ) : fE u K = K u := by cases u <;> rfl

/-! ### Cells of rows -/
def cellE (k : Nat) (p : List Nat) (τ : Ty) (x : τ.D) (r c : Nat) : EV := match cellC τ x c with
  | .ev u => u
  | .own _ _ _ => .sfull k (p ++ [c, r])
/-- Some cells of a row. -/
def cellsE (k : Nat) (p : List Nat) (τ : Ty) (x : τ.D) (r c : Nat) : Nat → List EV
  | 0 => []
  | n + 1 => cellE k p τ x r c :: cellsE k p τ x r (c + 1) n
theorem cellsE_len (k : Nat) (p : List Nat) (τ : Ty) (x : τ.D) (r : Nat) : ∀ n c, (cellsE k p τ x r c n).length = n
  | 0, c => rfl
  | n + 1, c => by simp [cellsE, cellsE_len k p τ x r n]
theorem cellsE_at (len : Len) (k : Nat) (p : List Nat) (τ : Ty) (x : τ.D) (r : Nat) : ∀ n c j, j < n → toVs len (cellsE k p τ x r c n) j = toV len (cellE k p τ x r (c + j))
  | 0, c, j, h => absurd h (Nat.not_lt_zero _)
  | n + 1, c, 0, h => by simp [cellsE, toVs]
  | n + 1, c, j + 1, h => by
    simp only [cellsE, toVs]
    rw [cellsE_at len k p τ x r n (c + 1) j (by omega)]
    congr 2; omega
def rowVal (k : Nat) (p : List Nat) (τ : Ty) (x : τ.D) (r c n : Nat) (K : EV → Option ρ) : Option ρ := match τ, x with
  | .st i, x => bif Nat.beq n (SU.sz i) then (bif Nat.beq c 0 then (bif Codes.fro i then K (.st i x) else K (.agg (cellsE k p (.st i) x r c n))) else K (.agg (cellsE k p (.st i) x r c n))) else K (.agg (cellsE k p (.st i) x r c n))
  | τ, x => K (.agg (cellsE k p τ x r c n))
theorem rowVal_out {len : Len} {k : Nat} {p : List Nat} {τ : Ty} {x : τ.D} {r c n : Nat} {K : EV → Option ρ} {res : ρ} (h : rowVal k p τ x r c n K = some res) {g : Nat → V} (hg : ∀ j, j < n → Wk (g j) (toV len (cellE k p τ x r (c + j)))) :
    ∃ u, Wk (.agg n g) (toV len u) ∧ K u = some res := by
  have key : K (.agg (cellsE k p τ x r c n)) = some res → ∃ u, Wk (.agg n g) (toV len u) ∧ K u = some res := fun k' => ⟨_, by
    simp only [toV, cellsE_len]
    exact Wk.agg fun j hj => by rw [cellsE_at len k p τ x r n c j hj]; exact hg j hj, k'⟩
  cases τ with
  | st i =>
    simp only [rowVal] at h
    cases h1 : Nat.beq n (SU.sz i) with
    | false => rw [h1] at h; exact key h
    | true =>
      cases h2 : Nat.beq c 0 with
      | false => rw [h1, h2] at h; exact key h
      | true =>
        cases h3 : Codes.fro i with
        | false => rw [h1, h2, h3] at h; exact key h
        | true =>
          rw [h1, h2, h3] at h
          obtain rfl := natBeq h1
          obtain rfl := natBeq h2
          refine ⟨.st i x, ?_, h⟩
          simp only [toV]
          exact Wk.agg fun j hj => by
            have := hg j hj
            rw [Nat.zero_add] at this
            obtain ⟨u, e1, e2⟩ := Codes.cell_ok i x j h3
            have e2 := e2 hj
            simp only [cellE, cellC, e1] at this
            rw [e2] at this
            exact this
  | _ => exact key h
theorem cellE_V {H : EHeap} {k : Nat} {p : List Nat} {v : LV} (h : H.at k p = some v) (r c : Nat) : toV H.len (cellE k p v.τ (v.row r) r c) = cellV H.len k p r c (cellC v.τ (v.row r) c) := by
  unfold cellE
  cases hc : cellC v.τ (v.row r) c with
  | ev u => rfl
  | own t e l =>
    simp only [toV, cellV]
    have : H.at k (p ++ [c, r]) = some ⟨t, e, l⟩ := by
      rw [EHeap.at_append h, LV.at_one]
      exact LV.kid_of hc
    rw [EHeap.len_at this]
/-- Frozen rows. -/
theorem cellE_F {len : Len} {k : Nat} {p : List Nat} {τ : Ty} {x : τ.D} {r c : Nat} (hf : froT τ = true) (hc : c < τ.sz) : toV len (cellE k p τ x r c) = .t (encC τ x c) := by
  obtain ⟨u, e1, e2⟩ := cellC_enc τ x c hf
  simp only [cellE, e1, e2 hc]

def nthE : List EV → Nat → EV
  | [], _ => .un
  | a :: _, 0 => a
  | _ :: l, n + 1 => nthE l n
theorem nthE_eq (len : Len) : ∀ (l : List EV) (n : Nat), toV len (nthE l n) = toVs len l n
  | [], n => by simp [nthE, toVs, toV]
  | a :: l, 0 => by simp [nthE, toVs]
  | a :: l, n + 1 => by simp only [nthE, toVs]; exact nthE_eq len l n
def cutE (l : List EV) (c : Nat) : Nat → List EV
  | 0 => []
  | n + 1 => nthE l c :: cutE l (c + 1) n
theorem cutE_len (l : List EV) : ∀ n c, (cutE l c n).length = n
  | 0, c => rfl
  | n + 1, c => by simp [cutE, cutE_len l n]
theorem cutE_at (len : Len) (l : List EV) : ∀ n c j, j < n → toVs len (cutE l c n) j = toVs len l (c + j)
  | 0, c, j, h => absurd h (Nat.not_lt_zero _)
  | n + 1, c, 0, h => by simp [cutE, toVs, nthE_eq]
  | n + 1, c, j + 1, h => by
    simp only [cutE, toVs]
    rw [cutE_at len l n (c + 1) j (by omega)]
    congr 1; omega

/-! ### Loads and places -/
def runLoad [Tys P] (H : EHeap) (t : TypeId) (a : EV) (K : EV → Option ρ) : Option ρ := bif Nat.blt 0 (Tys.c P t).sz then (match a with
  | .fp τ x c => bif froT τ then (bif Nat.ble (c + (Tys.c P t).sz) τ.sz then (bif (Tys.c P t).agg then rowVal 0 [] τ x 0 c (Tys.c P t).sz K else fE (cellE 0 [] τ x 0 c) K) else none) else none
  | .ptr id p r c => match H.obj id with
    | .cells _ l => match p with
      | [] => grd (Nat.blt r 1) (bif (Tys.c P t).agg then (bif Nat.ble (c + (Tys.c P t).sz) l.length then K (.agg (cutE l c (Tys.c P t).sz)) else none) else (bif Nat.blt c l.length then fE (nthE l c) K else none))
      | _ => none
    | _ => match H.at id p with
      | some v => bif Nat.ble (c + (Tys.c P t).sz) v.τ.sz then grd (Nat.blt r v.l.length) (bif (Tys.c P t).agg then rowVal id p v.τ (v.l.getD r v.τ.z) r c (Tys.c P t).sz K else fE (cellE id p v.τ (v.l.getD r v.τ.z) r c) K) else none
      | none => none
  | _ => none) else none
theorem runLoad_ok [T : Tys P] {s : ESt} {t : TypeId} {a : Operand} {K : EV → Option ρ} {res : ρ} (h : runLoad (P := P) s.heap t (s.eval a) K = some res) : ∃ u, (∀ d ty, QV P ⟨d, .load t a, ty, none⟩ (toV s.heap.len u) (toSt s)) ∧ K u = some res := by
  unfold runLoad at h
  obtain ⟨h0, h⟩ := bif_none h
  split at h
  · rename_i τ x c hx
    have hx := eval_eq hx rfl
    simp only [toV] at hx
    obtain ⟨hf, h⟩ := bif_none h
    obtain ⟨h1, h⟩ := bif_none h
    have h1 := Nat.le_of_ble_eq_true h1
    have h0' := Nat.le_of_ble_eq_true h0
    cases ha : (Tys.c P t).agg with
    | true =>
      rw [ha] at h
      have := TySz.of' h0 ha
      obtain ⟨u, k1, k2⟩ := rowVal_out (len := s.heap.len) (K := K) h (g := fun j => .t (encC τ x (j + c))) (fun j hj => by
        rw [cellE_F hf (by omega), Nat.add_comm c j]; exact Wk.refl _)
      exact ⟨u, fun d ty => (O.loadFA hx (Nat.ble_eq_true_of_le (by omega))).wk k1, k2⟩
    | false =>
      rw [ha] at h
      have := TySz.of' h0 ha
      simp only [cond_false] at h
      rw [fE_eq] at h
      refine ⟨_, fun d ty => (O.loadF hx (Nat.ble_eq_true_of_le (by omega))).wk ?_, h⟩
      rw [cellE_F hf (by omega), Nat.zero_add]; exact Wk.refl _
  · rename_i id p r c hx
    have hx := eval_eq hx rfl
    simp only [toV] at hx
    split at h
    · rename_i e l ho
      split at h
      · have hs := slot_cells ho
        obtain ⟨h2, h⟩ := grd_out h
        have h2 := Nat.le_of_ble_eq_true h2
        cases ha : (Tys.c P t).agg with
        | true =>
          rw [ha] at h
          obtain ⟨h3, h⟩ := bif_none h
          have h3 := Nat.le_of_ble_eq_true h3
          have := TySz.of' h0 ha
          refine ⟨_, fun d ty => (O.loadPA hx hs rfl (by simpa using h2) h3).wk ?_, h⟩
          simp only [toV, cutE_len]
          exact Wk.agg fun j hj => by rw [cutE_at _ l _ c j hj, Nat.add_comm c j]; exact Wk.refl _
        | false =>
          rw [ha] at h
          obtain ⟨h3, h⟩ := bif_none h
          have := TySz.of' h0 ha
          rw [fE_eq] at h
          refine ⟨_, fun d ty => (O.loadP hx hs rfl (by simpa using h2) (Nat.le_of_ble_eq_true h3)).wk ?_, h⟩
          rw [nthE_eq]; exact Wk.refl _
      · cases h
    · split at h
      · rename_i v hv
        obtain ⟨h3, h⟩ := bif_none h
        obtain ⟨h2, h⟩ := grd_out h
        have h2 := Nat.le_of_ble_eq_true h2
        have h3 := Nat.le_of_ble_eq_true h3
        have h0' := Nat.le_of_ble_eq_true h0
        have hs := slot_lst hv
        cases ha : (Tys.c P t).agg with
        | true =>
          rw [ha] at h
          have := TySz.of' h0 ha
          obtain ⟨u, k1, k2⟩ := rowVal_out (len := s.heap.len) (K := K) h (g := fun j => cellV s.heap.len id p r (j + c) (cellC v.τ (v.row r) (j + c))) (fun j hj => by
            rw [Nat.add_comm j c]; exact Wk.of_eq (cellE_V hv r (c + j)).symm)
          exact ⟨u, fun d ty => (O.loadPA hx hs rfl h2 h3).wk k1, k2⟩
        | false =>
          rw [ha] at h
          have := TySz.of' h0 ha
          simp only [cond_false] at h
          rw [fE_eq] at h
          exact ⟨_, fun d ty => (O.loadP hx hs rfl h2 (by show c < v.τ.sz; omega)).wk (Wk.of_eq (cellE_V hv r c).symm), h⟩
      · cases h
  · cases h

/-- Is there such an object? -/
def EHeap.is (H : EHeap) (id : Nat) (p : List Nat) : Bool := match H.obj id with
  | .cells _ _ => match p with
    | [] => true
    | _ => false
  | _ => match H.at id p with
    | some _ => true
    | none => false
theorem EHeap.is_out {H : EHeap} {id : Nat} {p : List Nat} (h : H.is id p = true) : ∃ x, (toH H).slot ⟨id, p⟩ = .live x ∧ x.ver = 0 := by
  unfold EHeap.is at h
  split at h
  · rename_i ho
    split at h
    · exact ⟨_, slot_cells ho, rfl⟩
    · cases h
  · split at h
    · rename_i hv
      exact ⟨_, slot_lst hv, rfl⟩
    · cases h
/-- A small number is laid open. -/
def litO (n : Nat) (K : Nat → Option ρ) : Option ρ := match n with
  | 0 => K 0
  | 1 => K 1
  | 2 => K 2
  | 3 => K 3
  | 4 => K 4
  | 5 => K 5
  | 6 => K 6
  | 7 => K 7
  | 8 => K 8
  | 9 => K 9
  | 10 => K 10
  | 11 => K 11
  | 12 => K 12
  | 13 => K 13
  | 14 => K 14
  | 15 => K 15
  | n + 16 => K (n + 16)
theorem litO_eq (n : Nat) (K : Nat → Option ρ) : litO n K = K n := by
  unfold litO
  split <;> rfl
def runField [Tys P] (H : EHeap) (t f : Nat) (a : EV) (K : EV → Option ρ) : Option ρ := match nth (Tys.c P t).fields f with
  | some (off, _, _) => match a with
    | .fp τ x c => litO (c + off) fun c' => K (.fp τ x c')
    | .ptr id p r c => bif H.is id p then litO (c + off) fun c' => K (.ptr id p r c') else none
    | _ => none
  | none => none
theorem runField_ok [T : Tys P] {s : ESt} {t f : Nat} {x : Operand} {K : EV → Option ρ} {res : ρ} (h : runField (P := P) s.heap t f (s.eval x) K = some res) : ∃ u, (∀ d ty, QV P ⟨d, .fieldAddr t x f, ty, none⟩ (toV s.heap.len u) (toSt s)) ∧ K u = some res := by
  unfold runField at h
  split at h
  · rename_i off ag sz hf
    have := (T.ok t).fld f off ag sz hf
    split at h
    · rename_i τ y c hx
      have hx := eval_eq hx rfl
      simp only [toV] at hx
      rw [litO_eq] at h
      refine ⟨_, fun d ty => (O.fieldF hx).wk ?_, h⟩
      simp only [toV]
      exact Wk.fp (by omega) (fun j hj => by congr 1; omega)
    · rename_i id p r c hx
      have hx := eval_eq hx rfl
      simp only [toV] at hx
      obtain ⟨h1, h⟩ := bif_none h
      obtain ⟨o, ho, hv⟩ := EHeap.is_out h1
      rw [litO_eq] at h
      exact ⟨_, fun d ty => (by simp only [toV]; exact O.fieldP hx ho hv.symm), h⟩
    · cases h
  · cases h

def runIndex [Tys P] (H : EHeap) (t : TypeId) (a i : EV) (K : EV → Option ρ) : Option ρ := match (Tys.c P t).sl with
  | some (_, sz, _) => match i with
    | .i _ m => match a with
      | .fz τ l => bif Nat.beq τ.sz sz then ixO m l.length fun i => K (.fp τ (l.getD i τ.z) 0) else none
      | .sfull id p => match H.at id p with
        | some v => bif Nat.beq v.τ.sz sz then ixO m v.l.length fun i => K (.ptr id p i 0) else none
        | none => none
      | .sref id p r n => match H.at id p with
        | some v => bif Nat.beq v.τ.sz sz then ixO m n fun i => K (.ptr id p (i + r) 0) else none
        | none => none
      | _ => none
    | _ => none
  | none => none
theorem runIndex_ok [T : Tys P] {s : ESt} {t : Nat} {x y : Operand} {K : EV → Option ρ} {res : ρ} (h : runIndex (P := P) s.heap t (s.eval x) (s.eval y) K = some res) : ∃ u, (∀ d ty, QV P ⟨d, .indexAddr t x y, ty, none⟩ (toV s.heap.len u) (toSt s)) ∧ K u = some res := by
  unfold runIndex at h
  split at h
  · rename_i e sz b hs
    have := (T.ok t).sl e sz b hs
    split at h
    · rename_i k m hy
      have hy := eval_eq hy rfl
      simp only [toV] at hy
      split at h
      · rename_i τ l hx
        have hx := eval_eq hx rfl
        simp only [toV, encL] at hx
        obtain ⟨h2, g⟩ := bif_none h
        clear h
        obtain ⟨h3, h⟩ := ixO_out g
        clear g
        obtain rfl := natBeq h2
        exact ⟨_, fun d ty => (O.indexF hx hy h3.1 h3.2).wk (by simp only [toV]; exact Wk.refl _), h⟩
      · rename_i id p hx
        split at h
        · rename_i v hv
          have hx := eval_eq hx rfl
          simp only [toV, EHeap.len_at hv] at hx
          obtain ⟨h2, g⟩ := bif_none h
          clear h
          obtain ⟨h3, h⟩ := ixO_out g
          clear g
          obtain rfl := natBeq h2
          have hs' := slot_lst hv
          exact ⟨_, fun d ty => (O.indexS hx hs' rfl rfl hy h3.1 h3.2).wk (by simp only [toV]; exact Wk.refl _), h⟩
        · cases h
      · rename_i id p r n hx
        split at h
        · rename_i v hv
          have hx := eval_eq hx rfl
          simp only [toV] at hx
          obtain ⟨h2, g⟩ := bif_none h
          clear h
          obtain ⟨h3, h⟩ := ixO_out g
          clear g
          obtain rfl := natBeq h2
          have hs' := slot_lst hv
          exact ⟨_, fun d ty => (O.indexS hx hs' rfl rfl hy h3.1 h3.2).wk (by simp only [toV]; exact Wk.refl _), h⟩
        · cases h
      · cases h
    · cases h
  · cases h

def runLen [Tys P] (H : EHeap) (t : TypeId) (a : EV) (K : EV → Option ρ) : Option ρ := match a with
  | .s x => match (Tys.c P t).desc with
    | some .string => K (.i .i64 x.size)
    | _ => none
  | a => match (Tys.c P t).sl with
    | none => none
    | some _ => match a with
      | .fz _ l => K (.i .i64 l.length)
      | .nils => K (.i .i64 0)
      | .sfull id p => match H.at id p with
        | some v => K (.i .i64 v.l.length)
        | none => none
      | .sref id p _ n => match H.at id p with
        | some v => K (.i .i64 n)
        | none => none
      | _ => none
theorem runLen_ok [T : Tys P] {s : ESt} {t : Nat} {x : Operand} {K : EV → Option ρ} {res : ρ} (h : runLen (P := P) s.heap t (s.eval x) K = some res) :
    ∃ u, (∀ d ty, QV P ⟨d, .call { callee := .builtin .len, args := #[x], argTypes := #[t] }, ty, none⟩ (toV s.heap.len u) (toSt s)) ∧ K u = some res := by
  unfold runLen at h
  split at h
  · rename_i hx
    have hx := eval_eq hx rfl
    simp only [toV] at hx
    split at h
    · rename_i hd
      have := (T.ok t).desc _ hd
      exact ⟨_, fun d ty => (by simp only [toV]; exact O.lenStr hx), h⟩
    · cases h
  · split at h
    · cases h
    · rename_i z hs
      obtain ⟨e, sz, b⟩ := z
      have := (T.ok t).sl e sz b hs
      split at h
      · rename_i hx
        have hx := eval_eq hx rfl
        simp only [toV, encL] at hx
        exact ⟨_, fun d ty => (by simp only [toV]; exact O.lenF hx), h⟩
      · rename_i hx
        have hx := eval_eq hx rfl
        simp only [toV] at hx
        exact ⟨_, fun d ty => (by simp only [toV]; exact O.lenN hx), h⟩
      · rename_i id p hx
        split at h
        · rename_i v hv
          have hx := eval_eq hx rfl
          simp only [toV, EHeap.len_at hv] at hx
          exact ⟨_, fun d ty => (by simp only [toV]; exact O.lenS hx (slot_lst hv) rfl), h⟩
        · cases h
      · rename_i id p r n hx
        split at h
        · rename_i v hv
          have hx := eval_eq hx rfl
          simp only [toV] at hx
          exact ⟨_, fun d ty => (by simp only [toV]; exact O.lenS hx (slot_lst hv) rfl), h⟩
        · cases h
      · cases h

/-! ### Numbers, truth values, strings -/
def runCmp (op : BinOp) (m n : Int) (K : EV → Option ρ) : Option ρ := match op with
  | .eql => K (.b (decide (m = n)))
  | .neq => K (.b (!decide (m = n)))
  | .lss => K (.b (decide (m < n)))
  | .leq => K (.b (decide (m ≤ n)))
  | .gtr => K (.b (decide (n < m)))
  | .geq => K (.b (decide (n ≤ m)))
  | _ => none
def runInt (op : BinOp) (k : IntKind) (m n : Int) (K : EV → Option ρ) : Option ρ := match op with
  | .add => wrO k (m + n) fun z => K (.i k z)
  | .sub => wrO k (m - n) fun z => K (.i k z)
  | .mul => wrO k (m * n) fun z => K (.i k z)
  | .quo => grd (!decide (n = 0)) (wrO k (m.tdiv n) fun z => K (.i k z))
  | .rem => grd (!decide (n = 0)) (K (.i k (m.tmod n)))
  | .and => K (.i k (bitOp .and k m n))
  | .or => K (.i k (bitOp .or k m n))
  | .xor => K (.i k (bitOp .xor k m n))
  | .andNot => K (.i k (bitOp .andNot k m n))
  | op => runCmp op m n K
def runBin [Tys P] (op : BinOp) (tx : TypeId) (u v : EV) (K : EV → Option ρ) : Option ρ := match u, v with
  | .i k m, .i k' n => match op with
    | .shl => grd (okB (0 ≤ n)) (K (.i k (k.wrap (m * 2 ^ (min n.toNat k.bits)))))
    | .shr => grd (okB (0 ≤ n)) (K (.i k (m.fdiv (2 ^ (min n.toNat k.bits)))))
    | op => bif kindEq k k' then runInt op k m n K else none
  | .b p, .b q => match (Tys.c P tx).desc with
    | some .bool => match op with
      | .eql => K (.b (p == q))
      | .neq => K (.b (!(p == q)))
      | _ => none
    | _ => none
  | .s x, .s y => match op with
    | .eql => K (.b (x.toList == y.toList))
    | .neq => K (.b (!(x.toList == y.toList)))
    | _ => none
  | _, _ => none
theorem runCmp_ok {s : ESt} {o : BinOp} {tx tY : TypeId} {x y : Operand} {k : IntKind} {m n : Int} {K : EV → Option ρ} {res : ρ} (hx : (toSt s).eval x = .t (.int k m)) (hy : (toSt s).eval y = .t (.int k n)) (h : runCmp o m n K = some res) : ∃ u, (∀ d ty, QV P ⟨d, .binOp o tx x y tY, ty, none⟩ (toV s.heap.len u) (toSt s)) ∧ K u = some res := by
  cases o <;> first
    | (cases h; done)
    | exact ⟨_, fun d ty => (by simp only [toV]; exact O.eql hx hy), h⟩
    | exact ⟨_, fun d ty => (by simp only [toV]; exact O.neq hx hy), h⟩
    | exact ⟨_, fun d ty => (by simp only [toV]; exact O.lss hx hy), h⟩
    | exact ⟨_, fun d ty => (by simp only [toV]; exact O.leq hx hy), h⟩
    | exact ⟨_, fun d ty => (by simp only [toV]; exact O.gtr hx hy), h⟩
    | exact ⟨_, fun d ty => (by simp only [toV]; exact O.geq hx hy), h⟩
theorem not_dec {p : Prop} [Decidable p] (h : (!decide p) = true) : ¬ p := by simpa using h
theorem runInt_ok {s : ESt} {o : BinOp} {tx tY : TypeId} {x y : Operand} {k : IntKind} {m n : Int} {K : EV → Option ρ} {res : ρ} (hx : (toSt s).eval x = .t (.int k m)) (hy : (toSt s).eval y = .t (.int k n)) (h : runInt o k m n K = some res) : ∃ u, (∀ d ty, QV P ⟨d, .binOp o tx x y tY, ty, none⟩ (toV s.heap.len u) (toSt s)) ∧ K u = some res := by
  cases o <;> first
    | exact runCmp_ok hx hy h
    | (have h' := wrO_out (show wrO k (m + n) (fun z => K (.i k z)) = some res from h); exact ⟨_, fun d ty => (by simp only [toV]; exact O.add hx hy rfl), h'⟩)
    | (have h' := wrO_out (show wrO k (m - n) (fun z => K (.i k z)) = some res from h); exact ⟨_, fun d ty => (by simp only [toV]; exact O.sub hx hy rfl), h'⟩)
    | (have h' := wrO_out (show wrO k (m * n) (fun z => K (.i k z)) = some res from h); exact ⟨_, fun d ty => (by simp only [toV]; exact O.mul hx hy rfl), h'⟩)
    | (have h' := grd_out (show grd (!decide (n = 0)) (wrO k (m.tdiv n) (fun z => K (.i k z))) = some res from h); have h2 := wrO_out h'.2; exact ⟨_, fun d ty => (by simp only [toV]; exact O.quo hx hy (not_dec h'.1) rfl), h2⟩)
    | (have h' := grd_out (show grd (!decide (n = 0)) (K (.i k (m.tmod n))) = some res from h); exact ⟨_, fun d ty => (by simp only [toV]; exact O.rem hx hy (not_dec h'.1)), h'.2⟩)
    | exact ⟨_, fun d ty => (by simp only [toV]; exact O.bits hx hy rfl), h⟩
theorem runBin_ok [T : Tys P] {s : ESt} {o : BinOp} {tx tY : TypeId} {x y : Operand} {K : EV → Option ρ} {res : ρ} (h : runBin (P := P) o tx (s.eval x) (s.eval y) K = some res) : ∃ u, (∀ d ty, QV P ⟨d, .binOp o tx x y tY, ty, none⟩ (toV s.heap.len u) (toSt s)) ∧ K u = some res := by
  unfold runBin at h
  split at h
  · rename_i k m k' n hx hy
    have hx := eval_eq hx rfl
    have hy := eval_eq hy rfl
    simp only [toV] at hx hy
    split at h
    · obtain ⟨h1, h⟩ := grd_out h
      exact ⟨_, fun d ty => (by simp only [toV]; exact O.shl hx hy (okB_out h1)), h⟩
    · obtain ⟨h1, h⟩ := grd_out h
      exact ⟨_, fun d ty => (by simp only [toV]; exact O.shr hx hy (okB_out h1)), h⟩
    · obtain ⟨h1, g⟩ := bif_none h
      clear h
      have := kindEq_eq h1
      subst this
      exact runInt_ok hx hy g
  · rename_i p q hx hy
    have hx := eval_eq hx rfl
    have hy := eval_eq hy rfl
    simp only [toV] at hx hy
    split at h
    · rename_i hd
      have := (T.ok tx).desc _ hd
      split at h
      · exact ⟨_, fun d ty => (by simp only [toV]; exact O.eqlB' hx hy), h⟩
      · exact ⟨_, fun d ty => (by simp only [toV]; exact O.neqB' hx hy), h⟩
      · cases h
    · cases h
  · rename_i hx hy
    have hx := eval_eq hx rfl
    have hy := eval_eq hy rfl
    simp only [toV] at hx hy
    split at h
    · exact ⟨_, fun d ty => (by simp only [toV]; exact O.eqlStr' hx hy), h⟩
    · exact ⟨_, fun d ty => (by simp only [toV]; exact O.neqStr' hx hy), h⟩
    · cases h
  · cases h

/-! ### All operations that only reckon -/
def runBuiltin [Tys P] (ev : Operand → EV) (H : EHeap) (b : Builtin) (args : List Operand) (ts : List TypeId) (K : EV → Option ρ) : Option ρ := match b with
  | .len => match args, ts with
    | [x], [t] => runLen (P := P) H t (ev x) K
    | _, _ => none
  | .min => match args with
    | [x, y] => match ev x, ev y with
      | .i k m, .i k' n => bif kindEq k k' then K (.i k (if n < m then n else m)) else none
      | _, _ => none
    | _ => none
  | .max => match args with
    | [x, y] => match ev x, ev y with
      | .i k m, .i k' n => bif kindEq k k' then K (.i k (if n > m then n else m)) else none
      | _, _ => none
    | _ => none
  | _ => none
def runO (P : Program) [Tys P] (ev : Operand → EV) (H : EHeap) (op : Op) (K : EV → Option ρ) : Option ρ := match op with
  | .move x => fE (ev x) K
  | .assign x => fE (ev x) K
  | .pick c a b => match ev c with
    | .b v => cond v (fE (ev a) K) (fE (ev b) K)
    | _ => none
  | .load t a => runLoad (P := P) H t (ev a) K
  | .fieldAddr t x f => runField (P := P) H t f (ev x) K
  | .indexAddr t x y => runIndex (P := P) H t (ev x) (ev y) K
  | .binOp o tx x y _ => runBin (P := P) o tx (ev x) (ev y) K
  | .unOp o _ x => match o, ev x with
    | .not, .b b => K (.b (!b))
    | .neg, .i k n => wrO k (0 - n) fun z => K (.i k z)
    | .xor, .i k n => K (.i k (bitOp .xor k (if k.signed then -1 else k.max) n))
    | _, _ => none
  | .convert src dst x => match (Tys.c P src).desc, (Tys.c P dst).desc, ev x with
    | some _, some (.int k'), .i _ n => K (.i k' (k'.wrap n))
    | _, _, _ => none
  | .extract x i => match x with
    | .tmp _ => match ev x with
      | .tup l => bif Nat.blt i l.length then fE (nthE l i) K else none
      | _ => none
    | _ => none
  | .nilCheck x => match ev x with
    | .fp τ y c => K (.fp τ y c)
    | .ptr id p r c => bif H.is id p then K (.ptr id p r c) else none
    | _ => none
  | .field t x f => match nth (Tys.c P t).fields f, x, ev x with
    | some (off, false, _), .tmp _, .agg l => bif Nat.blt off l.length then fE (nthE l off) K else none
    | some (off, false, _), _, .st i y => bif Codes.fro i then (bif Nat.blt off (SU.sz i) then fE (cellE 0 [] (.st i) y 0 off) K else none) else none
    | _, _, _ => none
  | .index t x y => match (Tys.c P t).desc, ev x, ev y with
    | some .string, .s x, .i _ m => ixO m x.size fun i => K (.i .u8 (strAt x i))
    | _, _, _ => none
  | .call c => match c.callee with
    | .builtin b => runBuiltin (P := P) ev H b c.args.toList c.argTypes.toList K
    | _ => none
  | _ => none
theorem runBuiltin_ok [T : Tys P] {s : ESt} {b : Builtin} {args : Array Operand} {ats : Array TypeId} {K : EV → Option ρ} {res : ρ} (h : runBuiltin (P := P) s.eval s.heap b args.toList ats.toList K = some res) :
    ∃ u, (∀ d ty, QV P ⟨d, .call { callee := .builtin b, args := args, argTypes := ats }, ty, none⟩ (toV s.heap.len u) (toSt s)) ∧ K u = some res := by
  unfold runBuiltin at h
  split at h
  · split at h
    · rename_i h1 h2
      rw [toList_eq h1, toList_eq h2]
      exact runLen_ok h
    · cases h
  · split at h
    · rename_i h1
      rw [toList_eq h1]
      split at h
      · rename_i hx hy
        have hx := eval_eq hx rfl
        have hy := eval_eq hy rfl
        simp only [toV] at hx hy
        obtain ⟨h2, g⟩ := bif_none h
        clear h
        have h := g
        clear g
        have := kindEq_eq h2
        subst this
        exact ⟨_, fun d ty => (by simp only [toV]; exact O.min' hx hy), h⟩
      · cases h
    · cases h
  · split at h
    · rename_i h1
      rw [toList_eq h1]
      split at h
      · rename_i hx hy
        have hx := eval_eq hx rfl
        have hy := eval_eq hy rfl
        simp only [toV] at hx hy
        obtain ⟨h2, g⟩ := bif_none h
        clear h
        have h := g
        clear g
        have := kindEq_eq h2
        subst this
        exact ⟨_, fun d ty => (by simp only [toV]; exact O.max' hx hy), h⟩
      · cases h
    · cases h
  · cases h
theorem runO_ok [T : Tys P] {s : ESt} {op : Op} {K : EV → Option ρ} {res : ρ} (h : runO P s.eval s.heap op K = some res) : ∃ u, (∀ d ty, QV P ⟨d, op, ty, none⟩ (toV s.heap.len u) (toSt s)) ∧ K u = some res := by
  unfold runO at h
  split at h
  · rw [fE_eq] at h; exact ⟨_, fun d ty => O.move.wk (s.eval_wk _), h⟩
  · rw [fE_eq] at h; exact ⟨_, fun d ty => O.assign.wk (s.eval_wk _), h⟩
  · split at h
    · rename_i v hc
      have hc := eval_eq hc rfl
      simp only [toV] at hc
      cases v with
      | true => simp only [cond_true] at h; rw [fE_eq] at h; exact ⟨_, fun d ty => (O.pick_true hc).wk (s.eval_wk _), h⟩
      | false => simp only [cond_false] at h; rw [fE_eq] at h; exact ⟨_, fun d ty => (O.pick_false hc).wk (s.eval_wk _), h⟩
    · cases h
  · exact runLoad_ok h
  · exact runField_ok h
  · exact runIndex_ok h
  · exact runBin_ok h
  · split at h
    · rename_i hx
      have hx := eval_eq hx rfl
      simp only [toV] at hx
      exact ⟨_, fun d ty => (by simp only [toV]; exact O.not hx), h⟩
    · rename_i hx
      have hx := eval_eq hx rfl
      simp only [toV] at hx
      exact ⟨_, fun d ty => (by simp only [toV]; exact O.neg hx rfl), wrO_out h⟩
    · rename_i hx
      have hx := eval_eq hx rfl
      simp only [toV] at hx
      exact ⟨_, fun d ty => (by simp only [toV]; exact O.compl hx), h⟩
    · cases h
  · split at h
    · rename_i hs hd hx
      have := (T.ok _).desc _ hs
      have := (T.ok _).desc _ hd
      have hx := eval_eq hx rfl
      simp only [toV] at hx
      exact ⟨_, fun d ty => (by simp only [toV]; exact O.convInt hx rfl), h⟩
    · cases h
  · split at h
    · split at h
      · rename_i l hx
        have hx := eval_eq hx rfl
        simp only [toV] at hx
        obtain ⟨h1, h⟩ := bif_none h
        rw [fE_eq] at h
        exact ⟨_, fun d ty => (O.extract hx h1).wk (by rw [nthE_eq]; exact Wk.refl _), h⟩
      · cases h
    · cases h
  · split at h
    · rename_i hx
      have hx := eval_eq hx rfl
      simp only [toV] at hx
      exact ⟨_, fun d ty => (by simp only [toV]; exact O.nilCheckF hx), h⟩
    · rename_i id p r c hx
      have hx := eval_eq hx rfl
      simp only [toV] at hx
      obtain ⟨h1, h⟩ := bif_none h
      obtain ⟨o, ho, hv⟩ := EHeap.is_out h1
      exact ⟨_, fun d ty => (by simp only [toV]; exact O.nilCheckP hx ho hv.symm), h⟩
    · cases h
  · split at h
    · rename_i off sz t l hf hx
      have := (T.ok _).fld _ _ _ _ hf
      have hx : (toSt s).eval (.tmp t) = toV s.heap.len (.agg l) := by rw [← hx]; rfl
      simp only [toV] at hx
      obtain ⟨h1, h⟩ := bif_none h
      rw [fE_eq] at h
      exact ⟨_, fun d ty => (O.field1 hx h1).wk (by rw [nthE_eq]; exact Wk.refl _), h⟩
    · rename_i off sz i y hf hx
      have := (T.ok _).fld _ _ _ _ hf
      have hx := eval_eq hx rfl
      simp only [toV] at hx
      obtain ⟨h1, h⟩ := bif_none h
      obtain ⟨h2, h⟩ := bif_none h
      rw [fE_eq] at h
      exact ⟨_, fun d ty => (O.field1 hx h2).wk (by rw [cellE_F (τ := .st i) h1 (Nat.le_of_ble_eq_true h2)]; exact Wk.refl _), h⟩
    · cases h
  · split at h
    · rename_i hd hx hy
      have := (T.ok _).desc _ hd
      have hx := eval_eq hx rfl
      have hy := eval_eq hy rfl
      simp only [toV] at hx hy
      obtain ⟨⟨p1, p2⟩, k⟩ := ixO_out h
      have hlt := (Int.toNat_lt p1).2 p2
      exact ⟨_, fun d ty => (by simp only [toV]; exact strAt_eq hlt ▸ O.indexStr hx hy p1 hlt), k⟩
    · cases h
  · rename_i c
    obtain ⟨callee, args, ats⟩ := c
    split at h
    · rename_i hc
      simp only at hc
      subst hc
      exact runBuiltin_ok h
    · cases h
  · cases h
end
end
end Go.Abs
