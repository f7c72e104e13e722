/-
Typed states: slices that are built and made; what leads to an object is forgotten; append.
No statement of the program is proved here.
-/
import Derived.Test.YtlcholjffgaemaaG5
set_option linter.unusedVariables false
set_option linter.unusedSimpArgs false
set_option linter.unusedSectionVars false
namespace Go.Abs
open Go
noncomputable section

variable {P : Program} {d : Option Tmp} {ty : TypeId} {L : List GOp} {ρ : Type}

section
variable [SU] [Codes] {Q : Exit → ESt → Prop}
/-! ### Rows of a slice, as data -/
def rowOf (τ : Ty) (u : EV) : Option τ.D := match τ, u with
  | .st i', .st i v => bif Codes.fro i then castN SU.D i i' v else none
  | .st i, .agg l => Codes.make i l
  | .st _, _ => none
  | τ, u => bif u.one then setC τ τ.z 0 u else none
theorem rowOf_ok {len : Len} {τ : Ty} {u : EV} {y : τ.D} (h : rowOf τ u = some y) : (toV len u).rowOk τ.sz = true ∧ ∀ j, j < τ.sz → ∃ u', cellC τ y j = .ev u' ∧ ∀ len', Wk ((toV len u).row j) (toV len' u') := by
  have flat : τ.isSt = false → (bif u.one then setC τ τ.z 0 u else none) = some y → (toV len u).rowOk τ.sz = true ∧ ∀ j, j < τ.sz → ∃ u', cellC τ y j = .ev u' ∧ ∀ len', Wk ((toV len u).row j) (toV len' u') := fun hs h => by
    have hz := sz1 hs
    obtain ⟨ho, h⟩ := bif_none h
    have h1 := EV.one_toV (len := len) ho
    refine ⟨?_, fun j hj => ?_⟩
    · rw [hz]
      cases hv : toV len u <;> rw [hv] at h1 <;> first | rfl | (cases h1; done) | (simp only [V.rowOk, h1]; rfl)
    · obtain ⟨_, ⟨u', e1, e2⟩, _⟩ := setC_ok τ τ.z 0 u y h
      obtain rfl : j = 0 := by omega
      refine ⟨u', e1, fun len' => ?_⟩
      have e : (toV len u).row 0 = toV len u := by
        cases hv : toV len u <;> rw [hv] at h1 <;> first | rfl | (cases h1; done)
      rw [e, ← EV.dat_len (cellC_dat _ _ _ _ e1) len len']; exact e2 len
  cases τ with
  | st i =>
    cases u <;> simp only [rowOf] at h <;> try (cases h; done)
    · rename_i i' v
      obtain ⟨hf, h⟩ := bif_none h
      obtain ⟨e, h⟩ := castN_ok _ _ _ _ _ h
      subst e
      obtain rfl := eq_of_heq h
      refine ⟨by simp only [toV, V.rowOk, Ty.sz, Nat.beq_refl], fun j hj => ?_⟩
      obtain ⟨u', e1, e2⟩ := Codes.cell_ok i' v j hf
      refine ⟨u', e1, fun len' => ?_⟩
      simp only [toV, V.row]
      exact Wk.of_eq (e2 hj _).symm
    · rename_i l
      obtain ⟨m1, m2⟩ := Codes.make_ok _ _ _ h
      refine ⟨by simp only [toV, V.rowOk, Ty.sz, m1, Nat.beq_refl], fun j hj => ?_⟩
      obtain ⟨u', e1, e2⟩ := m2 j hj
      refine ⟨u', e1, fun len' => ?_⟩
      simp only [toV, V.row]
      rw [← EV.dat_len (cellC_dat (.st i) y _ _ e1) len len']; exact e2 len
  | bool => exact flat rfl h
  | int k => exact flat rfl h
  | str => exact flat rfl h
  | sl e => exact flat rfl h
  | ol t e => exact flat rfl h
def rowsOf (τ : Ty) : List EV → Option (List τ.D)
  | [] => some []
  | u :: l => match rowOf τ u, rowsOf τ l with
    | some y, some m => some (y :: m)
    | _, _ => none
theorem rowsOf_ok {τ : Ty} : ∀ {l : List EV} {m : List τ.D}, rowsOf τ l = some m → m.length = l.length ∧ ∀ i, i < l.length → rowOf τ (l.getD i .un) = some (m.getD i τ.z)
  | [], m, h => by simp only [rowsOf] at h; injection h with h; subst h; exact ⟨rfl, fun i hi => absurd hi (Nat.not_lt_zero _)⟩
  | u :: l, m, h => by
    simp only [rowsOf] at h
    split at h
    · rename_i y k h1 h2
      injection h with h
      subst h
      obtain ⟨i1, i2⟩ := rowsOf_ok h2
      refine ⟨by simp [i1], fun i hi => ?_⟩
      cases i with
      | zero => simpa using h1
      | succ i => simpa using i2 i (by simpa using hi)
    · cases h

/-- buildSlice. -/
def okParts : List (Nat × Operand) → Nat → Nat → Bool
  | [], k, n => Nat.beq k n
  | (i, _) :: l, k, n => Nat.beq i k && okParts l (k + 1) n
theorem okParts_out : ∀ {l : List (Nat × Operand)} {k n : Nat}, okParts l k n = true → n = k + l.length ∧ l = ((l.map (·.2)).zipIdx k).map fun p => (p.2, p.1)
  | [], k, n, h => ⟨by have := natBeq h; simp; omega, rfl⟩
  | (i, x) :: l, k, n, h => by
    simp only [okParts, Bool.and_eq_true] at h
    obtain rfl := natBeq h.1
    obtain ⟨h1, h2⟩ := okParts_out h.2
    refine ⟨by simp; omega, ?_⟩
    simp only [List.map_cons, List.zipIdx_cons]
    congr 1
theorem okParts_eq {A : Array (Nat × Operand)} {n : Nat} (h : okParts A.toList 0 n = true) : n = (A.toList.map (·.2)).length ∧ A = partsOf (A.toList.map (·.2)) := by
  obtain ⟨h1, h2⟩ := okParts_out h
  refine ⟨by simpa using h1, ?_⟩
  unfold partsOf
  rw [← h2]
def forceO (s : ESt) : List Operand → (List EV → Option ρ) → Option ρ
  | [], K => K []
  | x :: l, K => fE (s.eval x) fun u => forceO s l fun m => K (u :: m)
theorem forceO_eq (s : ESt) : ∀ (l : List Operand) (K : List EV → Option ρ), forceO s l K = K (l.map s.eval)
  | [], K => rfl
  | x :: l, K => by simp only [forceO, fE_eq, List.map_cons]; exact forceO_eq s l _
/-- No operand is a struct, or a function, that the text of the program gives. -/
def noConst : List Operand → Bool
  | [] => true
  | .const (.agg _) :: _ => false
  | .func _ :: _ => false
  | _ :: l => noConst l
theorem noConst_cons {x : Operand} {l : List Operand} (h : noConst (x :: l) = true) : noConst l = true ∧ ∀ s : ESt, (toSt s).eval x = toV s.heap.len (s.eval x) := by
  cases x with
  | tmp t => exact ⟨h, fun s => rfl⟩
  | const v =>
    have hv : ∀ cs, v ≠ .agg cs := fun cs e => by subst e; cases h
    refine ⟨by cases v <;> first | exact h | exact absurd rfl (hv _), fun s => ?_⟩
    show V.ofValue v = toV _ (evOf v)
    rcases evOf_cases v with ⟨cs, rfl⟩ | e
    · exact absurd rfl (hv cs)
    · rw [e, evCell_eq]
      unfold V.ofValue
      split
      · rename_i cs; exact absurd rfl (hv cs)
      · rfl
  | global g => exact ⟨h, fun s => by simp only [St.eval, ESt.eval, toV]⟩
  | func f => cases h
theorem evals_eq {s : ESt} : ∀ {l : List Operand}, noConst l = true → l.map (toSt s).eval = (l.map s.eval).map (toV s.heap.len)
  | [], _ => rfl
  | x :: l, h => by
    obtain ⟨h1, h2⟩ := noConst_cons h
    simp only [List.map_cons, h2 s, evals_eq h1]
theorem slot_flatLst {len : Len} {k : Nat} {v : LV} : (OD.lst v).slot len k [] = .live (v.obj len k []) := by simp only [OD.slot, LV.at_nil]
def buildO (P : Program) [Tys P] [TyE P] (s : ESt) (t n : Nat) (A : Array (Nat × Operand)) (K : OD → Option ρ) : Option ρ := match (Tys.c P t).sl with
  | some (e, sz, _) => match TyE.c P e, (Tys.c P e).zero with
    | some τ, some z => bif Nat.beq τ.sz sz && Nat.beq z.cells.size sz && Nat.blt 0 sz && okParts A.toList 0 n && Nat.ble (n * sz) 16777216 && noConst (A.toList.map (·.2)) then
        forceO s (A.toList.map (·.2)) fun us => match rowsOf τ us with
          | some m => K (.lst ⟨e, τ, m⟩)
          | none => none else none
    | _, _ => none
  | none => none
theorem sfull_new {s : ESt} {v : LV} : toV (s.heap.add s.heap.next (.lst v)).len (.sfull s.heap.next []) = .sref ⟨s.heap.next, []⟩ 0 0 v.l.length := by
  have : (s.heap.add s.heap.next (.lst v)).at s.heap.next [] = some v := by
    simp only [EHeap.at, EHeap.add, Nat.beq_refl, cond_true, LV.at_nil]
  simp only [toV, EHeap.len_at this]
theorem buildO_ok [T : Tys P] [TE : TyE P] {s : ESt} {t n : Nat} {A : Array (Nat × Operand)} {K : ESt → Option ρ} {res : ρ} (hK : ∀ s', K s' = some res → SLT P L Q s')
    (h : buildO P s t n A (newO s d (fun id => .sfull id []) K) = some res) : SLT P (⟨d, .buildSlice t n A, ty, none⟩ :: L) Q s := by
  refine ⟨SL.fair fun hf => ?_⟩
  unfold buildO at h
  split at h
  · rename_i e sz by_ hsl
    have ht := (T.ok t).sl _ _ _ hsl
    split at h
    · rename_i τ z hτ hz
      have hzz := (T.ok e).zero _ hz
      have hh := bif_none h
      clear h
      obtain ⟨hb, h⟩ := hh
      simp only [Bool.and_eq_true] at hb
      obtain ⟨⟨⟨⟨⟨b1, b2⟩, b3⟩, b4⟩, b5⟩, b6⟩ := hb
      obtain rfl := natBeq b1
      rw [forceO_eq] at h
      split at h
      · rename_i m hm
        obtain ⟨r1, r2⟩ := rowsOf_ok hm
        obtain ⟨hn, hA⟩ := okParts_eq b4
        subst hn
        suffices h' : SL P (⟨d, .buildSlice t (A.toList.map (·.2)).length (partsOf (A.toList.map (·.2))), ty, none⟩ :: L) (liftQ Q) (toSt s) by rw [← hA] at h'; exact h'
        have hev := evals_eq (s := s) b6
        rw [newO_eq] at h
        simp only [List.length_map] at r1
        have hrow : ∀ i, i < (A.toList.map (·.2)).length → rowOf τ (((A.toList.map (·.2)).map s.eval).getD i .un) = some (m.getD i τ.z) := fun i hi => r2 i (by simpa using hi)
        refine SL.buildS (P := P) (t := t) (by_ := by_) (e := e) (z := z) (natBeq b2) hev (fun u hu => ?_) (Nat.le_of_ble_eq_true b3) (Nat.le_of_ble_eq_true b5)
          (SL.weak (weak_add (a := { elem := e, sz := τ.sz, ver := 0, n := (A.toList.map (·.2)).length, get := fun i j => ((((A.toList.map (·.2)).map s.eval).map (toV s.heap.len)).getD i .un).row j }) (o := .lst ⟨e, τ, m⟩) (u := .sfull s.heap.next []) hf (TE.fro e τ hτ) slot_flatLst rfl rfl rfl (show m.length = (A.toList.map (·.2)).length by rw [List.length_map]; exact r1) (fun i hi j hj => ?_) d (fun _ => ?_)) (hK _ h).out)
        · obtain ⟨x, hx, rfl⟩ := List.mem_map.1 hu
          obtain ⟨i, hi, rfl⟩ := List.getElem_of_mem hx
          have hi' : i < (A.toList.map (·.2)).length := by simpa using hi
          have := (rowOf_ok (len := s.heap.len) (hrow i hi')).1
          rwa [List.getD_eq_getElem?_getD, List.getElem?_eq_getElem hi] at this
        · have hi : i < (A.toList.map (·.2)).length := hi
          obtain ⟨u', e1, e2⟩ := (rowOf_ok (len := s.heap.len) (hrow i hi)).2 j hj
          show Wk _ (cellV _ _ _ i j (cellC τ (LV.row ⟨e, τ, m⟩ i) j))
          have e3 : cellC τ (LV.row ⟨e, τ, m⟩ i) j = .ev u' := e1
          rw [e3]
          have e4 : toV s.heap.len (((A.toList.map (·.2)).map s.eval).getD i .un) = ((((A.toList.map (·.2)).map s.eval).map (toV s.heap.len)).getD i .un) := by
            simp only [List.getD_eq_getElem?_getD, List.getElem?_map]
            cases A.toList[i]? <;> simp [toV]
          rw [e4] at e2
          exact e2 _
        · have e5 : m.length = (A.toList.map (·.2)).length := by simpa using r1
          rw [sfull_new]
          show Wk _ (V.sref _ 0 0 m.length)
          rw [e5]; exact Wk.refl _
      · cases h
    · cases h
  · cases h

/-- make. -/
def makeO (P : Program) [Tys P] [TyE P] (s : ESt) (t : Nat) (x y : Operand) (K : OD → Option ρ) : Option ρ := match (Tys.c P t).sl with
  | some (e, sz, by_) => match TyE.c P e, (Tys.c P e).zero with
    | some τ, some z => bif Nat.beq τ.sz sz && Nat.beq z.cells.size sz && Nat.blt 0 sz then (match s.eval x, s.eval y with
      | .i _ m, .i _ m' => grd (okB (m' = m ∧ 0 ≤ m ∧ m * (by_ : Int) ≤ 140737488355328 ∧ m ≤ 281474976710656)) (K (.lst ⟨e, τ, List.replicate m.toNat τ.z⟩))
      | _, _ => none) else none
    | _, _ => none
  | none => none
theorem makeO_ok [T : Tys P] [TE : TyE P] {s : ESt} {t : Nat} {x y : Operand} {K : ESt → Option ρ} {res : ρ} (hK : ∀ s', K s' = some res → SLT P L Q s')
    (h : makeO P s t x y (newO s d (fun id => .sfull id []) K) = some res) : SLT P (⟨d, .makeSlice t x y, ty, none⟩ :: L) Q s := by
  refine ⟨SL.fair fun hf => ?_⟩
  unfold makeO at h
  split at h
  · rename_i e sz by_ hsl
    have ht := (T.ok t).sl _ _ _ hsl
    split at h
    · rename_i τ z hτ hz
      have hzz := (T.ok e).zero _ hz
      have hh := bif_none h
      clear h
      obtain ⟨hb, h⟩ := hh
      simp only [Bool.and_eq_true] at hb
      obtain ⟨⟨b1, b2⟩, b3⟩ := hb
      obtain rfl := natBeq b1
      split at h
      · rename_i m _ m' hx hy
        have hx := eval_eq hx rfl
        have hy := eval_eq hy rfl
        simp only [toV] at hx hy
        obtain ⟨hp, h⟩ := grd_out h
        obtain ⟨rfl, p1, p2, p3⟩ := okB_out hp
        obtain ⟨n, hn⟩ := Int.eq_ofNat_of_zero_le p1
        subst hn
        rw [newO_eq] at h
        simp only [Int.toNat_natCast] at h
        obtain ⟨z1, z2⟩ := TE.zero e τ z hτ hz
        refine SL.makeS (P := P) (t := t) (by_ := by_) (e := e) (z := z) (natBeq b2) hx hy rfl (Nat.le_of_ble_eq_true b3) (Int.ofNat_le.1 (by rw [Int.natCast_mul]; exact p2)) (show n ≤ 281474976710656 by omega)
          (SL.weak (weak_add (a := { elem := e, sz := τ.sz, ver := 0, n := n, get := fun _ j => V.cell (z.cells.getD j undef) }) (o := .lst ⟨e, τ, List.replicate n τ.z⟩) (u := .sfull s.heap.next []) hf (TE.fro e τ hτ) slot_flatLst rfl rfl rfl (by simp [LV.obj]) (fun i hi j hj => ?_) d (fun _ => ?_)) (hK _ h).out)
        · have hi : i < n := hi
          have e1 : LV.row ⟨e, τ, List.replicate n τ.z⟩ i = τ.z := by simp [LV.row, List.getD_eq_getElem?_getD, hi]
          obtain ⟨u, e2, e3⟩ := z2 j hj
          show Wk _ (cellV _ _ _ i j (cellC τ (LV.row ⟨e, τ, List.replicate n τ.z⟩ i) j))
          rw [e1, e2]; exact e3 _
        · rw [sfull_new]; simp only [List.length_replicate]; exact Wk.refl _
      · cases h
    · cases h
  · cases h

/-! ### What leads to some objects is forgotten -/
mutual
def scrub (f : Nat → List Nat → Option EV) : EV → EV
  | .ptr k p r c => match f k p with
    | none => .ptr k p r c
    | some _ => .un
  | .sref k p r n => match f k p with
    | none => .sref k p r n
    | some _ => .un
  | .sfull k p => match f k p with
    | none => .sfull k p
    | some u => u
  | .mref k => match f k [] with
    | none => .mref k
    | some _ => .un
  | .agg l => .agg (scrubs f l)
  | .tup l => .tup (scrubs f l)
  | .fn g l => .fn g (scrubs f l)
  | .un => .un
  | .und => .und
  | .b x => .b x
  | .i k n => .i k n
  | .s x => .s x
  | .fz τ l => .fz τ l
  | .fp τ x c => .fp τ x c
  | .st i x => .st i x
  | .nils => .nils
  | .nilp => .nilp
  | .nilm => .nilm
  | .nilf => .nilf
  | .nili => .nili
def scrubs (f : Nat → List Nat → Option EV) : List EV → List EV
  | [] => []
  | a :: l => scrub f a :: scrubs f l
end
theorem scrubs_len (f : Nat → List Nat → Option EV) : ∀ l : List EV, (scrubs f l).length = l.length
  | [] => rfl
  | a :: l => by simp [scrubs, scrubs_len f l]
/-- What is needed to forget. -/
structure ScrubOk (f : Nat → List Nat → Option EV) (H : EHeap) (H1 : Heap) (H' : EHeap) (m : Id → Option Id) (Z : Id → Prop) : Prop where
  rep : ∀ id p u, f id p = some u → KG H1 (toH H') m Z (toV H.len (.sfull id p)) (toV H'.len u)
  old : ∀ id p, f id p = none → (toH H).slot ⟨id, p⟩ ≠ .unborn → H1.slot ⟨id, p⟩ = (toH H).slot ⟨id, p⟩
  slot : ∀ id p, f id p = none → (toH H).slot ⟨id, p⟩ ≠ .unborn → (toH H').slot ⟨id, p⟩ = .dead ∨ (SlotLike ((toH H).slot ⟨id, p⟩) ((toH H').slot ⟨id, p⟩) ∧ m ⟨id, p⟩ = some ⟨id, p⟩)
  len : ∀ id p, f id p = none → (toH H).slot ⟨id, p⟩ ≠ .unborn → H'.len id p = H.len id p
theorem ScrubOk.sref {f : Nat → List Nat → Option EV} {H : EHeap} {H1 : Heap} {H' : EHeap} {m : Id → Option Id} {Z : Id → Prop} (k : ScrubOk f H H1 H' m Z) {id : Nat} {p : List Nat} {r n : Nat} (hf : f id p = none) (hb : (toH H).slot ⟨id, p⟩ ≠ .unborn) :
    KG H1 (toH H') m Z (.sref ⟨id, p⟩ 0 r n) (.sref ⟨id, p⟩ 0 r n) := by
  rintro E ι F w v rr ⟨h0, h1⟩
  refine ⟨h0, ?_⟩
  rw [k.old id p hf hb] at h1
  rcases k.slot id p hf hb with hd | ⟨hl, hm⟩
  · rw [hd]; trivial
  · cases hs' : (toH H').slot ⟨id, p⟩ with
    | dead => trivial
    | mp s g => trivial
    | unborn => rw [hs'] at hl; cases hs : (toH H).slot ⟨id, p⟩ <;> rw [hs] at hl <;> exact hl.elim
    | live o' =>
      rw [hs'] at hl
      cases hs : (toH H).slot ⟨id, p⟩ with
      | live o =>
        rw [hs] at hl h1
        obtain ⟨a, b, c, d⟩ := hl
        show 0 ≤ o'.ver ∧ _
        rw [mι_some hm, a, b, c, d]; exact h1
      | unborn => rw [hs] at hl; exact hl.elim
      | dead => rw [hs] at hl; exact hl.elim
      | mp _ _ => rw [hs] at hl; exact hl.elim
theorem ScrubOk.ptr {f : Nat → List Nat → Option EV} {H : EHeap} {H1 : Heap} {H' : EHeap} {m : Id → Option Id} {Z : Id → Prop} (k : ScrubOk f H H1 H' m Z) {id : Nat} {p : List Nat} {r n : Nat} (hf : f id p = none) (hb : (toH H).slot ⟨id, p⟩ ≠ .unborn) :
    KG H1 (toH H') m Z (.ptr ⟨id, p⟩ 0 r n) (.ptr ⟨id, p⟩ 0 r n) := by
  rintro E ι F w v rr ⟨h0, h1⟩
  refine ⟨h0, ?_⟩
  rw [k.old id p hf hb] at h1
  rcases k.slot id p hf hb with hd | ⟨hl, hm⟩
  · rw [hd]; trivial
  · cases hs' : (toH H').slot ⟨id, p⟩ with
    | dead => trivial
    | mp s g => trivial
    | unborn => rw [hs'] at hl; cases hs : (toH H).slot ⟨id, p⟩ <;> rw [hs] at hl <;> exact hl.elim
    | live o' =>
      rw [hs'] at hl
      cases hs : (toH H).slot ⟨id, p⟩ with
      | live o =>
        rw [hs] at hl h1
        obtain ⟨a, b, c, d⟩ := hl
        show 0 ≤ o'.ver ∧ _
        rw [mι_some hm, a, c]; exact h1
      | unborn => rw [hs] at hl; exact hl.elim
      | dead => rw [hs] at hl; exact hl.elim
      | mp _ _ => rw [hs] at hl; exact hl.elim
theorem ScrubOk.mref {f : Nat → List Nat → Option EV} {H : EHeap} {H1 : Heap} {H' : EHeap} {m : Id → Option Id} {Z : Id → Prop} (k : ScrubOk f H H1 H' m Z) {id : Nat} (hf : f id [] = none) (hb : (toH H).slot ⟨id, []⟩ ≠ .unborn) :
    KG H1 (toH H') m Z (.mref ⟨id, []⟩) (.mref ⟨id, []⟩) := by
  rintro E ι F w v rr ⟨h0, h1⟩
  refine ⟨h0, ?_⟩
  rw [k.old id [] hf hb] at h1
  rcases k.slot id [] hf hb with hd | ⟨hl, hm⟩
  · rw [hd]; trivial
  · cases hs' : (toH H').slot ⟨id, []⟩ with
    | dead => trivial
    | live o' => trivial
    | unborn => rw [hs'] at hl; cases hs : (toH H).slot ⟨id, []⟩ <;> rw [hs] at hl <;> exact hl.elim
    | mp s g =>
      rw [hs'] at hl
      cases hs : (toH H).slot ⟨id, []⟩ with
      | mp _ _ => rw [hs] at h1; rw [mι_some hm]; exact h1
      | unborn => rw [hs] at hl; exact hl.elim
      | dead => rw [hs] at hl; exact hl.elim
      | live _ => rw [hs] at hl; exact hl.elim
mutual
theorem ScrubOk.keeps {f : Nat → List Nat → Option EV} {H : EHeap} {H1 : Heap} {H' : EHeap} {m : Id → Option Id} {Z : Id → Prop} (k : ScrubOk f H H1 H' m Z) : ∀ u : EV, Born (toH H) (toV H.len u) → KG H1 (toH H') m Z (toV H.len u) (toV H'.len (scrub f u))
  | .ptr id p r c, hb => by
    simp only [scrub]
    cases hf : f id p with
    | some u => simp only [toV]; exact KG.un
    | none => simp only [toV] at hb ⊢; exact k.ptr hf hb
  | .sref id p r n, hb => by
    simp only [scrub]
    cases hf : f id p with
    | some u => simp only [toV]; exact KG.un
    | none => simp only [toV] at hb ⊢; exact k.sref hf hb
  | .sfull id p, hb => by
    simp only [scrub]
    cases hf : f id p with
    | some u => exact k.rep id p u hf
    | none =>
      simp only [toV] at hb ⊢
      have hb' : (toH H).slot ⟨id, p⟩ ≠ .unborn := by cases hx : H.len id p <;> rw [hx] at hb <;> exact hb
      rw [k.len id p hf hb']
      cases H.len id p <;> exact k.sref hf hb'
  | .mref id, hb => by
    simp only [scrub]
    cases hf : f id [] with
    | some u => simp only [toV]; exact KG.un
    | none => simp only [toV] at hb ⊢; exact k.mref hf hb
  | .agg l, hb => by simp only [scrub, toV, scrubs_len] at hb ⊢; exact KG.agg fun j hj => ScrubOk.keepss k l j (hb j hj)
  | .tup l, hb => by simp only [scrub, toV, scrubs_len] at hb ⊢; exact KG.tup fun j hj => ScrubOk.keepss k l j (hb j hj)
  | .fn g l, hb => by simp only [scrub, toV, scrubs_len] at hb ⊢; exact KG.fn fun j hj => ScrubOk.keepss k l j (hb j hj)
  | .un, _ => by simp only [scrub, toV]; exact KG.un
  | .und, _ => by simp only [scrub, toV]; exact KG.und
  | .b _, _ => by simp only [scrub, toV]; exact KG.t _
  | .i _ _, _ => by simp only [scrub, toV]; exact KG.t _
  | .s _, _ => by simp only [scrub, toV]; exact KG.t _
  | .fz _ _, _ => by simp only [scrub, toV]; exact KG.t _
  | .fp _ _ _, _ => by simp only [scrub, toV]; exact KG.fp
  | .st _ _, _ => by simp only [scrub, toV]; exact KG.agg fun j _ => KG.t _
  | .nils, _ => by simp only [scrub, toV]; exact KG.nils
  | .nilp, _ => by simp only [scrub, toV]; exact KG.nilp
  | .nilm, _ => by simp only [scrub, toV]; exact KG.nilm
  | .nilf, _ => by simp only [scrub, toV]; exact KG.nilf
  | .nili, _ => by simp only [scrub, toV]; exact KG.t _
theorem ScrubOk.keepss {f : Nat → List Nat → Option EV} {H : EHeap} {H1 : Heap} {H' : EHeap} {m : Id → Option Id} {Z : Id → Prop} (k : ScrubOk f H H1 H' m Z) : ∀ (l : List EV) (j : Nat), Born (toH H) (toVs H.len l j) → KG H1 (toH H') m Z (toVs H.len l j) (toVs H'.len (scrubs f l) j)
  | [], j, _ => by simp only [scrubs, toVs]; exact KG.un
  | a :: l, 0, hb => by simp only [scrubs, toVs] at hb ⊢; exact ScrubOk.keeps k a hb
  | a :: l, j + 1, hb => by simp only [scrubs, toVs] at hb ⊢; exact ScrubOk.keepss k l j hb
end
end
end
end Go.Abs
