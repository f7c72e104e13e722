/-
Texts of the proof, part 5: J2 J3 J4 H7 J5 H8 H9 HA HB.
No statement of the program is proved here.
-/
import Derived.Test.YtlcholjffgaemaaM4
import Derived.Laws.NewFold

set_option linter.unusedVariables false
set_option linter.unusedSimpArgs false
set_option linter.unusedSectionVars false
namespace Go.Abs
open Go
noncomputable section
variable {P : Program} {d : Option Tmp} {ty : TypeId} {ρ : Type}
structure TyXE where
  nf : Option Nat := none
  eq : Option (List TypeDesc) := none
  mp : Option (Bool × TypeId × Ty) := none
  ar : Option (Nat × Nat) := none
def sameD : Option TypeDesc → TypeDesc → Bool
  | some (.int k), .int k' => kindEq k k'
  | some .bool, .bool => true
  | some .string, .string => true
  | _, _ => false
theorem sameD_eq {o : Option TypeDesc} {x : TypeDesc} (h : sameD o x = true) : o = some x := by
  unfold sameD at h
  split at h
  · rw [kindEq_eq h]
  · rfl
  · rfl
  · cases h
def eqFs (P : Program) : List Field → List TypeDesc → Nat → Bool
  | [], [], _ => true
  | f :: l, x :: m, k => !(f.name == "_") && (Nat.beq f.offset k && (sameD (P.underlying f.type) x && eqFs P l m (k + 1)))
  | _, _, _ => false
def eqTy (P : Program) (t : TypeId) (l : List TypeDesc) : Bool := match P.underlying t with
  | some (.struct fs) => !P.stoodInHeld t && (!P.eqGuardType P.depth t && eqFs P fs.toList l 0)
  | _ => false
structure TyXE.Ok (P : Program) [Tys P] (t : TypeId) (c : TyXE) : Prop where
  nf : ∀ n, c.nf = some n → ∃ fs, P.underlying t = some (.struct fs) ∧ fs.size = n ∧ (Tys.c P t).fields.length = n
  eq : ∀ l, c.eq = some l → eqTy P t l = true
  mp : ∀ s e τ, c.mp = some (s, e, τ) → MapT P t s e
  ar : ∀ n s, c.ar = some (n, s) → ∃ e, TyArr P t n e s
class TyX (P : Program) [Tys P] where
  x : TypeId → TyXE
  ok : ∀ t, TyXE.Ok P t (x t)
section
variable [SU] [Codes]
def EV.isStr : EV → Bool
  | .st _ _ => true
  | .agg _ => true
  | _ => false
def partE (u : EV) (K : List EV → Option ρ) : Option ρ := match u with
  | .st i x => bif Codes.fro i then K (cellsE 0 [] (.st i) x 0 0 (SU.sz i)) else none
  | .agg l => K l
  | .un => none
  | .und => none
  | .tup _ => none
  | u => K [u]
structure CellsOk (H : Heap) (ι : Id → Option Nat) (F : Nat → Prop) (w : World) (len : Len) (l : List EV) (cs : Array Value) : Prop where
  sz : cs.size = l.length
  get : ∀ j, j < l.length → ∃ c, cs[j]? = some c ∧ c.oneCell' = true ∧ VRel H ι F w (toVs len l j) c
theorem partE_ok {u : EV} {K : List EV → Option ρ} {res : ρ} (h : partE u K = some res) : ∃ l, K l = some res ∧ ∀ H ι F w len v, VRel H ι F w (toV len u) v → CellsOk H ι F w len l v.cells := by
  have one : ∀ u' : EV, (∀ len, (toV len u').one = true) → ∀ H ι F w len v, VRel H ι F w (toV len u') v → CellsOk H ι F w len [u'] v.cells := by
    intro u' ho H ι F w len v hv
    have hp := V.one_plain (ho len) hv
    have hc : v.cells = #[v] := by cases v <;> first | rfl | (simp [Value.oneCell'] at hp)
    refine ⟨by rw [hc]; rfl, fun j hj => ⟨v, ?_, hp, ?_⟩⟩
    · have : j = 0 := by simpa using hj
      subst this; rw [hc]; rfl
    · have : j = 0 := by simpa using hj
      subst this; exact hv
  unfold partE at h
  split at h
  · rename_i i x
    obtain ⟨hf, h⟩ := bif_none h
    refine ⟨_, h, fun H ι F w len v hv => ?_⟩
    obtain ⟨cs, rfl, h2, h3⟩ := hv
    refine ⟨by rw [cellsE_len]; exact h2, fun j hj => ?_⟩
    rw [cellsE_len] at hj
    obtain ⟨c, a, b, e⟩ := h3 j hj
    refine ⟨c, a, b, ?_⟩
    rw [cellsE_at len 0 [] (.st i) x 0 (SU.sz i) 0 j hj, Nat.zero_add, cellE_F (τ := .st i) hf hj]
    exact e
  · rename_i l
    refine ⟨_, h, fun H ι F w len v hv => ?_⟩
    obtain ⟨cs, rfl, h2, h3⟩ := hv
    exact ⟨h2, h3⟩
  · cases h
  · cases h
  · cases h
  · rename_i h1 h2 h3 h4 h5
    refine ⟨_, h, one u fun len => ?_⟩
    cases u <;> first | (simp only [toV, V.one]; done) | exact absurd rfl (h1 _ _) | exact absurd rfl (h2 _) | exact absurd rfl h3 | exact absurd rfl h4 | exact absurd rfl (h5 _) | (simp only [toV]; split <;> rfl)
def setE : List EV → Nat → List EV → List EV
  | l, _, [] => l
  | [], _, _ => []
  | _ :: l, 0, v :: m => v :: setE l 0 m
  | a :: l, n + 1, m => a :: setE l n m
theorem setE_len : ∀ (l : List EV) (c : Nat) (m : List EV), (setE l c m).length = l.length
  | [], c, m => by cases m <;> simp [setE]
  | _ :: _, c, [] => by simp [setE]
  | _ :: l, 0, _ :: m => by simp only [setE, List.length_cons, setE_len l 0 m]
  | _ :: l, c + 1, v :: m => by simp only [setE, List.length_cons, setE_len l c (v :: m)]
theorem setE_at (len : Len) : ∀ (l : List EV) (c : Nat) (m : List EV) (j : Nat), c + m.length ≤ l.length → toVs len (setE l c m) j = if c ≤ j ∧ j < c + m.length then toVs len m (j - c) else toVs len l j
  | l, c, [], j, h => by
    have : setE l c [] = l := by cases l <;> rfl
    rw [this, if_neg (by simp)]
  | [], c, v :: m, j, h => by simp at h
  | a :: l, 0, v :: m, 0, h => by simp [setE, toVs]
  | a :: l, 0, v :: m, j + 1, h => by
    simp only [setE, toVs, List.length_cons]
    rw [setE_at len l 0 m j (by simp only [List.length_cons] at h; omega)]
    by_cases hj : j < m.length
    · rw [if_pos (by omega), if_pos (by omega)]; simp only [Nat.sub_zero, toVs]
    · rw [if_neg (by omega), if_neg (by omega)]
  | a :: l, c + 1, v :: m, 0, h => by simp [setE, toVs]
  | a :: l, c + 1, v :: m, j + 1, h => by
    simp only [setE, toVs]
    rw [setE_at len l c (v :: m) j (by simp only [List.length_cons] at h ⊢; omega)]
    by_cases hj : c ≤ j ∧ j < c + (v :: m).length
    · rw [if_pos hj, if_pos (by omega), show j + 1 - (c + 1) = j - c by omega]
    · rw [if_neg hj, if_neg (by omega)]
def fillE (fs : List (Nat × Bool × Nat)) (ev : Operand → EV) : List (Nat × Operand) → List EV → (List EV → Option ρ) → Option ρ
  | [], c, K => K c
  | (i, x) :: r, c, K => match nth fs i with
    | some (off, _, s) => partE (ev x) fun l => bif Nat.beq l.length s && Nat.ble (off + s) c.length then fillE fs ev r (setE c off l) K else none
    | none => none
def buildStO (P : Program) [Tys P] [TyX P] (ev : Operand → EV) (t : TypeId) (A : List (Nat × Operand)) (K : EV → Option ρ) : Option ρ := match (TyX.x P t).nf, (Tys.c P t).zero with
  | some _, some z => fillE (Tys.c P t).fields ev A (z.cells.toList.map evCell) fun c => K (.agg c)
  | _, _ => none
theorem foldl_set : ∀ (l : List Value) (o : Nat) (cs : Array Value) (j0 : Nat), o + j0 + l.length ≤ cs.size → ((l.zipIdx j0).foldl (fun cs (p : Value × Nat) => cs.setIfInBounds (o + p.2) p.1) cs).size = cs.size ∧
    (∀ j, j < l.length → ((l.zipIdx j0).foldl (fun cs (p : Value × Nat) => cs.setIfInBounds (o + p.2) p.1) cs)[o + j0 + j]? = l[j]?) ∧
    (∀ x, x < o + j0 ∨ o + j0 + l.length ≤ x → ((l.zipIdx j0).foldl (fun cs (p : Value × Nat) => cs.setIfInBounds (o + p.2) p.1) cs)[x]? = cs[x]?) := by
  intro l
  induction l with
  | nil => intro o cs j0 _; exact ⟨rfl, fun j hj => absurd hj (Nat.not_lt_zero _), fun x _ => rfl⟩
  | cons a l ih =>
    intro o cs j0 hsz
    simp only [List.length_cons] at hsz
    simp only [List.zipIdx_cons, List.foldl_cons]
    obtain ⟨i1, i2, i3⟩ := ih o (cs.setIfInBounds (o + j0) a) (j0 + 1) (by simp; omega)
    refine ⟨by rw [i1]; simp, fun j hj => ?_, fun x hx => ?_⟩
    · cases j with
      | zero =>
        rw [i3 _ (by omega)]
        simp [Array.getElem?_setIfInBounds_self_of_lt (show o + j0 < cs.size by omega)]
      | succ j =>
        have := i2 j (by simpa using hj)
        rw [show o + j0 + (j + 1) = o + (j0 + 1) + j by omega, this]; simp
    · rw [i3 x (by simp only [List.length_cons] at hx; omega)]
      rw [Array.getElem?_setIfInBounds_ne (by simp only [List.length_cons] at hx; omega)]
theorem fillE_ok {fs : List (Nat × Bool × Nat)} {s : ESt} {place : Nat → Option (Nat × Nat)} (hpl : ∀ i off a n, nth fs i = some (off, a, n) → place i = some (off, n)) {res : ρ} : ∀ (A : List (Nat × Operand)) (c : List EV) (K : List EV → Option ρ), fillE fs s.eval A c K = some res →
    ∃ c', K c' = some res ∧ ∀ E ι F a w, Rel E ι F (toSt s) a w → ∀ cs, CellsOk (toH s.heap) ι F w s.heap.len c cs → ∃ cs', Instr.fill place cs (A.map fun p => (p.1, a.eval p.2)) = some cs' ∧ CellsOk (toH s.heap) ι F w s.heap.len c' cs'
  | [], c, K, h => ⟨c, h, fun E ι F a w r cs hc => ⟨cs, rfl, hc⟩⟩
  | (i, x) :: A, c, K, h => by
    simp only [fillE] at h
    cases hn : nth fs i with
    | none => rw [hn] at h; cases h
    | some q =>
      obtain ⟨off, ag, n⟩ := q
      rw [hn] at h
      obtain ⟨l, hl, hp⟩ := partE_ok h
      obtain ⟨hb, hl⟩ := bif_none hl
      simp only [Bool.and_eq_true] at hb
      obtain ⟨b1, b2⟩ := hb
      have b1 := Nat.eq_of_beq_eq_true b1
      have b2 := Nat.le_of_ble_eq_true b2
      obtain ⟨c', k1, k2⟩ := fillE_ok hpl A _ K hl
      refine ⟨c', k1, fun E ι F a w r cs hc => ?_⟩
      have hv : VRel (toH s.heap) ι F w (toV s.heap.len (s.eval x)) (a.eval x) := s.eval_wk x _ _ _ _ _ (r.eval x)
      have pc := hp _ _ _ _ _ _ hv
      have hcz := hc.sz
      have hsz : (a.eval x).cells.size = n := by rw [pc.sz, b1]
      have hz : (a.eval x).cells.zipIdx.foldl (fun cs (p : Value × Nat) => cs.setIfInBounds (off + p.2) p.1) cs = ((a.eval x).cells.toList.zipIdx 0).foldl (fun cs (p : Value × Nat) => cs.setIfInBounds (off + p.2) p.1) cs := by
        rw [← Array.foldl_toList, Array.toList_zipIdx]
      obtain ⟨g1, g2, g3⟩ := foldl_set (a.eval x).cells.toList off cs 0 (by simp [hsz]; omega)
      obtain ⟨cs', r1, r2⟩ := k2 E ι F a w r (((a.eval x).cells.toList.zipIdx 0).foldl (fun cs (p : Value × Nat) => cs.setIfInBounds (off + p.2) p.1) cs) ⟨by rw [g1, setE_len]; exact hcz, fun j hj => by
        rw [setE_len] at hj
        rw [setE_at _ _ _ _ _ (by omega)]
        by_cases hin : off ≤ j ∧ j < off + l.length
        · rw [if_pos hin]
          obtain ⟨v, q1, q2, q3⟩ := pc.get (j - off) (by omega)
          refine ⟨v, ?_, q2, q3⟩
          have := g2 (j - off) (by simp [hsz]; omega)
          rw [Nat.add_zero, show off + (j - off) = j by omega] at this
          rw [this, Array.getElem?_toList]; exact q1
        · rw [if_neg hin]
          obtain ⟨v, q1, q2, q3⟩ := hc.get j hj
          refine ⟨v, ?_, q2, q3⟩
          rw [g3 j (by simp [hsz]; omega)]; exact q1⟩
      refine ⟨cs', ?_, r2⟩
      simp only [List.map_cons, Instr.fill, hpl i off ag n hn]
      rw [if_neg (by simp [hsz]; omega), hz]
      exact r1
theorem places_run {w : World} : ∀ (fs : List Field) (l : List (Nat × Bool × Nat)), fs.length = l.length → (∀ i off a n, nth l i = some (off, a, n) → ∃ fl, fs[i]? = some fl ∧ fl.offset = off ∧ TySz P fl.type a n) →
    (fs.mapM fun f => do pure (f.offset, ← sizeOf f.type) : Sem (List (Nat × Nat))).run P w = .ok (l.map fun q => (q.1, q.2.2)) w
  | [], [], _, _ => by simp
  | f :: fs, (off, a, n) :: l, hl, h => by
    obtain ⟨fl, h1, h2, h3⟩ := h 0 off a n rfl
    simp only [List.getElem?_cons_zero, Option.some.injEq] at h1
    subst h1
    have ih := places_run (w := w) fs l (by simpa using hl) (fun i off a n hn => by
      obtain ⟨fl, q1, q2⟩ := h (i + 1) off a n hn
      exact ⟨fl, by simpa using q1, q2⟩)
    simp only [List.mapM_cons, Sem.run_bind, sizeOf_run (P := P) (t := f.type) w, Result.andThen_ok, Sem.run_pure, ih, h2, List.map_cons]
theorem nth_get {α : Type} : ∀ (l : List α) (i : Nat), nth l i = l[i]?
  | [], i => by simp [nth]
  | a :: l, 0 => rfl
  | a :: l, i + 1 => by simp only [nth, nth_get l i]; simp
theorem buildStO_ok [T : Tys P] [X : TyX P] {s : ESt} {t : TypeId} {A : Array (Nat × Operand)} {K : EV → Option ρ} {res : ρ} (h : buildStO P s.eval t A.toList K = some res) :
    ∃ u, (∀ d ty, QV P ⟨d, .build t A, ty, none⟩ (toV s.heap.len u) (toSt s)) ∧ K u = some res := by
  unfold buildStO at h
  split at h
  · rename_i n z hn hz
    obtain ⟨fs, hu, hsz, hlen⟩ := (X.ok t).nf n hn
    have hzero := (T.ok t).zero z hz
    have hfld : ∀ i off a m, nth (Tys.c P t).fields i = some (off, a, m) → ∃ fl, fs.toList[i]? = some fl ∧ fl.offset = off ∧ TySz P fl.type a m := fun i off a m hi => by
      obtain ⟨⟨fs', fl, q1, q2, q3, q4⟩, _⟩ := (T.ok t).fld i off a m hi
      rw [hu] at q1
      injection q1 with q1; injection q1 with q1; subst q1
      exact ⟨fl, by rw [Array.getElem?_toList]; exact q2, q3, q4⟩
    obtain ⟨c', k1, k2⟩ := fillE_ok (place := fun i => ((Tys.c P t).fields.map fun q => (q.1, q.2.2))[i]?) (fun i off a m hi => by rw [nth_get] at hi; simp [hi]) A.toList _ _ h
    refine ⟨_, fun d ty E ι F a w r => ?_, k1⟩
    obtain ⟨cs', r1, r2⟩ := k2 E ι F a w r z.cells ⟨by simp, fun j hj => by
      have hj : j < z.cells.size := by simpa using hj
      refine ⟨z.cells[j], Array.getElem?_eq_getElem hj, Array.all_eq_true_iff_forall_mem.1 hzero.c _ (Array.getElem_mem hj), ?_⟩
      rw [toVs_eq, List.getD_eq_getElem?_getD]
      simp only [List.getElem?_map, Array.getElem?_toList, Array.getElem?_eq_getElem hj, Option.map_some, Option.getD_some, evCell_eq]
      exact V.cell_rel _ _ _ _ _⟩
    have hp := places_run (P := P) (w := w) fs.toList (Tys.c P t).fields (by simp [hsz, hlen]) hfld
    have hp2 : (fs.mapM fun f => do pure (f.offset, ← sizeOf f.type) : Sem (Array (Nat × Nat))).run P w = .ok ((Tys.c P t).fields.map fun q => (q.1, q.2.2)).toArray w := by
      rw [Array.mapM_eq_mapM_toList]
      rw [Sem.run_map]
      exact (congrArg (fun r => Result.andThen r _) hp).trans rfl
    refine ⟨.agg cs', ?_, cs', rfl, r2.sz, r2.get⟩
    have hr1 : Instr.fill (fun i => ((Tys.c P t).fields.map fun q => (q.1, q.2.2)).toArray[i]?) z.cells ((A.map fun p => (p.1, a.eval p.2)).toList) = some cs' := by
      rw [← r1]; simp
    simp only [execOp, GOp.oper, Instr.build, Sem.run_bind, zero_run (P := P) (t := t) (v := z), Result.andThen_ok, run_underlying' hu, hp2]
    simp only [hr1, Sem.run_pure, Result.andThen_ok]
  · cases h
def eqE : TypeDesc → EV → EV → Option Bool
  | .int q, .i k m, .i k' n => bif kindEq k q && kindEq k' q then some (decide (m = n)) else none
  | .bool, .b a, .b b => some (a == b)
  | .string, .s a, .s b => some (a.toList == b.toList)
  | _, _, _ => none
def eqEs : List TypeDesc → List EV → List EV → (Bool → Option ρ) → Option ρ
  | [], [], [], K => K true
  | [x], [a], [b], K => match eqE x a b with
    | some r => K r
    | none => none
  | x :: q, a :: l, b :: m, K => match eqE x a b with
    | some r => eqEs q l m fun q => K (r && q)
    | none => none
  | _, _, _, _ => none
def eqStO (P : Program) [Tys P] [TyX P] (neg : Bool) (t : TypeId) (u v : EV) (K : EV → Option ρ) : Option ρ := match (TyX.x P t).eq with
  | some q => partE u fun l => partE v fun m => eqEs q l m fun r => K (.b (bif neg then !r else r))
  | none => none
def eqV : List TypeDesc → List EV → List EV → Option Bool
  | [], [], [] => some true
  | x :: q, a :: l, b :: m => match eqE x a b, eqV q l m with
    | some r, some q => some (r && q)
    | _, _ => none
  | _, _, _ => none
theorem eqEs_ok : ∀ (q : List TypeDesc) (l m : List EV) (K : Bool → Option ρ) (res : ρ), eqEs q l m K = some res → ∃ r, eqV q l m = some r ∧ K r = some res := by
  intro q
  induction q with
  | nil =>
    intro l m K res h
    cases l <;> cases m <;> first | exact ⟨true, rfl, h⟩ | cases h
  | cons x q ih =>
    intro l m K res h
    cases l with
    | nil => cases q <;> cases m <;> cases h
    | cons a l =>
      cases m with
      | nil => cases q <;> cases l <;> cases h
      | cons b m =>
        cases he : eqE x a b with
        | none => cases q <;> cases l <;> cases m <;> simp only [eqEs, he] at h <;> cases h
        | some r =>
          have gen : eqEs q l m (fun q => K (r && q)) = some res → ∃ r, eqV (x :: q) (a :: l) (b :: m) = some r ∧ K r = some res := fun h => by
            obtain ⟨q', h1, h2⟩ := ih l m _ res h
            exact ⟨r && q', by simp only [eqV, he, h1], h2⟩
          cases q <;> cases l <;> cases m <;> simp only [eqEs, he] at h <;> first | exact gen h | (cases h; done) | exact ⟨r, by simp [eqV, he], h⟩
theorem part_run {t : TypeId} {x : TypeDesc} (h : sameD (P.underlying t) x = true) {cs : Array Value} {k : Nat} {c : Value} (hc : cs[k]? = some c) (w : World) : (part t cs k).run P w = .ok c w := by
  have hu := sameD_eq h
  have : (isAgg t).run P w = .ok false w := by
    unfold isAgg
    rw [Sem.run_bind, run_underlying' hu]
    rw [hu] at h
    cases x <;> first | (cases h; done) | rfl
  simp only [part, Sem.run_bind, this, Result.andThen_ok, hc]
  rfl
theorem eqCell_run {t : TypeId} {td : TypeDesc} (h : sameD (P.underlying t) td = true) {dp : Nat} {H : Heap} {ι : Id → Option Nat} {F : Nat → Prop} {w : World} {len : Len} {a b : EV} {r : Bool} (he : eqE td a b = some r) {x y : Value} (hx : VRel H ι F w (toV len a) x) (hy : VRel H ι F w (toV len b) y) :
    (Op.equalIn (dp + 1) t x y).run P w = .ok r w := by
  have hu := sameD_eq h
  unfold eqE at he
  split at he
  · rename_i q k m k' n
    have hh := bif_none he
    clear he
    obtain ⟨hb, he⟩ := hh
    simp only [Bool.and_eq_true] at hb
    have h1 := kindEq_eq hb.1
    have h2 := kindEq_eq hb.2
    subst h1; subst h2
    injection he with he
    have hx : x = .int k' m := hx
    have hy : y = .int k' n := hy
    subst hx; subst hy
    rw [run_equalIn_int w dp t k' k' m n hu, ← he]
    rw [Bool.beq_eq_decide_eq]
  · injection he with he
    have hx : x = .bool _ := hx
    have hy : y = .bool _ := hy
    subst hx; subst hy
    rw [run_equalIn_bool' w dp t _ _ hu, ← he]
  · injection he with he
    have hx := hx.1
    have hy := hy.1
    subst hx; subst hy
    rw [run_equalIn_string w dp t _ _ hu, ← he]
  · cases he
theorem eqFields_run {dp : Nat} {H : Heap} {ι : Id → Option Nat} {F : Nat → Prop} {w : World} {len : Len} {xs ys : Array Value} : ∀ (fs : List Field) (q : List TypeDesc) (l m : List EV) (k : Nat) (r : Bool), eqFs P fs q k = true → eqV q l m = some r →
    (∀ j, j < l.length → ∃ c, xs[k + j]? = some c ∧ VRel H ι F w (toVs len l j) c) → (∀ j, j < m.length → ∃ c, ys[k + j]? = some c ∧ VRel H ι F w (toVs len m j) c) →
    (Op.eqFields (dp + 1) xs ys fs).run P w = .ok r w
  | [], [], l, m, k, r, h, he, hx, hy => by
    cases l <;> cases m <;> simp only [eqV] at he <;> first | (cases he; done) | (injection he with he; subst he; simp [Op.eqFields])
  | [], _ :: _, l, m, k, r, h, he, hx, hy => by cases h
  | _ :: _, [], l, m, k, r, h, he, hx, hy => by cases h
  | f :: fs, x :: q, l, m, k, r, h, he, hx, hy => by
    cases l with
    | nil => cases m <;> cases he
    | cons a l =>
      cases m with
      | nil => cases he
      | cons b m =>
        simp only [eqFs, Bool.and_eq_true, Bool.not_eq_true'] at h
        obtain ⟨h1, h2, h3, h4⟩ := h
        have h2 := Nat.eq_of_beq_eq_true h2
        simp only [eqV] at he
        cases e1 : eqE x a b with
        | none => rw [e1] at he; cases he
        | some r1 =>
          cases e2 : eqV q l m with
          | none => rw [e1, e2] at he; cases he
          | some r2 =>
            rw [e1, e2] at he
            injection he with he
            obtain ⟨c, c1, c2⟩ := hx 0 (by simp)
            obtain ⟨c', c1', c2'⟩ := hy 0 (by simp)
            have ih := eqFields_run fs q l m (k + 1) r2 h4 e2 (fun j hj => by
                obtain ⟨c, a1, a2⟩ := hx (j + 1) (by simpa using hj)
                exact ⟨c, by rw [show k + 1 + j = k + (j + 1) by omega]; exact a1, by simpa only [toVs] using a2⟩) (fun j hj => by
                obtain ⟨c, a1, a2⟩ := hy (j + 1) (by simpa using hj)
                exact ⟨c, by rw [show k + 1 + j = k + (j + 1) by omega]; exact a1, by simpa only [toVs] using a2⟩) (dp := dp)
            have hn : f.name ≠ "_" := by simpa using h1
            have p1 := part_run (P := P) h3 (cs := xs) (k := f.offset) (c := c) (by rw [h2]; exact c1) w
            have p2 := part_run (P := P) h3 (cs := ys) (k := f.offset) (c := c') (by rw [h2]; exact c1') w
            have p3 := eqCell_run (P := P) h3 (dp := dp) e1 (by simpa only [toVs] using c2) (by simpa only [toVs] using c2')
            simp only [Op.eqFields, if_pos hn, Sem.run_bind, p1, p2, p3, Result.andThen_ok]
            subst he
            cases r1
            · simp
            · simpa using ih
theorem eqStO_ok [T : Tys P] [X : TyX P] {s : ESt} {neg : Bool} {o : BinOp} (ho : o = if neg = true then .neq else .eql) {t tY : TypeId} {x y : Operand} {K : EV → Option ρ} {res : ρ} (hx : (s.eval x).isStr = true) (hy : (s.eval y).isStr = true) (h : eqStO P neg t (s.eval x) (s.eval y) K = some res) :
    ∃ u, (∀ d ty, QV P ⟨d, .binOp o t x y tY, ty, none⟩ (toV s.heap.len u) (toSt s)) ∧ K u = some res := by
  unfold eqStO at h
  split at h
  · rename_i q hq
    have hk := (X.ok t).eq q hq
    obtain ⟨l, h, hl⟩ := partE_ok h
    obtain ⟨m, h, hm⟩ := partE_ok h
    obtain ⟨r, hr, h⟩ := eqEs_ok _ _ _ _ _ h
    refine ⟨_, fun d ty E ι F a w rr => ?_, h⟩
    have hvx : VRel (toH s.heap) ι F w (toV s.heap.len (s.eval x)) (a.eval x) := s.eval_wk x _ _ _ _ _ (rr.eval x)
    have hvy : VRel (toH s.heap) ι F w (toV s.heap.len (s.eval y)) (a.eval y) := s.eval_wk y _ _ _ _ _ (rr.eval y)
    have cx := hl _ _ _ _ _ _ hvx
    have cy := hm _ _ _ _ _ _ hvy
    have agg : ∀ (u : EV) (v : Value), u.isStr = true → VRel (toH s.heap) ι F w (toV s.heap.len u) v → ∃ cs, v = .agg cs := fun u v hu hv => by
      cases u <;> first | (cases hu; done) | (obtain ⟨cs, e, _⟩ := hv; exact ⟨cs, e⟩)
    obtain ⟨xs, ex⟩ := agg _ _ hx hvx
    obtain ⟨ys, ey⟩ := agg _ _ hy hvy
    rw [ex] at cx; rw [ey] at cy
    unfold eqTy at hk
    split at hk
    · rename_i fs hu
      simp only [Bool.and_eq_true, Bool.not_eq_true'] at hk
      obtain ⟨k1, k2, k3⟩ := hk
      have hf : P.fieldsOf t = fs := by simp [Program.fieldsOf, hu]
      have he : (Op.equalIn 10000 t (.agg xs) (.agg ys)).run P w = .ok r w := by
        rw [run_equalIn_struct (P := P) w 9999 t xs ys (by rw [hf]; exact hu) k1, hf]
        exact eqFields_run (dp := 9998) fs.toList q l m 0 r k3 hr (fun j hj => by obtain ⟨c, a1, a2, a3⟩ := cx.get j hj; exact ⟨c, by rw [Nat.zero_add]; exact a1, a3⟩) (fun j hj => by obtain ⟨c, a1, a2, a3⟩ := cy.get j hj; exact ⟨c, by rw [Nat.zero_add]; exact a1, a3⟩)
      have hg := fun o => run_eqGuard_agg (P := P) w o t x y xs ys k2
      cases neg with
      | false =>
        subst ho
        refine ⟨.bool r, ?_, rfl⟩
        simp only [execOp, GOp.oper, ex, ey, Sem.run_bind, hg, Result.andThen_ok, Bool.false_eq_true, if_false, run_eql_struct, he, Sem.run_pure]
      | true =>
        subst ho
        refine ⟨.bool (!r), ?_, rfl⟩
        simp only [execOp, GOp.oper, ex, ey, Sem.run_bind, hg, Result.andThen_ok, if_true, run_neq_struct, he, Sem.run_pure]
    · cases hk
  · cases h
def highI (len : Nat) : Option (IntKind × Int) → Int
  | some p => p.2
  | none => len
theorem bounds_run {b : Bool} {len cap : Nat} {lo hi : Option (IntKind × Int)} {w : World} (hh : ∀ p, hi = some p → 0 ≤ p.2 ∧ p.2 ≤ cap) (hl : ∀ p, lo = some p → 0 ≤ p.2 ∧ p.2 ≤ highI len hi) :
    (Instr.sliceBounds b len cap (lo.map fun p => .int p.1 p.2) (hi.map fun p => .int p.1 p.2) none).run P w = .ok ((match lo with | some p => p.2.toNat | none => 0), (match hi with | some p => p.2.toNat | none => len), cap) w := by
  cases lo with
  | none =>
    cases hi with
    | none => simp [Instr.sliceBounds]
    | some q =>
      obtain ⟨h1, h2⟩ := hh q rfl
      simp [Instr.sliceBounds, run_sliceBound, h1, h2]
  | some p =>
    cases hi with
    | none =>
      obtain ⟨h1, h2⟩ := hl p rfl
      have h2 : p.2 ≤ (len : Int) := h2
      simp [Instr.sliceBounds, run_sliceBound, h1, h2]
    | some q =>
      obtain ⟨h1, h2⟩ := hh q rfl
      obtain ⟨h3, h4⟩ := hl p rfl
      have h4 : p.2 ≤ q.2 := h4
      have h4 : p.2 ≤ ((q.2.toNat : Nat) : Int) := by omega
      simp [Instr.sliceBounds, run_sliceBound w q.1 q.2 cap _ h1 h2, run_sliceBound w p.1 p.2 q.2.toNat _ h3 h4]
def lowN : Option (IntKind × Int) → Nat
  | some p => p.2.toNat
  | none => 0
def highN (len : Nat) : Option (IntKind × Int) → Nat
  | some p => p.2.toNat
  | none => len
def BndOk (len : Nat) (lo hi : Option (IntKind × Int)) : Prop := (∀ p, hi = some p → 0 ≤ p.2 ∧ p.2 ≤ len) ∧ ∀ p, lo = some p → 0 ≤ p.2 ∧ p.2 ≤ highI len hi
theorem sliceAt_run {t e : TypeId} {sz by_ : Nat} [ht : TySlice P t e sz by_] {A : Option Addr} {len cap : Nat} (hlc : len ≤ cap) {lo hi : Option (IntKind × Int)} (hb : BndOk len lo hi) (w : World) :
    (Instr.sliceAt t (.slice A len cap) (lo.map fun p => .int p.1 p.2) (hi.map fun p => .int p.1 p.2) none).run P w = .ok (sliced A (lowN lo) (highN len hi) cap sz) w := by
  have he : P.elem t = e := by simp [Program.elem, ht.d]
  have hu : P.underlying t = some (.slice (P.elem t)) := by rw [he]; exact ht.d
  have hs : (sizeOf e).run P w = .ok sz w := by
    have hs := ht.s
    cases hq : P.info? e with
    | none => simp [hq] at hs
    | some i => simp [hq] at hs; simp [sizeOf, typeInfo, hq, hs.1]
  rw [run_sliceAt_slice w t _ _ _ _ hu, run_slice_any w t A len cap hu, bounds_run (fun p hp => by have := hb.1 p hp; omega) hb.2]
  simp only [Result.andThen_ok, he, hs]
  cases lo <;> cases hi <;> rfl
theorem bnd_le {len : Nat} {lo hi : Option (IntKind × Int)} (hb : BndOk len lo hi) : lowN lo ≤ highN len hi ∧ highN len hi ≤ len := by
  obtain ⟨h1, h2⟩ := hb
  cases lo with
  | none => cases hi with
    | none => simp [lowN, highN]
    | some q => have := h1 q rfl; simp [lowN, highN]; omega
  | some p => cases hi with
    | none => have := h2 p rfl; simp only [highI] at this; simp [lowN, highN]; omega
    | some q => have := h1 q rfl; have := h2 p rfl; simp only [highI] at this; simp [lowN, highN]; omega
theorem add_addr {b o n : Nat} : (⟨b, o, none⟩ : Addr).add n = ⟨b, o + n, none⟩ := by
  unfold Addr.add
  split
  · rename_i h; simp [h]
  · rfl
theorem reads_sliced {F : Nat → Prop} {w : World} {sz len cap L H : Nat} {get : Nat → Nat → T} {A : Option Addr} (h : Reads F w (.sl sz len get) (.slice A len cap)) (hLH : L ≤ H) (hH : H ≤ len) :
    Reads F w (.sl sz (H - L) (fun i j => get (i + L) j)) (sliced A L H cap sz) := by
  obtain ⟨A', cap', e, h1, h2, h3⟩ := h
  injection e with e1 e2 e3
  subst e1; subst e3
  refine ⟨_, _, rfl, by omega, by omega, fun hn => ?_⟩
  obtain ⟨b, o, hA, hF, hc⟩ := h3 (by omega)
  subst hA
  refine ⟨b, o + L * sz, by rw [if_neg (by omega)]; simp [add_addr], hF, fun i hi j hj => ?_⟩
  obtain ⟨c, hc1, hc2⟩ := hc (i + L) (by omega) j hj
  refine ⟨c, ?_, hc2⟩
  rw [← hc1]
  congr 1
  rw [Nat.add_mul]
  simp only [Addr.mk.injEq, true_and, and_true]
  omega
theorem sref_sliced {H0 : Heap} {ι : Id → Option Nat} {F : Nat → Prop} {w : World} {id : Id} {o : AObj} {r len cap L H : Nat} {A : Option Addr} (ho : H0.slot id = .live o) (hv : o.ver = 0) (h : VRel H0 ι F w (.sref id 0 r len) (.slice A len cap)) (hLH : L ≤ H) (hH : H ≤ len) :
    VRel H0 ι F w (.sref id 0 (r + L) (H - L)) (sliced A L H cap o.sz) := by
  obtain ⟨_, h⟩ := h
  rw [ho] at h
  obtain ⟨h1, h2⟩ := h
  obtain ⟨h3, A', cap', e, h4, h5⟩ := h2 hv.symm
  injection e with e1 e2 e3
  subst e1; subst e3
  refine ⟨rfl, ?_⟩
  rw [ho]
  refine ⟨h1, fun _ => ⟨by omega, _, _, rfl, by omega, fun hc => ?_⟩⟩
  have hlt : L < cap := Nat.lt_of_sub_pos hc
  obtain ⟨b, cur, g1, g2, g3, g4⟩ := h5 (Nat.lt_of_le_of_lt (Nat.zero_le _) hlt)
  clear h5 hc
  subst g2
  refine ⟨b, cur, g1, ?_, g3, ?_⟩
  · rw [if_neg (by omega)]
    simp only [Option.map_some, add_addr, Nat.add_mul]
  · rw [Nat.sub_mul, Nat.add_mul]
    have h9 : L * o.sz ≤ cap * o.sz := Nat.mul_le_mul_right _ (Nat.le_trans (Nat.le_trans hLH hH) h4)
    revert g4 h9
    generalize r * o.sz = a
    generalize L * o.sz = b'
    generalize cap * o.sz = c
    generalize cur.size = n
    intro g4 h9
    omega
def bndE (ev : Operand → EV) (x : Option Operand) (K : Option (IntKind × Int) → Option ρ) : Option ρ := match x with
  | none => K none
  | some x => match ev x with
    | .i k n => K (some (k, n))
    | _ => none
theorem bndE_ok {s : ESt} {x : Option Operand} {K : Option (IntKind × Int) → Option ρ} {res : ρ} (h : bndE s.eval x K = some res) : ∃ q, K q = some res ∧ ∀ E ι F a w, Rel E ι F (toSt s) a w → x.map a.eval = q.map fun p => .int p.1 p.2 := by
  unfold bndE at h
  split at h
  · exact ⟨none, h, fun _ _ _ _ _ _ => rfl⟩
  · rename_i x
    split at h
    · rename_i k n hx
      have hx := eval_eq hx rfl
      exact ⟨some (k, n), h, fun E ι F a w r => by simp only [Option.map_some]; rw [int_eval r hx]⟩
    · cases h
def takeDrop {α : Type} (l : List α) : Option (IntKind × Int) → Option (IntKind × Int) → List α
  | none, none => l
  | some p, none => l.drop p.2.toNat
  | none, some q => l.take q.2.toNat
  | some p, some q => (l.take q.2.toNat).drop p.2.toNat
def bndG (n : Nat) : Option (IntKind × Int) → Option (IntKind × Int) → Bool
  | none, none => true
  | some p, none => okB (0 ≤ p.2 ∧ p.2 ≤ n)
  | none, some q => okB (0 ≤ q.2 ∧ q.2 ≤ n)
  | some p, some q => okB (0 ≤ p.2 ∧ p.2 ≤ q.2 ∧ q.2 ≤ n)
theorem bndG_ok {n : Nat} {lo hi : Option (IntKind × Int)} (h : bndG n lo hi = true) : BndOk n lo hi := by
  cases lo with
  | none => cases hi with
    | none => exact ⟨fun p hp => (by cases hp), fun p hp => by cases hp⟩
    | some q => exact ⟨fun p hp => (by cases hp; exact okB_out h), fun p hp => by cases hp⟩
  | some p => cases hi with
    | none => exact ⟨fun p hp => (by cases hp), fun p hp => by cases hp; exact okB_out h⟩
    | some q =>
      obtain ⟨h1, h2, h3⟩ := okB_out h
      exact ⟨fun p hp => (by cases hp; exact ⟨by omega, h3⟩), fun p hp => by cases hp; exact ⟨h1, h2⟩⟩
theorem takeDrop_len {α : Type} {l : List α} {lo hi : Option (IntKind × Int)} (h : BndOk l.length lo hi) : (takeDrop l lo hi).length = highN l.length hi - lowN lo := by
  have := bnd_le h
  cases lo <;> cases hi <;> simp [takeDrop, highN, lowN] at this ⊢ <;> omega
theorem takeDrop_get {α : Type} {l : List α} {lo hi : Option (IntKind × Int)} (z : α) {i : Nat} (hi' : i < highN l.length hi - lowN lo) : (takeDrop l lo hi).getD i z = l.getD (i + lowN lo) z := by
  cases lo <;> cases hi <;> simp only [takeDrop, highN, lowN, Nat.add_zero] at hi' ⊢ <;> simp only [List.getD_eq_getElem?_getD, List.getElem?_drop, List.getElem?_take]
  · rw [if_pos (by omega)]
  · rw [Nat.add_comm]
  · rw [if_pos (by omega), Nat.add_comm]
def sliceO (P : Program) [Tys P] (ev : Operand → EV) (H : EHeap) (t : TypeId) (x : Operand) (lo hi mx : Option Operand) (K : EV → Option ρ) : Option ρ := match mx with
  | some _ => none
  | none => bndE ev lo fun l => bndE ev hi fun h => match ev x with
    | .fz τ d => match (Tys.c P t).sl with
      | some (_, sz, _) => bif Nat.beq τ.sz sz then grd (bndG d.length l h) (K (.fz τ (takeDrop d l h))) else none
      | none => none
    | .sfull id p => match H.at id p with
      | some v => match (Tys.c P t).sl with
        | some (_, sz, _) => bif Nat.beq v.τ.sz sz then grd (bndG v.l.length l h) (K (.sref id p (lowN l) (highN v.l.length h - lowN l))) else none
        | none => none
      | none => none
    | .sref id p r n => match H.at id p with
      | some v => match (Tys.c P t).sl with
        | some (_, sz, _) => bif Nat.beq v.τ.sz sz then grd (bndG n l h) (K (.sref id p (r + lowN l) (highN n h - lowN l))) else none
        | none => none
      | none => none
    | .s b => match (Tys.c P t).desc with
      | some .string => grd (bndG b.size l h) (K (.s (b.extract (lowN l) (highN b.size h))))
      | _ => none
    | _ => none
theorem sliceO_ok [T : Tys P] {s : ESt} {t : TypeId} {x : Operand} {lo hi mx : Option Operand} {K : EV → Option ρ} {res : ρ} (h : sliceO P s.eval s.heap t x lo hi mx K = some res) :
    ∃ u, (∀ d ty, QV P ⟨d, .slice t x lo hi mx, ty, none⟩ (toV s.heap.len u) (toSt s)) ∧ K u = some res := by
  unfold sliceO at h
  split at h
  · cases h
  · obtain ⟨l, h, hl⟩ := bndE_ok h
    obtain ⟨hh, h, hhi⟩ := bndE_ok h
    have run : ∀ {E ι F a w}, Rel E ι F (toSt s) a w → ∀ v v', (a.eval x = v) → (Instr.sliceAt t v (l.map fun p => .int p.1 p.2) (hh.map fun p => .int p.1 p.2) none).run P w = .ok v' w → ∀ d ty, (execOp a.eval (GOp.oper ⟨d, .slice t x lo hi none, ty, none⟩)).run P w = .ok (.value v') w := by
      intro E ι F a w r v v' hv hrun d ty
      simp only [execOp, GOp.oper, hl E ι F a w r, hhi E ι F a w r, hv, Sem.run_bind, Option.map_none, hrun, Result.andThen_ok, Sem.run_pure]
    split at h
    · rename_i τ dd hx
      have hx := eval_eq hx rfl
      split at h
      · rename_i e sz by_ hsl
        have ht := (T.ok t).sl _ _ _ hsl
        obtain ⟨hb, h⟩ := bif_none h
        have hb := Nat.eq_of_beq_eq_true hb
        obtain ⟨hg, h⟩ := grd_out h
        have hbn := bndG_ok hg
        have hle := bnd_le hbn
        refine ⟨_, fun d ty E ι F a w r => ?_, h⟩
        have hr := r.eval x
        rw [hx] at hr
        simp only [toV, encL] at hr
        obtain ⟨A, cap, e1, e2, e3, e4⟩ := id hr
        rw [e1] at hr
        refine ⟨_, run r _ _ e1 (sliceAt_run e2 hbn w) d ty, ?_⟩
        have h5 := reads_sliced hr hle.1 hle.2
        rw [← hb]
        simp only [toV, encL]
        rw [takeDrop_len hbn]
        obtain ⟨A2, cap2, q1, q2, q3, q4⟩ := h5
        refine ⟨A2, cap2, q1, q2, q3, fun hn => ?_⟩
        obtain ⟨b, o, w1, w2, w3⟩ := q4 hn
        refine ⟨b, o, w1, w2, fun i hi j hj => ?_⟩
        show ∃ c, _ ∧ Reads F w (encC τ ((takeDrop dd l hh).getD i τ.z) j) c
        rw [takeDrop_get _ hi]
        exact w3 i hi j hj
      · cases h
    · rename_i id p hx
      split at h
      · rename_i v hv
        split at h
        · rename_i e sz by_ hsl
          have ht := (T.ok t).sl _ _ _ hsl
          obtain ⟨hb, h⟩ := bif_none h
          have hb := Nat.eq_of_beq_eq_true hb
          obtain ⟨hg, h⟩ := grd_out h
          have hbn := bndG_ok hg
          have hle := bnd_le hbn
          have hx := eval_eq hx rfl
          have hlen := EHeap.len_at hv
          have hs := slot_lst hv
          refine ⟨_, fun d ty E ι F a w r => ?_, h⟩
          have hr := r.eval x
          rw [hx] at hr
          simp only [toV, hlen] at hr
          have hr0 := hr
          obtain ⟨_, hr0⟩ := hr0
          have hs' : (toSt s).heap.slot ⟨id, p⟩ = .live (v.obj s.heap.len id p) := hs
          rw [hs'] at hr0
          obtain ⟨_, hr0⟩ := hr0
          obtain ⟨_, A, cap, e1, e2, _⟩ := hr0 rfl
          rw [e1] at hr
          refine ⟨_, run r _ _ e1 (sliceAt_run e2 hbn w) d ty, ?_⟩
          have h5 := sref_sliced hs' rfl hr hle.1 hle.2
          rw [Nat.zero_add] at h5
          rw [← hb]
          simp only [toV]
          exact h5
        · cases h
      · cases h
    · rename_i id p rr n hx
      split at h
      · rename_i v hv
        split at h
        · rename_i e sz by_ hsl
          have ht := (T.ok t).sl _ _ _ hsl
          obtain ⟨hb, h⟩ := bif_none h
          have hb := Nat.eq_of_beq_eq_true hb
          obtain ⟨hg, h⟩ := grd_out h
          have hbn := bndG_ok hg
          have hle := bnd_le hbn
          have hx := eval_eq hx rfl
          have hs := slot_lst hv
          refine ⟨_, fun d ty E ι F a w r => ?_, h⟩
          have hr := r.eval x
          rw [hx] at hr
          simp only [toV] at hr
          have hr0 := hr
          obtain ⟨_, hr0⟩ := hr0
          have hs' : (toSt s).heap.slot ⟨id, p⟩ = .live (v.obj s.heap.len id p) := hs
          rw [hs'] at hr0
          obtain ⟨_, hr0⟩ := hr0
          obtain ⟨_, A, cap, e1, e2, _⟩ := hr0 rfl
          rw [e1] at hr
          refine ⟨_, run r _ _ e1 (sliceAt_run e2 hbn w) d ty, ?_⟩
          have h5 := sref_sliced hs' rfl hr hle.1 hle.2
          rw [← hb]
          simp only [toV]
          exact h5
        · cases h
      · cases h
    · rename_i b hx
      split at h
      · rename_i hdsc
        have ht := (T.ok t).desc _ hdsc
        obtain ⟨hg, h⟩ := grd_out h
        have hbn := bndG_ok hg
        have hle := bnd_le hbn
        have hx := eval_eq hx rfl
        refine ⟨_, fun d ty E ι F a w r => ?_, h⟩
        have hr := r.eval x
        rw [hx] at hr
        simp only [toV] at hr
        obtain ⟨e1, e2⟩ := hr
        have hrun : (Instr.sliceAt t (.string b) (l.map fun p => .int p.1 p.2) (hh.map fun p => .int p.1 p.2) none).run P w = .ok (.string (b.extract (lowN l) (highN b.size hh))) w := by
          rw [run_sliceAt_string w t _ _ _ _ ht.d]
          simp only [Instr.slice, Sem.run_bind, run_underlying' ht.d, Result.andThen_ok, Option.isSome_none, Bool.false_eq_true, if_false, Sem.run_pure]
          rw [bounds_run (fun p hp => by have := hbn.1 p hp; omega) hbn.2]
          simp only [Result.andThen_ok, Sem.run_pure]
          cases l <;> cases hh <;> rfl
        refine ⟨_, run r _ _ e1 hrun d ty, rfl, ?_⟩
        rw [ByteArray.size_extract]
        omega
      · cases h
    · cases h
end
end
end Go.Abs


set_option linter.unusedVariables false
set_option linter.unusedSimpArgs false
set_option linter.unusedSectionVars false
namespace Go.Abs
open Go
noncomputable section
variable {P : Program} {d : Option Tmp} {ty : TypeId} {L : List GOp} {ρ : Type}
section
variable [SU] [Codes] {Q : Exit → ESt → Prop}
def mput {α : Type} (g : MKey → Option α) (k : MKey) (y : α) : MKey → Option α := fun q => if q = k then some y else g q
def scEV : (τ : Ty) → τ.D → EV
  | .bool, x => .b x
  | .int k, x => .i k x
  | .str, x => .s x
  | .sl e, x => .fz e x
  | _, _ => .un
def zOk : Ty → Value → Bool
  | .bool, .bool false => true
  | .int k, .int k' 0 => kindEq k k'
  | .str, .string s => Nat.beq s.size 0
  | .sl _, .slice none 0 0 => true
  | _, _ => false
theorem zOk_wk {τ : Ty} {z : Value} (h : zOk τ z = true) (len : Len) : Wk (V.ofValue z) (toV len (scEV τ τ.z)) := by
  unfold zOk at h
  split at h
  · exact Wk.refl _
  · have := kindEq_eq h
    subst this; exact Wk.refl _
  · rename_i s
    have h0 := Nat.eq_of_beq_eq_true h
    have : s = ByteArray.empty := by
      cases s with
      | mk a =>
        have : a.size = 0 := h0
        have : a = #[] := Array.eq_empty_of_size_eq_zero this
        rw [this]; rfl
    subst this
    exact Wk.refl _
  · exact Wk.nils _ _
  · cases h
theorem scEV_enc {τ : Ty} {z : Value} (h : zOk τ z = true) (len : Len) (y : τ.D) : toV len (scEV τ y) = .t (encC τ y 0) := by
  cases τ <;> simp [zOk] at h <;> simp only [scEV, toV, encC] <;> rfl
def keyE (s : Bool) : EV → Option MKey
  | .i k n => match s, k with
    | false, .i64 => some (.i n)
    | _, _ => none
  | .s b => match s with
    | true => some (.s b)
    | false => none
  | _ => none
theorem keyE_ok {s : ESt} {x : Operand} {sk : Bool} {k : MKey} (h : keyE sk (s.eval x) = some k) : k.isS = sk ∧ ∀ E ι F a w, Rel E ι F (toSt s) a w → a.eval x = k.val := by
  unfold keyE at h
  split at h
  · rename_i kk n hx
    have hx := eval_eq hx rfl
    split at h
    · injection h with h; subst h
      exact ⟨rfl, fun E ι F a w r => int_eval r hx⟩
    · cases h
  · rename_i b hx
    have hx := eval_eq hx rfl
    split at h
    · injection h with h; subst h
      refine ⟨rfl, fun E ι F a w r => ?_⟩
      have := r.eval x
      rw [hx] at this
      exact this.1
    · cases h
  · cases h
def lookO (P : Program) [Tys P] [TyX P] (ev : Operand → EV) (H : EHeap) (t : TypeId) (x y : Operand) (ok : Bool) (K : EV → Option ρ) : Option ρ := match (TyX.x P t).mp with
  | some (sk, e, _) => match (Tys.c P e).zero with
    | some z => match ev x with
      | .mref id => match H.obj id with
        | .mp sm τ g => bif zOk τ z then (match keyE sm (ev y) with
          | some k => bif (sm == sk) then (bif ok then K (.tup [scEV τ ((g k).getD τ.z), .b (g k).isSome]) else K (scEV τ ((g k).getD τ.z))) else none
          | none => none) else none
        | _ => none
      | _ => none
    | none => none
  | none => none
theorem slot_map {H : EHeap} {id : Nat} {s : Bool} {τ : Ty} {g : MKey → Option τ.D} (h : H.obj id = .mp s τ g) : (toH H).slot ⟨id, []⟩ = .mp s (fun x => match g x with
    | some y => some (.t (encC τ y 0))
    | none => none) := by
  show (H.obj id).slot _ _ _ = _
  rw [h]; rfl
theorem lookO_ok [T : Tys P] [X : TyX P] {s : ESt} {t : TypeId} {x y : Operand} {ok : Bool} {K : EV → Option ρ} {res : ρ} (h : lookO P s.eval s.heap t x y ok K = some res) :
    ∃ u, (∀ d ty, QV P ⟨d, .lookup t x y ok, ty, none⟩ (toV s.heap.len u) (toSt s)) ∧ K u = some res := by
  unfold lookO at h
  split at h
  · rename_i sk e τ0 hm
    have ht := (X.ok t).mp _ _ _ hm
    split at h
    · rename_i z hz
      have hzz := (T.ok e).zero _ hz
      split at h
      · rename_i id hx
        have hx := eval_eq hx rfl
        split at h
        · rename_i sm τ g ho
          have hh := bif_none h
          clear h
          obtain ⟨hzo, h⟩ := hh
          split at h
          · rename_i k hk
            have hh := bif_none h
            clear h
            obtain ⟨hs, h⟩ := hh
            have hs : sm = sk := by simpa using hs
            subst hs
            obtain ⟨k1, k2⟩ := keyE_ok hk
            have hsl := slot_map ho
            have hsl' : (toSt s).heap.slot ⟨id, []⟩ = _ := hsl
            have hl : ∀ d ty, _ := fun d ty => O.lookup (d := d) (ty := ty) ht (zv := z) hx hsl' k1 k2
            have hw : Wk ((match g k with
                | some y => some (V.t (encC τ y 0))
                | none => none).getD (V.ofValue z)) (toV s.heap.len (scEV τ ((g k).getD τ.z))) := by
              cases hg : g k with
              | none => exact zOk_wk hzo _
              | some y => simp only [Option.getD_some]; rw [scEV_enc hzo]; exact Wk.refl _
            cases ok with
            | false =>
              exact ⟨_, fun d ty => (hl d ty).1.wk hw, h⟩
            | true =>
              refine ⟨_, fun d ty => (hl d ty).2.wk ?_, h⟩
              simp only [toV, List.length_cons, List.length_nil]
              intro H ι F w c ⟨cs, q1, q2, q3⟩
              refine ⟨cs, q1, q2, fun j hj => ?_⟩
              obtain ⟨c, w1, w2⟩ := q3 j hj
              match j, hj with
              | 0, _ => exact ⟨c, w1, by simp only [toVs]; exact hw _ _ _ _ _ w2⟩
              | 1, _ =>
                refine ⟨c, w1, ?_⟩
                simp only [toVs, toV]
                have w2 : c = .bool _ := w2
                show c = .bool _
                rw [w2]
                cases g k <;> rfl
          · cases h
        · cases h
      · cases h
    · cases h
  · cases h
theorem indexA_run {t n e s : Nat} [h : TyArr P t n e s] {w : World} {b o : Nat} {k : IntKind} {i : Nat} (h1 : i < n) :
    (Instr.indexAt t (.pointer (some ⟨b, o, none⟩)) (.int k (Int.ofNat i))).run P w = .ok (.pointer (some ⟨b, o + i * s, none⟩)) w := by
  have hs := h.s
  have hsz : (sizeOf e).run P w = .ok s w := by
    cases hq : P.info? e with
    | none => simp [hq] at hs
    | some i => simp [hq] at hs; simp [sizeOf, typeInfo, hq, hs]
  simp [Instr.indexAt, asIntOf, run_underlying' h.d, Instr.sureAddr, h1, hsz, addr_add]
theorem O.indexA {st : St} {t n e s : Nat} [TyArr P t n e s] {x y : Operand} {id : Id} {ver rr c : Nat} {o : AObj} {k : IntKind} {i : Nat} (hx : st.eval x = .ptr id ver rr c) (ho : st.heap.slot id = .live o) (hv : ver = o.ver) (hy : st.eval y = .t (.int k (Int.ofNat i))) (hi : i < n) :
    QV P ⟨d, .indexAddr t x y, ty, none⟩ (.ptr id ver rr (c + i * s)) st :=
  fun E ι F a w r => by
    obtain ⟨b, hb, he⟩ := live_ptr r hx ho hv
    refine ⟨_, by simp only [execOp, GOp.oper, he, int_eval r hy, Sem.run_bind, indexA_run (P := P) (t := t) hi, Result.andThen_ok]; rfl, rfl, ?_⟩
    rw [ho]
    exact ⟨by omega, fun _ => ⟨b, hb, by rw [Nat.add_assoc]⟩⟩
def arrO (P : Program) [Tys P] [TyX P] (H : EHeap) (t : TypeId) (a i : EV) (K : EV → Option ρ) : Option ρ := match (TyX.x P t).ar with
  | some (n, sz) => match i with
    | .i _ m => match m with
      | .ofNat i => bif Nat.blt i n then (match a with
        | .ptr id p r c => bif H.is id p then litO (c + i * sz) fun c' => K (.ptr id p r c') else none
        | _ => none) else none
      | _ => none
    | _ => none
  | none => none
theorem arrO_ok [T : Tys P] [X : TyX P] {s : ESt} {t : TypeId} {x y : Operand} {K : EV → Option ρ} {res : ρ} (h : arrO P s.heap t (s.eval x) (s.eval y) K = some res) : ∃ u, (∀ d ty, QV P ⟨d, .indexAddr t x y, ty, none⟩ (toV s.heap.len u) (toSt s)) ∧ K u = some res := by
  unfold arrO at h
  split at h
  · rename_i n sz har
    obtain ⟨e, har⟩ := (X.ok t).ar n sz har
    split at h
    · rename_i k m hy
      have hy := eval_eq hy rfl
      simp only [toV] at hy
      split at h
      · rename_i i
        have hh := bif_none h
        clear h
        obtain ⟨h1, h⟩ := hh
        split at h
        · rename_i id p r c hx
          have hx := eval_eq hx rfl
          simp only [toV] at hx
          have hh := bif_none h
          clear h
          obtain ⟨h2, h⟩ := hh
          obtain ⟨o, ho, hv⟩ := EHeap.is_out h2
          rw [litO_eq] at h
          exact ⟨_, fun d ty => (by simp only [toV]; exact O.indexA (e := e) hx ho hv.symm hy (Nat.le_of_ble_eq_true h1)), h⟩
        · cases h
      · cases h
    · cases h
  · cases h
def runX (P : Program) [Tys P] [TyX P] (ev : Operand → EV) (H : EHeap) (op : Op) (K : EV → Option ρ) : Option ρ := match op with
  | .makeFunc fn first caps => match fn, first.toList with
    | .func f, [] => fnE f ev caps.toList [] K
    | _, _ => none
  | .build t A => buildStO P ev t A.toList K
  | .lookup t x y ok => lookO P ev H t x y ok K
  | .slice t x lo hi mx => sliceO P ev H t x lo hi mx K
  | .indexAddr t x y => bif (TyX.x P t).ar.isSome then arrO P H t (ev x) (ev y) K else runO P ev H (.indexAddr t x y) K
  | .binOp o t x y tY => bif (ev x).isStr && (ev y).isStr then (match o with
    | .eql => eqStO P false t (ev x) (ev y) K
    | .neq => eqStO P true t (ev x) (ev y) K
    | _ => none) else runO P ev H (.binOp o t x y tY) K
  | op => runO P ev H op K
where
  fnE (f : FuncId) (ev : Operand → EV) : List Operand → List EV → (EV → Option ρ) → Option ρ
  | [], us, K => K (.fn f us.reverse)
  | x :: l, us, K => fE (ev x) fun u => fnE f ev l (u :: us) K
theorem fnE_eq (f : FuncId) (ev : Operand → EV) (K : EV → Option ρ) : ∀ (l : List Operand) (us : List EV), runX.fnE f ev l us K = K (.fn f (us.reverse ++ l.map ev))
  | [], us => by simp [runX.fnE]
  | x :: l, us => by simp only [runX.fnE]; rw [fE_eq, fnE_eq f ev K l]; simp
theorem runX_ok [T : Tys P] [X : TyX P] {s : ESt} {op : Op} {K : EV → Option ρ} {res : ρ} (h : runX P s.eval s.heap op K = some res) : ∃ u, (∀ d ty, QV P ⟨d, op, ty, none⟩ (toV s.heap.len u) (toSt s)) ∧ K u = some res := by
  unfold runX at h
  split at h
  · rename_i fn first caps
    split at h
    · rename_i f hf
      rw [fnE_eq] at h
      refine ⟨_, fun d ty => ?_, h⟩
      have : first = #[] := by cases first; simp_all
      subst this
      refine (O.makeFunc (f := f) (caps := caps) (st := toSt s)).wk ?_
      simp only [toV, List.reverse_nil, List.nil_append, List.length_map, Array.length_toList]
      intro H ι F w c ⟨cs, q1, q2, q3⟩
      refine ⟨cs, q1, q2, fun j hj => ?_⟩
      obtain ⟨c, w1, w2⟩ := q3 j hj
      refine ⟨c, w1, ?_⟩
      rw [toVs_eq]
      have e : (List.map s.eval caps.toList).getD j .un = s.eval (caps.getD j (.func 0)) := by
        simp [List.getD_eq_getElem?_getD, hj, Array.getD]
      rw [e]
      exact s.eval_wk _ _ _ _ _ _ w2
    · cases h
  · exact buildStO_ok h
  · exact lookO_ok h
  · exact sliceO_ok h
  · rename_i t x y
    rcases Bool.eq_false_or_eq_true (TyX.x P t).ar.isSome with hb | hb
    · rw [hb] at h
      exact arrO_ok h
    · rw [hb] at h
      exact runO_ok h
  · rename_i o t x y tY
    rcases Bool.eq_false_or_eq_true ((s.eval x).isStr && (s.eval y).isStr) with hb | hb
    · rw [hb] at h
      simp only [Bool.and_eq_true] at hb
      simp only [cond_true] at h
      split at h
      · exact eqStO_ok (neg := false) rfl hb.1 hb.2 h
      · exact eqStO_ok (neg := true) rfl hb.1 hb.2 h
      · cases h
    · rw [hb] at h
      exact runO_ok h
  · exact runO_ok h
def makeMapO (P : Program) [Tys P] [TyX P] (t : TypeId) (K : OD → Option ρ) : Option ρ := match (TyX.x P t).mp with
  | some (sk, _, τ) => K (.mp sk τ (fun _ => none))
  | none => none
theorem weak_addM {s : ESt} {sk : Bool} {τ : Ty} (hf : Fair s) (d : Option Tmp) :
    Weak (((toSt s).on ((toSt s).heap.addM sk (fun _ => none))).put d (.mref ⟨s.heap.next, []⟩)) (toSt ((s.on (s.heap.add s.heap.next (.mp sk τ (fun _ => none)))).put d (.mref s.heap.next))) := by
  have hsl : ∀ i : Id, ((toSt s).heap.addM sk (fun _ => none)).slot i = if i = ⟨s.heap.next, []⟩ then .mp sk (fun _ => none) else (toH s.heap).slot i := fun i => by
    show (bif Id.beq i ⟨s.heap.next, []⟩ then _ else _) = _
    exact beq_if _ _ _ _
  have hnew : ∀ p, (toH (s.heap.add s.heap.next (.mp sk τ (fun _ => none)))).slot ⟨s.heap.next, p⟩ = (OD.mp sk τ (fun _ => none)).slot (s.heap.add s.heap.next (.mp sk τ (fun _ => none))).len s.heap.next p := fun p => by
    show ((s.heap.add s.heap.next (.mp sk τ (fun _ => none))).obj s.heap.next).slot _ _ _ = _
    simp only [EHeap.add, Nat.beq_refl, cond_true]
  refine weak_root hf s.heap.next (fun k' hk => by simp only [EHeap.add, natBeq_ne hk, cond_false]) (fun id p hb => ?_) (fun i hi => ?_) rfl (fun hn i hi => ?_) (fun p hne => ?_) (fun p o' hl => ?_) (fun p sb g' hl => ?_) d (fun _ => by simp only [toV]; exact Wk.refl _)
  · have : id ≠ s.heap.next := fun e => hb (hf.next ⟨id, p⟩ (by rw [e]; exact Nat.le_refl _))
    exact EHeap.len_obj (EHeap.add_ne this) p
  · rw [hsl, if_neg (fun e => hi (by rw [e]))]
  · have hi : s.heap.next + 1 ≤ i.k := hi
    have hne : i.k ≠ s.heap.next := by omega
    have := hf.next i (by omega)
    have h' : (s.heap.obj i.k).slot s.heap.len i.k i.p = .unborn := this
    show ((s.heap.add s.heap.next (.mp sk τ (fun _ => none))).obj i.k).slot _ _ _ = .unborn
    simp only [EHeap.add, natBeq_ne hne, cond_false]
    exact (slot_dead (len := s.heap.len)).2.2 h'
  · rw [hsl] at hne ⊢
    by_cases hp : p = []
    · subst hp
      rw [if_pos rfl, hnew]
      trivial
    · rw [if_neg (fun e => hp (by injection e))] at hne
      exact absurd (hf.next ⟨s.heap.next, p⟩ (Nat.le_refl _)) hne
  · rw [hnew] at hl
    cases p <;> cases hl
  · rw [hnew] at hl
    rw [hsl]
    cases p with
    | nil => rw [if_pos rfl]; exact hl
    | cons x y => cases hl
theorem makeMapO_ok [T : Tys P] [X : TyX P] {s : ESt} {t : TypeId} {K : ESt → Option ρ} {res : ρ} (hK : ∀ s', K s' = some res → SLT P L Q s')
    (h : makeMapO P t (fun o => litO s.heap.next fun id => K ((s.on (s.heap.add id o)).put d (.mref id))) = some res) : SLT P (⟨d, .makeMap t none, ty, none⟩ :: L) Q s := by
  refine ⟨SL.fair fun hf => ?_⟩
  unfold makeMapO at h
  split at h
  · rename_i sk e τ hm
    simp only [litO_eq] at h
    exact SL.makeMap (SL.weak (weak_addM hf d) (hK _ h).out)
  · cases h
def updO (P : Program) [Tys P] [TyX P] (s : ESt) (d : Option Tmp) (t : TypeId) (x y z : Operand) (K : ESt → Option ρ) : Option ρ := match (TyX.x P t).mp with
  | some (sk, _, _) => match s.eval x with
    | .mref id => match s.heap.obj id with
      | .mp sm τ g => bif froT τ && (Nat.beq τ.sz 1 && (sm == sk)) then (match keyE sm (s.eval y) with
        | some k => match setC τ τ.z 0 (s.eval z) with
          | some v => K ((s.on (s.heap.set id (.mp sm τ (mput g k v)))).put d .un)
          | none => none
        | none => none) else none
      | _ => none
    | _ => none
  | none => none
theorem weak_setM {s : ESt} {sk : Bool} {τ : Ty} {id : Nat} {g g' : MKey → Option τ.D} {G : MKey → Option V} (hf : Fair s) (ho : s.heap.obj id = .mp sk τ g) (hG : G = fun x => match g' x with
    | some y => some (.t (encC τ y 0))
    | none => none) (d : Option Tmp) :
    Weak (((toSt s).on ((toSt s).heap.setM ⟨id, []⟩ sk G)).put d .un) (toSt ((s.on (s.heap.set id (.mp sk τ g'))).put d .un)) := by
  subst hG
  have hlen : ∀ j p, (s.heap.set id (.mp sk τ g')).len j p = s.heap.len j p := fun j p => by
    by_cases hj : j = id
    · subst hj
      unfold EHeap.len
      simp only [EHeap.set, Nat.beq_refl, cond_true]
      rw [ho]; rfl
    · exact EHeap.len_obj (EHeap.set_ne hj) p
  have hs1 : ∀ i : Id, ((toSt s).heap.setM ⟨id, []⟩ sk (fun x => match g' x with
    | some y => some (.t (encC τ y 0))
    | none => none)).slot i = if i = ⟨id, []⟩ then .mp sk (fun x => match g' x with
    | some y => some (.t (encC τ y 0))
    | none => none) else (toH s.heap).slot i := fun i => by
    show (bif Id.beq i ⟨id, []⟩ then _ else _) = _
    exact beq_if _ _ _ _
  have hsn : ∀ p, (toH (s.heap.set id (.mp sk τ g'))).slot ⟨id, p⟩ = (OD.mp sk τ g').slot (s.heap.set id (.mp sk τ g')).len id p := fun p => by
    show ((s.heap.set id (.mp sk τ g')).obj id).slot _ _ _ = _
    simp only [EHeap.set, Nat.beq_refl, cond_true]
  have hun : ∀ x y, (toH s.heap).slot ⟨id, x :: y⟩ = .unborn := fun x y => by
    show (s.heap.obj id).slot _ _ _ = _
    rw [ho]; rfl
  refine weak_root hf id (fun k' hk => EHeap.set_ne hk) (fun j q _ => hlen j q) (fun i hi => by rw [hs1, if_neg (fun e => hi (by rw [e]))]) rfl (fun hn i hi => ?_) (fun p hne => ?_) (fun p o' hl' => ?_) (fun p sb g' hl' => ?_) d (fun _ => by simp only [toV]; exact Wk.refl _)
  · by_cases hi2 : i.k = id
    · obtain ⟨j, p⟩ := i
      simp only at hi2
      subst hi2
      have := hn ⟨j, p⟩ hi
      rw [hs1] at this
      rw [hsn]
      split at this
      · cases this
      · rename_i hne
        cases p with
        | nil => exact absurd rfl hne
        | cons x y => rfl
    · have := hf.next i hi
      have h' : (s.heap.obj i.k).slot s.heap.len i.k i.p = .unborn := this
      show ((s.heap.set id (.mp sk τ g')).obj i.k).slot _ _ _ = .unborn
      rw [EHeap.set_ne hi2]
      exact (slot_dead (len := s.heap.len)).2.2 h'
  · rw [hs1] at hne ⊢
    cases p with
    | nil => rw [if_pos rfl, hsn]; trivial
    | cons x y => rw [if_neg (fun e => by injection e with _ e; cases e)] at hne; exact absurd (hun x y) hne
  · rw [hsn] at hl'
    cases p <;> cases hl'
  · rw [hsn] at hl'
    rw [hs1]
    cases p with
    | nil => rw [if_pos rfl]; exact hl'
    | cons x y => cases hl'
theorem updO_ok [T : Tys P] [X : TyX P] {s : ESt} {t : TypeId} {x y z : Operand} {K : ESt → Option ρ} {res : ρ} (hK : ∀ s', K s' = some res → SLT P L Q s')
    (h : updO P s d t x y z K = some res) : SLT P (⟨d, .mapUpdate t x y z, ty, none⟩ :: L) Q s := by
  refine ⟨SL.fair fun hf => ?_⟩
  unfold updO at h
  split at h
  · rename_i sk e τ0 hm
    have ht := (X.ok t).mp _ _ _ hm
    split at h
    · rename_i id hx
      have hx := eval_eq hx rfl
      split at h
      · rename_i sm τ g ho
        have hh := bif_none h
        clear h
        obtain ⟨hb, h⟩ := hh
        simp only [Bool.and_eq_true] at hb
        obtain ⟨b1, b2, b3⟩ := hb
        have b2 := Nat.eq_of_beq_eq_true b2
        have b3 : sm = sk := by simpa using b3
        subst b3
        split at h
        · rename_i k hk
          split at h
          · rename_i v hv
            obtain ⟨k1, k2⟩ := keyE_ok hk
            obtain ⟨_, ⟨u, hu, hw⟩, _⟩ := setC_ok _ _ _ _ _ hv
            obtain ⟨u', hu', he⟩ := cellC_enc τ v 0 b1
            rw [hu] at hu'; injection hu' with hu'; subst hu'
            have he := he (by omega) s.heap.len
            have hsl' : (toSt s).heap.slot ⟨id, []⟩ = _ := slot_map ho
            refine SL.mapUpdate (u := .t (encC τ v 0)) ht hx hsl' k1 k2 (fun E ι F a w r => ?_) (SL.weak (weak_setM (g := g) (g' := mput g k v) hf ho ?_ d) (hK _ h).out)
            · have := hw s.heap.len _ _ _ _ _ (s.eval_wk z _ _ _ _ _ (r.eval z))
              rw [he] at this
              exact this
            · funext q
              unfold putK mput
              by_cases hq : q = k
              · rw [if_pos hq, if_pos hq]
              · rw [if_neg hq, if_neg hq]
          · cases h
        · cases h
      · cases h
    · cases h
  · cases h
end
end
end Go.Abs


set_option linter.unusedVariables false
set_option linter.unusedSimpArgs false
set_option linter.unusedSectionVars false
namespace Go.Abs
open Go
noncomputable section
variable {P : Program} {d : Option Tmp} {ty : TypeId} {L : List GOp} {ρ : Type}
section
variable [SU] [Codes] {Q : Exit → St → Prop} {st : St}
theorem SL.trunc {t e : TypeId} {sz by_ : Nat} [ht : TySlice P t e sz by_] {x y : Operand} {id : Id} {o : AObj} {k : IntKind} {h : Int} (hx : st.eval x = .sref id o.ver 0 o.n) (ho : st.heap.slot id = .live o) (hz : o.sz = sz)
    (hy : st.eval y = .t (.int k h)) (h0 : 0 ≤ h) (h1 : h ≤ o.n) (hk : SL P L Q ((st.on (st.heap.set id { o with n := h.toNat, ver := o.ver + 1 })).put d (.sref id (o.ver + 1) 0 h.toNat))) :
    SL P (⟨d, .slice t x none (some y) none, ty, none⟩ :: L) Q st :=
  SL.value rfl fun E ι F a w r => by
    have hr := r.eval x
    rw [hx] at hr
    obtain ⟨_, hr⟩ := hr
    rw [ho] at hr
    obtain ⟨_, hr⟩ := hr
    obtain ⟨_, A, cap, e1, e2, e3⟩ := hr rfl
    subst hz
    have hb : BndOk o.n none (some (k, h)) := ⟨fun p hp => (by cases hp; exact ⟨h0, h1⟩), fun p hp => (by cases hp)⟩
    have hrun := sliceAt_run (P := P) (t := t) (A := A) e2 hb w
    simp only [Option.map_none, Option.map_some, lowN, highN] at hrun
    have hval : sliced A 0 h.toNat cap o.sz = .slice A h.toNat cap := by
      unfold sliced
      simp only [Nat.zero_mul, Nat.sub_zero]
      split
      · rfl
      · cases A with
        | none => rfl
        | some ad => simp [Addr.add]
    rw [hval] at hrun
    have hex : (execOp a.eval (GOp.oper ⟨d, .slice t x none (some y) none, ty, none⟩)).run P w = .ok (.value (.slice A h.toNat cap)) w := by
      simp only [execOp, GOp.oper, Option.map_none, Option.map_some, e1, int_eval r hy, Sem.run_bind, hrun, Result.andThen_ok, Sem.run_pure]
    have hH : ∀ i, (st.heap.set id { o with n := h.toNat, ver := o.ver + 1 }).slot i = if i = id then .live { o with n := h.toNat, ver := o.ver + 1 } else st.heap.slot i := fun i => beq_if _ _ _ _
    have hnx : ∀ i : Id, (st.heap.set id { o with n := h.toNat, ver := o.ver + 1 }).next ≤ i.k → i ≠ id ∧ st.heap.next ≤ i.k := fun i hi => ⟨fun e => (by subst e; rw [r.h.next _ hi] at ho; cases ho), hi⟩
    obtain ⟨hlen, ho2⟩ := r.h.obj id o ho
    have hself : (st.heap.set id { o with n := h.toNat, ver := o.ver + 1 }).slot id = .live { o with n := h.toNat, ver := o.ver + 1 } := by rw [hH, if_pos rfl]
    cases hι : ι id with
    | none =>
      rw [hι] at ho2
      have ho2 : o.n = 0 := ho2
      have hh : h.toNat = 0 := by omega
      obtain ⟨g1, g2⟩ := r.h.virt id { o with n := h.toNat, ver := o.ver + 1 } _ hH hnx rfl hh (by rw [ho]; show o.ver < o.ver + 1; omega)
      refine ⟨_, w, _, F, _, .sref id (o.ver + 1) 0 h.toNat, hex, g1, g2, ⟨rfl, ?_⟩, hk⟩
      rw [hself]
      refine ⟨Nat.le_refl _, fun _ => ⟨by show 0 + h.toNat ≤ h.toNat; omega, A, cap, rfl, by omega, fun hc => ?_⟩⟩
      obtain ⟨b, cur, q1, _⟩ := e3 hc
      rw [hι] at q1; cases q1
    | some b =>
      rw [hι] at ho2
      obtain ⟨cur, c1, c2, c3⟩ := ho2
      have hle : h.toNat ≤ o.n := by omega
      obtain ⟨g1, g2⟩ := r.h.step id b { o with n := h.toNat, ver := o.ver + 1 } cur w _ hH hnx rfl rfl rfl rfl (Nat.le_refl _) (fun _ _ _ => rfl) c1 (.inr ⟨hι, by rw [ho]; trivial⟩) (Nat.le_trans hle hlen)
        (Nat.le_trans (Nat.mul_le_mul_right _ hle) c2) (fun i hi j hj => c3 i (Nat.lt_of_lt_of_le hi hle) j hj) (by rw [ho]; exact ⟨Nat.le_succ _, fun e => absurd e (by simp)⟩)
      refine ⟨_, w, _, F, _, .sref id (o.ver + 1) 0 h.toNat, hex, g1, g2, ⟨rfl, ?_⟩, hk⟩
      rw [hself]
      refine ⟨Nat.le_refl _, fun _ => ⟨by show 0 + h.toNat ≤ h.toNat; omega, A, cap, rfl, by omega, fun hc => ?_⟩⟩
      obtain ⟨b', cur', q1, q2, q3, q4⟩ := e3 hc
      rw [hι] at q1
      exact ⟨b', cur', by simp [upd]; exact Option.some.inj q1, q2, q3, q4⟩
theorem eqNil_run {t e : TypeId} {sz by_ : Nat} [ht : TySlice P t e sz by_] (dp : Nat) (A : Option Addr) (n cap : Nat) (w : World) : (Op.equalIn (dp + 1) t (.slice A n cap) (.slice none 0 0)).run P w = .ok A.isNone w := by
  simp only [Op.equalIn, Sem.run_bind, run_underlying' ht.d, Result.andThen_ok]
  cases A <;> rfl
theorem SL.nilCmp {t e : TypeId} {sz by_ : Nat} [ht : TySlice P t e sz by_] {x : Operand} {o : BinOp} {tY : TypeId} {neg : Bool} (hop : o = if neg = true then .neq else .eql) {emp : Prop}
    (hx : ∀ E ι F a w, Rel E ι F st a w → ∃ A n cap, a.eval x = .slice A n cap ∧ (A = none → emp))
    (hk0 : SL P L Q (st.put d (.t (.bool neg)))) (hk1 : emp → SL P L Q (st.put d (.t (.bool !neg)))) :
    SL P (⟨d, .binOp o t x (.const (.slice none 0 0)) tY, ty, none⟩ :: L) Q st :=
  SL.value rfl fun E ι F a w r => by
    obtain ⟨A, n, cap, e1, e2⟩ := hx E ι F a w r
    have heq : (Op.equal t (.slice A n cap) (.slice none 0 0)).run P w = .ok A.isNone w := eqNil_run 9999 A n cap w
    have ec : a.eval (.const (.slice none 0 0)) = .slice none 0 0 := rfl
    have hg : ∀ o', (eqGuard o' t x (.const (.slice none 0 0)) (.slice A n cap) (.slice none 0 0)).run P w = .ok () w := fun o' => by
      unfold eqGuard; cases o' <;> rfl
    have hex : (execOp a.eval (GOp.oper ⟨d, .binOp o t x (.const (.slice none 0 0)) tY, ty, none⟩)).run P w = .ok (.value (.bool (if neg = true then !A.isNone else A.isNone))) w := by
      cases neg with
      | false =>
        subst hop
        simp only [execOp, GOp.oper, e1, ec, Bool.false_eq_true, if_false, Sem.run_bind, hg, Result.andThen_ok, binOp, heq, Sem.run_pure]
      | true =>
        subst hop
        simp only [execOp, GOp.oper, e1, ec, if_true, Sem.run_bind, hg, Result.andThen_ok, binOp, heq, Sem.run_pure]
    cases A with
    | none =>
      refine ⟨_, w, ι, F, st.heap, .t (.bool !neg), hex, r.h, Ext.refl _ _ _ _, ?_, hk1 (e2 rfl)⟩
      cases neg <;> rfl
    | some ad =>
      refine ⟨_, w, ι, F, st.heap, .t (.bool neg), hex, r.h, Ext.refl _ _ _ _, ?_, hk0⟩
      cases neg <;> rfl
theorem SL.bytes {src dst e : TypeId} (hs : P.underlying src = some .string) (hd : P.underlying dst = some (.slice e)) (he : P.underlying e = some (.int .u8)) {x : Operand} {b : ByteArray} (hx : st.eval x = .t (.str b)) (hb : b.size ≤ LEN)
    (hk : SL P L Q (st.put d (.t (.sl 1 b.size (fun i _ => .int .u8 ((b.data.getD i 0).toNat : Nat)))))) :
    SL P (⟨d, .convert src dst x, ty, none⟩ :: L) Q st :=
  SL.value rfl fun E ι F a w r => by
    have hr := r.eval x
    rw [hx] at hr
    have hr := hr.1
    have key : ∃ cap cells m w', b.size ≤ cap ∧ (Conv.stringToBytes e b).run P w = .ok (.slice (some ⟨w.heap.size, 0, none⟩) b.size cap) w' ∧ w'.os = w.os ∧ w'.tape = w.tape ∧ w'.output = w.output ∧ w'.heap.size = w.heap.size + 1 ∧
        (∀ k, k < w.heap.size → w'.heap[k]? = w.heap[k]?) ∧ w'.heap[w.heap.size]? = some (.cells cells e m) ∧ ∀ i, i < b.size → cells[i]? = some (.int .u8 ((b.data.getD i 0).toNat : Nat)) := by
      have hforced : (Question.appendCap b.size 0 e).forced = false := by rfl
      have hcap : b.size ≤ (Question.appendCap b.size 0 e).cut (w.tape w.drawn (.appendCap b.size 0 e)) := Nat.le_add_right _ _
      generalize hq : (Question.appendCap b.size 0 e).cut (w.tape w.drawn (.appendCap b.size 0 e)) = cap at hcap
      generalize hc : (b.data.map fun x => Value.int .u8 (x.toNat : Nat)) ++ Array.replicate (cap - b.size) (.int .u8 0) = cells
      have hsz : (w.drew.alloc (.cells cells e)).heap[w.heap.size]? = some (.cells cells e (0, 0)) := (MapKept.heap_alloc w.drew _).1
      have hlt : w.heap.size < (w.drew.alloc (.cells cells e)).heap.size := (Array.getElem?_eq_some_iff.1 hsz).1
      refine ⟨cap, cells, (cells.size, cells.size + 1), (w.drew.alloc (.cells cells e)).freeze ⟨w.heap.size, cells.size, none⟩ 1, hcap, ?_, rfl, rfl, rfl, ?_, fun k hk => ?_, ?_, fun i hi => ?_⟩
      · simp only [Conv.stringToBytes, Sem.run_bind, run_choose_drew, hforced, Bool.false_eq_true, if_false, Result.andThen_ok, newRow, run_newObj_alloc, Sem.run_pure, markStringish, run_shape, hq, hc]
        have : (w.drew.alloc (.cells cells e)).shape? w.drew.heap.size = some (e, cells.size) := by
          show (match (w.drew.alloc (.cells cells e)).heap[w.heap.size]? with
            | some (.cells c elem _) => some (elem, c.size)
            | _ => none) = _
          rw [hsz]
        simp only [this, Sem.run_bind, run_freeze, Result.andThen_ok, Sem.run_pure]
        rfl
      · show ((w.heap.push _).modify _ _).size = _
        simp
      · show ((w.heap.push _).modify _ _)[k]? = _
        rw [Array.getElem?_modify, if_neg (by show ¬ w.heap.size = k; omega), Array.getElem?_push_lt hk]
        exact (Array.getElem?_eq_getElem hk).symm
      · show ((w.heap.push _).modify _ _)[w.heap.size]? = _
        rw [Array.getElem?_modify, if_pos rfl]
        have : (w.heap.push (Obj.cells cells e (0, 0)))[w.heap.size]? = some (.cells cells e (0, 0)) := by simp
        exact (congrArg (Option.map _) this).trans rfl
      · subst hc
        have hi' : i < b.data.size := hi
        rw [Array.getElem?_append_left (by simpa using hi')]
        rw [Array.getElem?_map, Array.getElem?_eq_getElem hi', Option.map_some]
        rw [Array.getD_eq_getD_getElem?, Array.getElem?_eq_getElem hi', Option.getD_some]
    obtain ⟨cap, cells, m, w', hcap, hrun, k1, k2, k3, k4, k5, k6, k7⟩ := key
    obtain ⟨g1, g2⟩ := r.h.grow (F' := fun k => F k ∨ k = w.heap.size) k1 k2 k3 (by omega) k5 (fun k h => .inl h) (fun k h => by rcases h with h | h; exact .inl h; exact .inr (by omega)) (fun k h => by rcases h with h | h; (have := r.h.frlt k h; omega); omega)
    refine ⟨.slice (some ⟨w.heap.size, 0, none⟩) b.size cap, w', ι, _, st.heap, _, ?_, g1, g2, ?_, hk⟩
    · simp only [execOp, GOp.oper, convert, hr, Sem.run_bind, run_underlying' hs, run_underlying' hd, run_underlying' he, Result.andThen_ok, hrun, Sem.run_pure]
    · refine ⟨_, cap, rfl, hcap, hb, fun hn => ⟨w.heap.size, 0, rfl, .inr rfl, fun i hi j hj => ⟨_, ?_, rfl⟩⟩⟩
      have : j = 0 := by omega
      subst this
      simp only [World.cell?, k6]
      simpa using k7 i hi
end
section
variable [SU] [Codes] {Q : Exit → ESt → Prop}
def bytesI (b : ByteArray) : List Int := b.data.toList.map fun x => (x.toNat : Int)
theorem bytesI_len (b : ByteArray) : (bytesI b).length = b.size := by simp [bytesI]
def bytesO (P : Program) [Tys P] (s : ESt) (d : Option Tmp) (src dst : TypeId) (x : Operand) (K : ESt → Option ρ) : Option ρ := match (Tys.c P src).desc, (Tys.c P dst).sl, s.eval x with
  | some .string, some (e, _, _), .s b => match (Tys.c P e).desc with
    | some (.int .u8) => grd (okB (b.size ≤ 281474976710656)) (K (s.put d (.fz (.int .u8) (bytesI b))))
    | _ => none
  | _, _, _ => none
theorem bytesO_ok [T : Tys P] {s : ESt} {src dst : TypeId} {x : Operand} {K : ESt → Option ρ} {res : ρ} (hK : ∀ s', K s' = some res → SLT P L Q s') (h : bytesO P s d src dst x K = some res) : SLT P (⟨d, .convert src dst x, ty, none⟩ :: L) Q s := by
  refine ⟨?_⟩
  unfold bytesO at h
  split at h
  · rename_i e sz by_ b h1 h2 hx
    have t1 := (T.ok src).desc _ h1
    have t2 := (T.ok dst).sl _ _ _ h2
    split at h
    · rename_i h3
      have t3 := (T.ok e).desc _ h3
      obtain ⟨hp, h⟩ := grd_out h
      have hp := okB_out hp
      have hx := eval_eq hx rfl
      refine SL.bytes t1.d t2.d t3.d hx hp ?_
      have := (hK _ h).out
      rw [toSt_put] at this
      have e : toV s.heap.len (.fz (.int .u8) (bytesI b)) = .t (.sl 1 b.size (fun i _ => .int .u8 ((b.data.getD i 0).toNat : Nat))) := by
        simp only [toV, encL]
        have e1 : (bytesI b).length = b.size := bytesI_len b
        show V.t (.sl 1 (bytesI b).length (fun r c => .int .u8 ((bytesI b).getD r 0))) = _
        rw [e1]
        congr 2
        funext i _
        congr 1
        simp only [bytesI, List.getD_eq_getElem?_getD, List.getElem?_map, Array.getElem?_toList, Array.getD_eq_getD_getElem?]
        cases b.data[i]? <;> rfl
      rw [e] at this
      exact this
    · cases h
  · cases h
def nilQ (s : ESt) (o : BinOp) (x y : Operand) : Option (Bool × Prop) := match y with
  | .const (.slice none 0 0) => match (match o with | .eql => some false | .neq => some true | _ => none) with
    | some neg => match s.eval x with
      | .fz _ l => some (neg, l = [])
      | .sfull id p => match s.heap.at id p with
        | some v => some (neg, v.l = [])
        | none => none
      | _ => none
    | none => none
  | _ => none
def nilK (s : ESt) (d : Option Tmp) (neg : Bool) (emp : Prop) (K : ESt → Option ρ) : Option ρ :=
  grd (okB (emp → K (s.put d (.b (!neg))) = K (s.put d (.b neg)))) (K (s.put d (.b neg)))
def isSlTy (P : Program) [Tys P] (t : TypeId) : Bool := match (Tys.c P t).sl with
  | some _ => true
  | none => false
theorem nilK_ok [T : Tys P] {s : ESt} {o : BinOp} {t tY : TypeId} {x y : Operand} {neg : Bool} {emp : Prop} {K : ESt → Option ρ} {res : ρ} (hK : ∀ s', K s' = some res → SLT P L Q s') (hq : nilQ s o x y = some (neg, emp)) (ht : isSlTy P t = true)
    (h : nilK s d neg emp K = some res) : SLT P (⟨d, .binOp o t x y tY, ty, none⟩ :: L) Q s := by
  refine ⟨?_⟩
  obtain ⟨hp, h⟩ := grd_out h
  have hp := okB_out hp
  unfold isSlTy at ht
  split at ht
  rotate_left
  · cases ht
  rename_i q hsl
  obtain ⟨e, sz, by_⟩ := q
  have t2 := (T.ok t).sl _ _ _ hsl
  unfold nilQ at hq
  split at hq
  · split at hq
    · rename_i neg' hneg
      have hop : ∀ b, neg' = b → o = if b = true then .neq else .eql := fun b hb => by
        subst hb
        split at hneg <;> first | (injection hneg with hneg; subst hneg; rfl) | cases hneg
      have k0 : K (s.put d (.b neg)) = some res := h
      have done : (∀ E ι F a w, Rel E ι F (toSt s) a w → ∃ A n cap, a.eval x = .slice A n cap ∧ (A = none → emp)) → neg' = neg → SL P (⟨d, .binOp o t x (.const (.slice none 0 0)) tY, ty, none⟩ :: L) (liftQ Q) (toSt s) := fun hx hn => by
        refine SL.nilCmp (e := e) (sz := sz) (by_ := by_) (neg := neg) (hop _ hn) hx ?_ (fun he => ?_)
        · have := (hK _ k0).out
          rw [toSt_put] at this
          exact this
        · have := (hK _ ((hp he).trans k0)).out
          rw [toSt_put] at this
          exact this
      split at hq
      · rename_i τ l hx
        injection hq with hq
        injection hq with q1 q2
        have hx := eval_eq hx rfl
        refine done (fun E ι F a w r => ?_) q1
        have hr := r.eval x
        rw [hx] at hr
        simp only [toV, encL] at hr
        obtain ⟨A, cap, e1, e2, e3, e4⟩ := hr
        refine ⟨A, _, cap, e1, fun hA => ?_⟩
        rw [← q2]
        cases l with
        | nil => rfl
        | cons a l =>
          obtain ⟨b, o, q, _⟩ := e4 (by simp)
          rw [hA] at q; cases q
      · rename_i id p hx
        split at hq
        · rename_i v hv
          injection hq with hq
          injection hq with q1 q2
          have hx := eval_eq hx rfl
          refine done (fun E ι F a w r => ?_) q1
          have hr := r.eval x
          rw [hx] at hr
          simp only [toV, EHeap.len_at hv] at hr
          obtain ⟨_, hr⟩ := hr
          have hs' : (toSt s).heap.slot ⟨id, p⟩ = .live (v.obj s.heap.len id p) := slot_lst hv
          rw [hs'] at hr
          obtain ⟨_, hr⟩ := hr
          obtain ⟨hn, A, cap, e1, e2, e3⟩ := hr rfl
          refine ⟨A, _, cap, e1, fun hA => ?_⟩
          rw [← q2]
          cases hl : v.l with
          | nil => rfl
          | cons a l =>
            obtain ⟨b, cur, _, q, _⟩ := e3 (by rw [hl] at e2; simp at e2; omega)
            rw [hA] at q; cases q
        · cases hq
      · cases hq
    · cases hq
  · cases hq
def truncO (P : Program) [Tys P] (s : ESt) (d : Option Tmp) (t : TypeId) (x y : Operand) (K : ESt → Option ρ) : Option ρ := match (Tys.c P t).sl, s.eval x, s.eval y with
  | some (_, sz, _), .sfull id [], .i _ h => match s.heap.obj id with
    | .lst v => bif froT v.τ && Nat.beq v.τ.sz sz then grd (okB (0 ≤ h ∧ h ≤ v.l.length))
        (bif Nat.ble s.heap.lo id then K ((s.app (rootIs id) id id s.heap.next ⟨v.e, v.τ, v.l.take h.toNat⟩).put d (.sfull id []))
         else bif Nat.ble s.heap.lo s.heap.next then litO s.heap.next fun k2 => K ((s.app (rootIs id) id k2 (k2 + 1) ⟨v.e, v.τ, v.l.take h.toNat⟩).put d (.sfull k2 [])) else none) else none
    | _ => none
  | _, _, _ => none
theorem truncO_ok [T : Tys P] {s : ESt} {t : TypeId} {x y : Operand} {K : ESt → Option ρ} {res : ρ} (hK : ∀ s', K s' = some res → SLT P L Q s') (h : truncO P s d t x y K = some res) : SLT P (⟨d, .slice t x none (some y) none, ty, none⟩ :: L) Q s := by
  refine ⟨SL.fair fun hf => ?_⟩
  unfold truncO at h
  split at h
  · rename_i e sz by_ id k hh hsl hx hy
    have ht := (T.ok t).sl _ _ _ hsl
    split at h
    · rename_i v ho
      obtain ⟨ve, vτ, vl⟩ := v
      have hb := bif_none h
      clear h
      obtain ⟨hb, h⟩ := hb
      simp only [Bool.and_eq_true] at hb
      obtain ⟨hfro, hb⟩ := hb
      have hb := Nat.eq_of_beq_eq_true hb
      obtain ⟨hp, h⟩ := grd_out h
      obtain ⟨p1, p2⟩ := okB_out hp
      simp only at p2
      have hat : s.heap.at id [] = some ⟨ve, vτ, vl⟩ := by simp only [EHeap.at, ho, LV.at_nil]
      have hx := eval_eq hx rfl
      have hy := eval_eq hy rfl
      simp only [toV, EHeap.len_at hat] at hx
      simp only [toV] at hy
      have hs := slot_lst hat
      have hlive : id < s.heap.next := Classical.byContradiction fun hn => by
        have := hf.next ⟨id, []⟩ (Nat.le_of_not_lt hn)
        rw [hs] at this; cases this
      have hunb : ∀ p, (toH s.heap).slot ⟨s.heap.next, p⟩ = .unborn := fun p => hf.next ⟨s.heap.next, p⟩ (Nat.le_refl _)
      have hold : ∀ p, p ≠ [] → (toH s.heap).slot ⟨id, p⟩ = .unborn := fun p hp => by
        show (s.heap.obj id).slot _ _ _ = _
        rw [ho]
        exact OD.flat_slot (o := .lst ⟨ve, vτ, vl⟩) hfro p hp
      have hmin : min hh.toNat vl.length = hh.toNat := by omega
      refine SL.trunc (P := P) (t := t) (by_ := by_) (sz := sz) (o := LV.obj s.heap.len id [] ⟨ve, vτ, vl⟩) hx hs hb hy p1 p2 ?_
      have main : ∀ k2 nx, (k2 = id ∨ ∀ p, (toH s.heap).slot ⟨k2, p⟩ = .unborn) → s.heap.next ≤ nx → k2 < nx → s.heap.lo ≤ k2 → K ((s.app (rootIs id) id k2 nx ⟨ve, vτ, vl.take hh.toNat⟩).put d (.sfull k2 [])) = some res →
          SL P L (liftQ Q) (((toSt s).on ((toSt s).heap.set ⟨id, []⟩ { LV.obj s.heap.len id [] ⟨ve, vτ, vl⟩ with n := hh.toNat, ver := 0 + 1 })).put d (.sref ⟨id, []⟩ (0 + 1) 0 hh.toNat)) := by
        intro k2 nx q1 q2 q3 q4 q5
        refine SL.weak (weak_app (k := id) (k2 := k2) (nx := nx) (f := rootIs id) (v := ⟨ve, vτ, vl.take hh.toNat⟩) (a1 := { LV.obj s.heap.len id [] ⟨ve, vτ, vl⟩ with n := hh.toNat, ver := 0 + 1 }) hf hfro (fun i => ?_) rfl rfl rfl (by simp [hmin]) (fun r hr c hc => ?_) hold q1 q2 (by omega) q3 q4 (fun j p e _ e2 => by subst e2; simp [rootIs] at e) (fun j p hne => by simp only [rootIs, natBeq_ne hne, cond_false]) (fun j p u h => by unfold rootIs at h; cases hb : Nat.beq j id <;> rw [hb] at h <;> first | (cases h; done) | (injection h with h; exact h.symm)) d (fun _ => Wk.refl _)) (hK _ q5).out
        · show (bif Id.beq i ⟨id, []⟩ then _ else _) = _
          exact beq_if _ _ _ _
        · have hr : r < hh.toNat := hr
          have hc : c < vτ.sz := hc
          show Wk (cellV s.heap.len id [] r c (cellC vτ (LV.row ⟨ve, vτ, vl⟩ r) c)) (.t (encC vτ ((vl.take hh.toNat).getD r vτ.z) c))
          obtain ⟨u, e1, e2⟩ := cellC_enc vτ (vl.getD r vτ.z) c hfro
          have e3 : cellC vτ (LV.row ⟨ve, vτ, vl⟩ r) c = .ev u := e1
          have e4 : (vl.take hh.toNat).getD r vτ.z = vl.getD r vτ.z := by simp only [List.getD_eq_getElem?_getD, List.getElem?_take, if_pos hr]
          rw [e3, e4]
          exact Wk.of_eq (e2 hc _)
      cases hlo : Nat.ble s.heap.lo id with
      | true =>
        rw [hlo] at h
        exact main id s.heap.next (.inl rfl) (Nat.le_refl _) hlive (Nat.le_of_ble_eq_true hlo) h
      | false =>
        rw [hlo] at h
        simp only [cond_false] at h
        obtain ⟨hlo2, h⟩ := bif_none h
        rw [litO_eq] at h
        exact main s.heap.next (s.heap.next + 1) (.inr hunb) (by omega) (by omega) (Nat.le_of_ble_eq_true hlo2) h
    · cases h
  · cases h
end
end
end Go.Abs


set_option linter.unusedVariables false
set_option linter.unusedSimpArgs false
set_option linter.unusedSectionVars false
namespace Go.Abs
open Go
noncomputable section
variable {P : Program} {d : Option Tmp} {ty : TypeId} {L : List GOp} {ρ : Type}
section
variable [SU] [Codes] {Q : Exit → ESt → Prop}
def callB {α ρ : Type} (x : Option α) (K : α → Option ρ) : Option ρ := match x with
  | some y => K y
  | none => none
theorem callB_out {α : Type} {x : Option α} {K : α → Option ρ} {r : ρ} (h : callB x K = some r) : ∃ y, x = some y ∧ K y = some r := by
  cases x with
  | none => cases h
  | some y => exact ⟨y, rfl, h⟩
def ESt.sub (s : ESt) (g : EV → EV) (H : EHeap) : ESt := ⟨s.nt, fun t => g (s.env t), H⟩
structure Fit (c : Ctr P) where
  ks : List (Option Nat)
  x : DT c.ar
  y : DO c.os
def fitO (c : Ctr P) (s : ESt) (us : List EV) : Option (Fit c) :=
  let ks := ksOf (bindO s.heap c.os 0 (bindT (nthE us) c.ar [])) c.os 0
  bif nodK ks && (ltKs s.heap.next ks && (seqT 0 c.ar && (deadOk c.os c.ro && Nat.beq c.ar.length us.length))) then (match exT ks (nthE us) c.ar with
    | some x => match exOs ks s.heap c.os ks with
      | some y => some ⟨ks, x, y⟩
      | none => none
    | none => none) else none
theorem fitO_out {c : Ctr P} {s : ESt} {us : List EV} {z : Fit c} (h : fitO c s us = some z) : nodK z.ks = true ∧ ltKs s.heap.next z.ks = true ∧ seqT 0 c.ar = true ∧ deadOk c.os c.ro = true ∧ c.ar.length = us.length ∧ exT z.ks (nthE us) c.ar = some z.x ∧ exOs z.ks s.heap c.os z.ks = some z.y := by
  unfold fitO at h
  have hh := bif_none h
  clear h
  obtain ⟨hb, h⟩ := hh
  simp only [Bool.and_eq_true] at hb
  split at h
  · rename_i x hx
    split at h
    · rename_i y hy
      injection h with h
      subst h
      exact ⟨hb.1, hb.2.1, hb.2.2.1, hb.2.2.2.1, Nat.eq_of_beq_eq_true hb.2.2.2.2, hx, hy⟩
    · cases h
  · cases h
def callRun (c : Ctr P) (s : ESt) (z : Fit c) (d : Option Tmp) (K : ESt → Option ρ) : Option ρ :=
  callB (c.F z.x z.y) fun res => grd (lenOk s.heap (mkH c.os.length c.ro res.2) z.ks 0) (K ((s.sub (scrub (nestF z.ks)) (callH s.heap z.ks (mkH c.os.length c.ro res.2))).put d (renE (outK z.ks s.heap.next) (mkE c.rv res.1))))
def isNil {α : Type} : List α → Bool
  | [] => true
  | _ => false
def Ctr.quiet (c : Ctr P) : Bool := isNil c.os && isNil c.ro
theorem isNil_out {α : Type} {l : List α} (h : isNil l = true) : l = [] := by cases l <;> first | rfl | cases h
theorem VRel.of_none1 {H : Heap} {ι ι3 : Id → Option Nat} {F : Nat → Prop} {w : World} {u : V} {v : Value} (h : VRel Heap.none ι3 F w u v) : VRel H ι F w u v :=
  Ext.of (H := Heap.none) (ι := ι3) (fun _ h => h) (fun _ _ => rfl) (fun id => by unfold SlotOk Heap.none; trivial) u v h
structure ArgsOk (P : Program) (g : GOp) (f : FuncId) (us : List EV) (s : ESt) : Prop where
  out : ∀ E ι F a w, Rel E ι F (toSt s) a w → ∃ cargs, (execOp a.eval g.oper).run P w = .ok (.enter f cargs) w ∧ us.length = cargs.size ∧ ∀ j, j < cargs.size → VRel (toH s.heap) ι F w (toV s.heap.len (nthE us j)) (cargs.getD j undef)
theorem quiet_call {c : Ctr P} {s : ESt} {us : List EV} {z : Fit c} {g : GOp} (hq : c.quiet = true) (ha : ArgsOk P g c.f us s)
    (hz : fitO c s us = some z) {res : c.rv.D × DO c.ro} (hF : c.F z.x z.y = some res) : QO P g (toV s.heap.len (mkE c.rv res.1)) (toSt s) := fun E ι F a w r => by
  obtain ⟨cargs, h1, h2, h3⟩ := ha.out E ι F a w r
  obtain ⟨z1, z2, z3, z4, z5, z6, z7⟩ := fitO_out hz
  obtain ⟨ks, x, y⟩ := z
  obtain ⟨f, fnok, ar, os, rv, ro, cF, ok⟩ := c
  simp only [Ctr.quiet, Bool.and_eq_true] at hq
  simp only at x y hF z1 z2 z3 z4 z5 z6 z7 res ok h1 h2 ha ⊢
  obtain rfl := isNil_out hq.1
  obtain rfl := isNil_out hq.2
  simp only [Oper.wp, h1, Oper.upon]
  have pt : Part (toH s.heap) (toH (mkH 0 [] y)) (mK ks) := part_ok z7 z1
  have hR : Roots ks s.heap (mkH 0 [] y) (mK ks) := roots_ok z7
  have r2 := pt.rel r.h
  have hargs : ∀ j, j < (mkArgs ar x).length → VRel (toH (mkH 0 [] y)) (mι (mK ks) ι) F w (toV (mkH 0 [] y).len (nthE (mkArgs ar x) j)) (cargs.getD j undef) := fun j hj => by
    rw [mkArgs_len] at hj
    rw [seqT_env z3 j, Nat.zero_add]
    have := exT_ok (Z := fun _ => False) hR ar x z6 j _ _ _ _ _ r.h (h3 j (by omega))
    rw [FZ_none] at this
    exact this
  refine ((ok x y res hF).out _ _ _ _ cargs r2 (by rw [mkArgs_len]; omega) hargs).mono fun e w' ⟨v, ι3, F3, Hx, cv, k1, r3, hv, k4, k5⟩ => ?_
  subst k1
  subst k4
  subst k5
  refine ⟨cv, F3, rfl, ⟨r3.os, r3.tape, r3.output, r3.size, fun b hb => r3.kept b hb ?_, fun b hb => ?_, fun b hb => ?_, r3.frlt⟩, ?_⟩
  · rintro ⟨id, h, _⟩; exact h
  · have := r3.ext (.fp 0 (fun _ => .any)) (.pointer (some ⟨b, 0, none⟩)) ⟨b, 0, rfl, hb, fun j hj => absurd hj (Nat.not_lt_zero _)⟩
    obtain ⟨b', o', e1, e2, _⟩ := this
    injection e1 with e1; injection e1 with e1; injection e1 with e1
    subst e1; exact e2
  · rcases r3.frin b hb with h | ⟨id, h, _⟩ | h
    · exact .inl h
    · exact h.elim
    · exact .inr h
  · have hb : Born Heap.none (toV (mkH 0 [] res.2).len (mkE rv res.1)) := hv.born
    rw [toV_len (H := Heap.none) (len' := s.heap.len) (fun id p h => absurd rfl h) _ hb]
    exact VRel.of_none1 hv
def callO (s : ESt) (f : FuncId) (us : List EV) (d : Option Tmp) (K : ESt → Option ρ) : List (Ctr P) → Option ρ
  | [] => none
  | c :: T => bif Nat.beq c.f f then (match fitO c s us with
    | some z => bif c.quiet then callB (c.F z.x z.y) (fun res => K (s.put d (mkE c.rv res.1))) else callRun c s z d K
    | none => callO s f us d K T) else callO s f us d K T
theorem Rel.sub {E : Env} {ι ι' : Id → Option Nat} {F F' : Nat → Prop} {s : ESt} {a : Act} {w w' : World} (r : Rel E ι F (toSt s) a w) {H' : EHeap} {g : EV → EV} (hH : RelH E ι' F' (toH H') w')
    (he : ∀ u v, Born (toH s.heap) (toV s.heap.len u) → VRel (toH s.heap) ι F w (toV s.heap.len u) v → VRel (toH H') ι' F' w' (toV H'.len (g u)) v) (d : Option Tmp) {u : EV} {v : Value} (hv : VRel (toH H') ι' F' w' (toV H'.len u) v) :
    Rel E ι' F' (toSt ((s.sub g H').put d u)) (a.put d v) w' := by
  have r1 : Rel E ι' F' (toSt (s.sub g H')) a w' := ⟨hH, fun t => he _ _ (r.env t).born (r.env t), r.nt, r.defers⟩
  have := r1.put_same d hv
  rw [toSt_put]
  exact this
theorem callRun_ok {c : Ctr P} {s : ESt} {us : List EV} {z : Fit c} {g : GOp} {K : ESt → Option ρ} {res : ρ} (hg : g.g = none) (ha : ArgsOk P g c.f us s) (hz : fitO c s us = some z) (hK : ∀ s', K s' = some res → SLT P L Q s')
    (h : callRun c s z g.dst K = some res) : SLT P (g :: L) Q s := by
  obtain ⟨y, hF, h⟩ := callB_out h
  have hh := grd_out h
  clear h
  obtain ⟨hlen, h⟩ := hh
  obtain ⟨z1, z2, z3, z4, z5, z6, z7⟩ := fitO_out hz
  have hk := (hK _ h).out
  refine ⟨⟨fun E ι F a w r => ?_⟩⟩
  obtain ⟨cargs, h1, h2, h3⟩ := ha.out E ι F a w r
  have hw : g.wanted a.tmps = true := by unfold GOp.wanted; rw [hg]
  simp only [lwp, hw, if_true, Oper.wp, h1, Oper.upon]
  refine (call_rel r.h r.fair c z1 z2 z3 z4 z6 z7 hF hlen (by omega) h3).mono fun e w' ⟨cv, ι', F', k1, k2, k3, k4⟩ => ?_
  subst k1
  exact hk.out E ι' F' _ _ (r.sub k2 k3 g.dst k4)
theorem callO_ok {s : ESt} {f : FuncId} {us : List EV} {g : GOp} {K : ESt → Option ρ} {res : ρ} (hg : g.g = none) (ha : ArgsOk P g f us s) (hK : ∀ s', K s' = some res → SLT P L Q s') : ∀ {T : List (Ctr P)},
    callO s f us g.dst K T = some res → SLT P (g :: L) Q s
  | [], h => by cases h
  | c :: T, h => by
    unfold callO at h
    cases hb : Nat.beq c.f f with
    | false => rw [hb] at h; exact callO_ok hg ha hK (T := T) h
    | true =>
      rw [hb] at h
      obtain rfl := Nat.eq_of_beq_eq_true hb
      simp only [cond_true] at h
      split at h
      · rename_i z hz
        cases hq : c.quiet with
        | false => rw [hq] at h; exact callRun_ok hg ha hz hK h
        | true =>
          rw [hq] at h
          have hh := callB_out h
          clear h
          obtain ⟨y, hF, h⟩ := hh
          have q := quiet_call hq ha hz hF
          obtain ⟨gd, gop, gty, gg⟩ := g
          simp only at hg
          subst hg
          refine ⟨SL.q q ?_⟩
          have := (hK _ h).out
          rwa [toSt_put] at this
      · exact callO_ok hg ha hK (T := T) h
def memC (f : FuncId) : List (Ctr P) → Bool
  | [] => false
  | c :: T => Nat.beq c.f f || memC f T
theorem memC_out {f : FuncId} : ∀ {T : List (Ctr P)}, memC f T = true → FnOk P f
  | [], h => by cases h
  | c :: T, h => by
    simp only [memC, Bool.or_eq_true] at h
    rcases h with h | h
    · obtain rfl := Nat.eq_of_beq_eq_true h; exact c.fnok
    · exact memC_out h
theorem ESt.eval_rel {E : Env} {ι : Id → Option Nat} {F : Nat → Prop} {s : ESt} {a : Act} {w : World} (r : Rel E ι F (toSt s) a w) (x : Operand) : VRel (toH s.heap) ι F w (toV s.heap.len (s.eval x)) (a.eval x) :=
  s.eval_wk x _ _ _ _ _ (r.eval x)
theorem nthE_map {α : Type} (f : α → EV) : ∀ (l : List α) (j : Nat) (h : j < l.length), nthE (l.map f) j = f l[j]
  | [], _, h => absurd h (Nat.not_lt_zero _)
  | a :: l, 0, _ => rfl
  | a :: l, j + 1, h => by simp only [List.map_cons, nthE, List.getElem_cons_succ]; exact nthE_map f l j (by simpa using h)
theorem nthE_app : ∀ (l m : List EV) (j : Nat), nthE (l ++ m) j = if j < l.length then nthE l j else nthE m (j - l.length)
  | [], m, j => by simp
  | a :: l, m, 0 => by simp [nthE]
  | a :: l, m, j + 1 => by
    simp only [List.cons_append, nthE, nthE_app l m j, List.length_cons, Nat.add_lt_add_iff_right]
    split <;> simp
theorem args_fn {s : ESt} {f : FuncId} [FnOk P f] {args : Array Operand} {ats : Array TypeId} : ArgsOk P ⟨d, .call { callee := .value (.func f), args := args, argTypes := ats }, ty, none⟩ f (args.toList.map s.eval) s :=
  ⟨fun E ι F a w r => ⟨args.map a.eval, by simp [execOp, GOp.oper, resolve, Deferred.ofValue, invoke, Act.eval, callFunc_run], by simp, fun j hj => by
    have hj' : j < args.size := by simpa using hj
    have e2 : (args.map a.eval).getD j undef = a.eval args[j] := by simp [Array.getD, hj']
    rw [e2, nthE_map _ _ _ (by simpa using hj')]
    exact ESt.eval_rel r _⟩⟩
theorem args_val {s : ESt} {f : FuncId} [FnOk P f] {x : Operand} {l : List EV} {args : Array Operand} {ats : Array TypeId} (hx : s.eval x = .fn f l) :
    ArgsOk P ⟨d, .call { callee := .value x, args := args, argTypes := ats }, ty, none⟩ f (args.toList.map s.eval ++ l) s :=
  ⟨fun E ι F a w r => by
    have hr := ESt.eval_rel r x
    rw [hx] at hr
    simp only [toV] at hr
    obtain ⟨cs, h1, h2, h3⟩ := hr
    refine ⟨args.map a.eval ++ cs, by simp [execOp, GOp.oper, resolve, h1, Deferred.ofValue, invoke, callFunc_run], by simp [h2], fun j hj => ?_⟩
    rw [nthE_app]
    simp only [List.length_map, Array.length_toList]
    by_cases hj' : j < args.size
    · rw [if_pos hj']
      have e2 : (args.map a.eval ++ cs).getD j undef = a.eval args[j] := by
        rw [Array.getD_eq_getD_getElem?, Array.getElem?_append_left (by simpa using hj')]; simp [hj']
      rw [e2, nthE_map _ _ _ (by simpa using hj')]
      exact ESt.eval_rel r _
    · rw [if_neg hj']
      have hjn : j - args.size < l.length := by simp at hj; omega
      obtain ⟨c, g1, g2⟩ := h3 (j - args.size) hjn
      have e2 : (args.map a.eval ++ cs).getD j undef = c := by
        rw [Array.getD_eq_getD_getElem?, Array.getElem?_append_right (by simpa using Nat.le_of_not_lt hj')]; simp [g1]
      rw [e2, nthE_eq]
      exact g2⟩
mutual
def borrow (H : EHeap) : EV → EV
  | .sfull k p => match H.at k p with
    | some v => bif froT v.τ then .fz v.τ v.l else .un
    | none => .un
  | .b x => .b x
  | .i k n => .i k n
  | .s x => .s x
  | .fz τ l => .fz τ l
  | .fp τ x c => .fp τ x c
  | .st i x => .st i x
  | .nils => .nils
  | .nilp => .nilp
  | .nilm => .nilm
  | .nilf => .nilf
  | .nili => .nili
  | .agg l => .agg (borrows H l)
  | .un => .un
  | .und => .un
  | .ptr _ _ _ _ => .un
  | .sref _ _ _ _ => .un
  | .mref _ => .un
  | .tup _ => .un
  | .fn _ _ => .un
def borrows (H : EHeap) : List EV → List EV
  | [] => []
  | a :: l => borrow H a :: borrows H l
end
theorem borrows_len (H : EHeap) : ∀ l : List EV, (borrows H l).length = l.length
  | [] => rfl
  | a :: l => by simp [borrows, borrows_len H l]
theorem FrzB.un {H : Heap} (u : V) : FrzB H u .un := fun E ι F w c r h => trivial
mutual
theorem borrow_ok (H : EHeap) (len0 : Len) : ∀ u : EV, FrzB (toH H) (toV H.len u) (toV len0 (borrow H u))
  | .sfull k p => by
    simp only [borrow]
    cases hv : H.at k p with
    | none => simp only [toV]; exact FrzB.un _
    | some v =>
      cases hf : froT v.τ with
      | false => simp only [hf, cond_false, toV]; exact FrzB.un _
      | true =>
        simp only [hf, cond_true, toV, EHeap.len_at hv, encL]
        refine FrzB.sref (slot_lst hv) rfl rfl fun i hi j hj => ?_
        show FrzB _ (cellV H.len k p (i + 0) j (cellC v.τ (v.row (i + 0)) j)) _
        obtain ⟨u, e1, e2⟩ := cellC_enc v.τ (v.row (i + 0)) j hf
        rw [e1]
        show FrzB _ (toV H.len u) _
        rw [e2 hj]
        exact FrzB.of (Frz.t _)
  | .b x => by simp only [borrow, toV]; exact FrzB.of (Frz.t _)
  | .i k n => by simp only [borrow, toV]; exact FrzB.of (Frz.t _)
  | .s x => by simp only [borrow, toV]; exact FrzB.of (Frz.t _)
  | .fz τ l => by simp only [borrow, toV]; exact FrzB.of (Frz.t _)
  | .fp τ x c => by simp only [borrow, toV]; exact FrzB.of (Frz.fp _ _)
  | .st i x => by simp only [borrow, toV]; exact FrzB.agg fun j hj => FrzB.of (Frz.t _)
  | .nils => by simp only [borrow, toV]; exact fun E ι F w c r h => h
  | .nilp => by simp only [borrow, toV]; exact fun E ι F w c r h => h
  | .nilm => by simp only [borrow, toV]; exact fun E ι F w c r h => h
  | .nilf => by simp only [borrow, toV]; exact fun E ι F w c r h => h
  | .nili => by simp only [borrow, toV]; exact FrzB.of (Frz.t _)
  | .agg l => by simp only [borrow, toV, borrows_len]; exact FrzB.agg fun j hj => borrows_ok H len0 l j
  | .un => by simp only [borrow, toV]; exact FrzB.un _
  | .und => by simp only [borrow, toV]; exact FrzB.un _
  | .ptr _ _ _ _ => by simp only [borrow, toV]; exact FrzB.un _
  | .sref _ _ _ _ => by simp only [borrow, toV]; exact FrzB.un _
  | .mref _ => by simp only [borrow, toV]; exact FrzB.un _
  | .tup _ => by simp only [borrow, toV]; exact FrzB.un _
  | .fn _ _ => by simp only [borrow, toV]; exact FrzB.un _
theorem borrows_ok (H : EHeap) (len0 : Len) : ∀ (l : List EV) (j : Nat), FrzB (toH H) (toVs H.len l j) (toVs len0 (borrows H l) j)
  | [], j => by simp only [borrows, toVs]; exact FrzB.un _
  | a :: l, 0 => by simp only [borrows, toVs]; exact borrow_ok H len0 a
  | a :: l, j + 1 => by simp only [borrows, toVs]; exact borrows_ok H len0 l j
end
def scalS : Sh → Bool
  | .b => true
  | .i _ => true
  | .s => true
  | .nili => true
  | .tup [.b] => true
  | .tup [.i _, .b] => true
  | .tup [.i _, .i _] => true
  | _ => false
theorem scalS_ok {len : Len} : ∀ {a : Sh} (x : a.D), scalS a = true → Scal (toV len (mkE a x))
  | .b, x, _ => by simp only [mkE, toV]; exact Scal.bool _
  | .i _, x, _ => by simp only [mkE, toV]; exact Scal.int _ _
  | .s, x, _ => by simp only [mkE, toV]; exact Scal.str _
  | .nili, x, _ => by simp only [mkE, toV]; exact Scal.nilI
  | .tup [.b], x, _ => by
    simp only [mkE, mkEs, toV]
    refine Scal.tup fun j hj => ?_
    match j, hj with
    | 0, _ => simp only [toVs, toV]; exact Scal.bool _
  | .tup [.i _, .b], x, _ => by
    simp only [mkE, mkEs, toV]
    refine Scal.tup fun j hj => ?_
    match j, hj with
    | 0, _ => simp only [toVs, toV]; exact Scal.int _ _
    | 1, _ => simp only [toVs, toV]; exact Scal.bool _
  | .tup [.i _, .i _], x, _ => by
    simp only [mkE, mkEs, toV]
    refine Scal.tup fun j hj => ?_
    match j, hj with
    | 0, _ => simp only [toVs, toV]; exact Scal.int _ _
    | 1, _ => simp only [toVs, toV]; exact Scal.int _ _
def noS (us : List EV) : ESt := ⟨0, nthE us, mkH 0 [] ()⟩
theorem Ctr.pc {c : Ctr P} {us : List EV} {z : Fit c} (hq : c.quiet = true) (hz : fitO c (noS us) us = some z) {res : c.rv.D × DO c.ro} (hF : c.F z.x z.y = some res) :
    PC P c.f (us.map (toV (mkH 0 [] ()).len)) (toV (mkH 0 [] ()).len (mkE c.rv res.1)) := ⟨fun F w cargs hlt hl ha => by
  obtain ⟨z1, z2, z3, z4, z5, z6, z7⟩ := fitO_out hz
  obtain ⟨ks, x, y⟩ := z
  obtain ⟨f, fnok, ar, os, rv, ro, cF, ok⟩ := c
  simp only [Ctr.quiet, Bool.and_eq_true] at hq
  simp only at x y hF z1 z2 z3 z4 z5 z6 z7 res ok ⊢
  obtain rfl := isNil_out hq.1
  obtain rfl := isNil_out hq.2
  have r0 : RelH ⟨w, fun _ => False, Heap.none, noι, F⟩ noι F (toH (noS us).heap) w := RelH.start hlt
  have pt : Part (toH (noS us).heap) (toH (mkH 0 [] y)) (mK ks) := part_ok z7 z1
  have hR : Roots ks (noS us).heap (mkH 0 [] y) (mK ks) := roots_ok z7
  have r2 := pt.rel r0
  rw [List.length_map] at hl
  have hargs : ∀ j, j < (mkArgs ar x).length → VRel (toH (mkH 0 [] y)) (mι (mK ks) noι) F w (toV (mkH 0 [] y).len (nthE (mkArgs ar x) j)) (cargs.getD j undef) := fun j hj => by
    rw [mkArgs_len] at hj
    rw [seqT_env z3 j, Nat.zero_add]
    have h3 : VRel (toH (noS us).heap) noι F w (toV (noS us).heap.len (nthE us j)) (cargs.getD j undef) := by
      have := ha j (by rw [List.length_map]; omega)
      rw [List.getD_eq_getElem?_getD, List.getElem?_map] at this
      rw [nthE_eq, toVs_eq, List.getD_eq_getElem?_getD]
      cases hu : us[j]? with
      | none => rw [hu] at this; simp only [Option.getD_none, toV]; exact trivial
      | some u => rw [hu] at this; exact this
    have := exT_ok (Z := fun _ => False) hR ar x z6 j _ _ _ _ _ r0 h3
    rw [FZ_none] at this
    exact this
  refine ((ok x y res hF).out _ _ _ _ cargs r2 (by rw [mkArgs_len]; omega) hargs).mono fun e w' ⟨v, ι3, F3, Hx, cv, k1, r3, hv, k4, k5⟩ => ?_
  subst k1
  subst k4
  subst k5
  refine ⟨cv, F3, rfl, r3.os, r3.tape, r3.output, r3.size, fun b hb => r3.kept b hb ?_, fun b hb => ?_, fun b hb => ?_, r3.frlt, VRel.of_none1 hv⟩
  · rintro ⟨id, h, _⟩; exact h
  · have := r3.ext (.fp 0 (fun _ => .any)) (.pointer (some ⟨b, 0, none⟩)) ⟨b, 0, rfl, hb, fun j hj => absurd hj (Nat.not_lt_zero _)⟩
    obtain ⟨b', o', e1, e2, _⟩ := this
    injection e1 with e1; injection e1 with e1; injection e1 with e1
    subst e1; exact e2
  · rcases r3.frin b hb with h | ⟨id, h, _⟩ | h
    · exact .inl h
    · exact h.elim
    · exact .inr h⟩
theorem lend_args {s : ESt} (len0 : Len) : ∀ l : List Operand, All2 (FrzB (toSt s).heap) (l.map (toSt s).eval) ((borrows s.heap (l.map s.eval)).map (toV len0))
  | [] => .nil
  | x :: l => .cons (fun E ι F w c r h => borrow_ok s.heap len0 (s.eval x) E ι F w c r (s.eval_wk x _ _ _ _ _ h)) (lend_args len0 l)
theorem lend_call {c : Ctr P} {s : ESt} {args : Array Operand} {ats : Array TypeId} {z : Fit c} (hq : c.quiet = true) (hs : scalS c.rv = true) (hz : fitO c (noS (borrows s.heap (args.toList.map s.eval))) (borrows s.heap (args.toList.map s.eval)) = some z)
    {res : c.rv.D × DO c.ro} (hF : c.F z.x z.y = some res) : QO P ⟨d, .call { callee := .value (.func c.f), args := args, argTypes := ats }, ty, none⟩ (toV s.heap.len (mkE c.rv res.1)) (toSt s) := by
  have := c.fnok
  have h1 := QO.callB (d := d) (ty := ty) (ats := ats) (c.pc hq hz hF) (lend_args _ _) (scalS_ok res.1 hs)
  have e : toV s.heap.len (mkE c.rv res.1) = toV (mkH 0 [] ()).len (mkE c.rv res.1) := by
    have key : ∀ {a : Sh} (x : a.D) (len len' : Len), scalS a = true → toV len (mkE a x) = toV len' (mkE a x) := fun {a} x len len' h => by
      unfold scalS at h
      split at h <;> first | (simp only [mkE, toV]; done) | (simp only [mkE, mkEs, toV]; congr 1; funext j; match j with
        | 0 => simp only [toVs, toV]
        | 1 => simp only [toVs, toV]
        | n + 2 => simp only [toVs, toV]) | cases h
    exact key _ _ _ hs
  rw [e]
  exact h1
structure Opt where
  wr : Bool := false
  tr : Bool := false
  fr : Bool := false
  tk : Bool := false
def isPureX : Op → Bool
  | .makeFunc _ _ _ => true
  | .build _ _ => true
  | .lookup _ _ _ _ => true
  | .slice _ _ _ _ _ => true
  | op => isPureOp op
def runOw (P : Program) [Tys P] [TyX P] (wr : Bool) (ev : Operand → EV) (H : EHeap) (op : Op) (K : EV → Option ρ) : Option ρ := bif wr then (match op with
  | .binOp o tx x y tY => match o, ev x, ev y with
    | .add, .i k m, .i k' n => bif kindEq k k' then K (.i k (k.wrap (m + n))) else none
    | .sub, .i k m, .i k' n => bif kindEq k k' then K (.i k (k.wrap (m - n))) else none
    | .mul, .i k m, .i k' n => bif kindEq k k' then K (.i k (k.wrap (m * n))) else none
    | _, _, _ => runX P ev H (.binOp o tx x y tY) K
  | op => runX P ev H op K) else runX P ev H op K
theorem runOw_ok [T : Tys P] [TyX P] {wr : Bool} {s : ESt} {op : Op} {K : EV → Option ρ} {res : ρ} (h : runOw P wr s.eval s.heap op K = some res) : ∃ u, (∀ d ty, QV P ⟨d, op, ty, none⟩ (toV s.heap.len u) (toSt s)) ∧ K u = some res := by
  unfold runOw at h
  cases wr with
  | false => exact runX_ok h
  | true =>
    simp only [cond_true] at h
    split at h
    · rename_i o tx x y tY
      split at h
      all_goals first
        | exact runX_ok h
        | (rename_i k m k' n hx hy
           have hx := eval_eq hx rfl
           have hy := eval_eq hy rfl
           simp only [toV] at hx hy
           have hh := bif_none h
           clear h
           obtain ⟨hk, h⟩ := hh
           have := kindEq_eq hk
           subst this
           first
             | exact ⟨_, fun d ty => (by simp only [toV]; exact O.add hx hy rfl), h⟩
             | exact ⟨_, fun d ty => (by simp only [toV]; exact O.sub hx hy rfl), h⟩
             | exact ⟨_, fun d ty => (by simp only [toV]; exact O.mul hx hy rfl), h⟩)
    · exact runX_ok h
def rootsAll : List EV → List Nat
  | [] => []
  | u :: l => rootsOf u ++ rootsAll l
def lendO (s : ESt) (f : FuncId) (us : List EV) (d : Option Tmp) (K : ESt → Option ρ) : List (Ctr P) → Option ρ
  | [] => none
  | c :: T => bif Nat.beq c.f f && (c.quiet && scalS c.rv) then (match fitO c (noS (borrows s.heap us)) (borrows s.heap us) with
    | some z => callB (c.F z.x z.y) fun res => K (s.put d (mkE c.rv res.1))
    | none => lendO s f us d K T) else lendO s f us d K T
def callFits (s : ESt) (f : FuncId) (us : List EV) : List (Ctr P) → Bool
  | [] => false
  | c :: T => (Nat.beq c.f f && (fitO c s us).isSome) || callFits s f us T
def lendFits (s : ESt) (f : FuncId) (us : List EV) : List (Ctr P) → Bool
  | [] => false
  | c :: T => (Nat.beq c.f f && (c.quiet && (scalS c.rv && (fitO c (noS (borrows s.heap us)) (borrows s.heap us)).isSome))) || lendFits s f us T
def callT (T : List (Ctr P)) (s : ESt) (f : FuncId) (args : List Operand) (d : Option Tmp) (K : ESt → Option ρ) : Option ρ :=
  bif memC f T then (match callFits s f (args.map s.eval) T with
    | true => callO s f (args.map s.eval) d K T
    | false => match lendFits s f (args.map s.eval) T with
      | true => lendO s f (args.map s.eval) d K T
      | false => frzAll s (fun s' => callO s' f (args.map s'.eval) d K T) (rootsAll (args.map s.eval))) else none
def runStep1 (wr : Opt) (T : List (Ctr P)) [Tys P] [TyE P] [TyX P] (s : ESt) (d : Option Tmp) (op : Op) (K : ESt → Option ρ) : Option ρ :=
  bif isPureX op then runOw P wr.wr s.eval s.heap op (fun u => K (s.put d u)) else
  match op with
  | .box e x => boxO e (TyE.c P e) (s.eval x) (newO s d (fun id => .ptr id [] 0 0) K)
  | .alloc e => allocO P e (newO s d (fun id => .ptr id [] 0 0) K)
  | .store t x y => storeO P s d t x y K
  | .buildSlice t n A => frzAll s (fun s' => buildO P s' t n A (newO s' d (fun id => .sfull id []) K)) (rootsAll (A.toList.map fun a => s.eval a.2))
  | .makeMap t r => match r with
    | none => makeMapO P t (fun o => litO s.heap.next fun id => K ((s.on (s.heap.add id o)).put d (.mref id)))
    | some _ => none
  | .mapUpdate t x y z => updO P s d t x y z K
  | .makeSlice t x y => makeO P s t x y (newO s d (fun id => .sfull id []) K)
  | .call c => match c.callee with
    | .value (.func f) => forceO s c.args.toList fun us => callT T s f c.args.toList d K
    | .value (.tmp x) => match s.env x with
      | .fn f l => forceO s c.args.toList fun us => bif memC f T then callO s f (us ++ l) d K T else none
      | _ => none
    | .builtin .append => match c.args.toList, c.argTypes.toList with
      | [x, y], [t, t'] => bif Nat.beq t t' then appO P s d t x y K else none
      | _, _ => none
    | _ => none
  | _ => none
def runStep (wr : Opt) (T : List (Ctr P)) [Tys P] [TyE P] [TyX P] (s : ESt) (d : Option Tmp) (op : Op) (K : ESt → Option ρ) : Option ρ := match op with
  | .slice t x none (some y) none => bif wr.tr then truncO P s d t x y K else runStep1 wr T s d (.slice t x none (some y) none) K
  | .convert src dst x => match (Tys.c P dst).sl with
    | some _ => bytesO P s d src dst x K
    | none => runStep1 wr T s d (.convert src dst x) K
  | .binOp o t x y tY => match nilQ s o x y with
    | some (neg, emp) => bif isSlTy P t then nilK s d neg emp K else none
    | none => runStep1 wr T s d (.binOp o t x y tY) K
  | op => runStep1 wr T s d op K
theorem lendO_ok {s : ESt} {f : FuncId} {args : Array Operand} {ats : Array TypeId} {K : ESt → Option ρ} {res : ρ} (hK : ∀ s', K s' = some res → SLT P L Q s') : ∀ {T : List (Ctr P)},
    lendO s f (args.toList.map s.eval) d K T = some res → SLT P (⟨d, .call { callee := .value (.func f), args := args, argTypes := ats }, ty, none⟩ :: L) Q s
  | [], h => by cases h
  | c :: T, h => by
    unfold lendO at h
    cases hb : Nat.beq c.f f && (c.quiet && scalS c.rv) with
    | false => rw [hb] at h; exact lendO_ok hK (T := T) h
    | true =>
      rw [hb] at h
      simp only [Bool.and_eq_true] at hb
      obtain ⟨hb, hq, hs⟩ := hb
      obtain rfl := Nat.eq_of_beq_eq_true hb
      simp only [cond_true] at h
      split at h
      · rename_i z hz
        have hh := callB_out h
        clear h
        obtain ⟨y, hF, h⟩ := hh
        refine ⟨SL.q (lend_call (d := d) (ty := ty) (ats := ats) hq hs hz hF) ?_⟩
        have := (hK _ h).out
        rwa [toSt_put] at this
      · exact lendO_ok hK (T := T) h
theorem callT_ok {T : List (Ctr P)} {s : ESt} {f : FuncId} {args : Array Operand} {ats : Array TypeId} {K : ESt → Option ρ} {res : ρ} (hK : ∀ s', K s' = some res → SLT P L Q s')
    (h : callT T s f args.toList d K = some res) : SLT P (⟨d, .call { callee := .value (.func f), args := args, argTypes := ats }, ty, none⟩ :: L) Q s := by
  unfold callT at h
  have hh := bif_none h
  clear h
  obtain ⟨hm, h⟩ := hh
  have := memC_out hm
  split at h
  · exact callO_ok (g := ⟨d, _, ty, none⟩) rfl args_fn hK h
  · split at h
    · exact lendO_ok hK h
    · obtain ⟨s', w, h⟩ := frzAll_out _ _ h
      exact SLT.weak w (callO_ok (g := ⟨d, _, ty, none⟩) rfl args_fn hK h)
theorem runStep1_ok {wr : Opt} {T : List (Ctr P)} [Tys P] [TyE P] [TyX P] {s : ESt} {op : Op} {K : ESt → Option ρ} {res : ρ} (hK : ∀ s', K s' = some res → SLT P L Q s') (h : runStep1 wr T s d op K = some res) : SLT P (⟨d, op, ty, none⟩ :: L) Q s := by
  unfold runStep1 at h
  cases hp : isPureX op with
  | true =>
    rw [hp] at h
    simp only [cond_true] at h
    obtain ⟨u, h1, h2⟩ := runOw_ok h
    refine ⟨SL.o (h1 d ty) ?_⟩
    have := (hK _ h2).out
    rwa [toSt_put] at this
  | false =>
    rw [hp] at h
    simp only [cond_false] at h
    split at h
    · exact boxO_ok hK h
    · exact allocO_ok hK h
    · exact storeO_ok hK h
    · obtain ⟨s', w, h⟩ := frzAll_out _ _ h
      exact SLT.weak w (buildO_ok hK h)
    · split at h
      · exact makeMapO_ok hK h
      · cases h
    · exact updO_ok hK h
    · exact makeO_ok hK h
    · rename_i c
      obtain ⟨callee, args, ats⟩ := c
      split at h
      · rename_i f hc
        simp only at hc
        subst hc
        rw [forceO_eq] at h
        exact callT_ok hK h
      · rename_i x hc
        simp only at hc
        subst hc
        split at h
        · rename_i f l hx
          rw [forceO_eq] at h
          have hh := bif_none h
          clear h
          obtain ⟨hm, h⟩ := hh
          have := memC_out hm
          exact callO_ok (g := ⟨d, _, ty, none⟩) rfl (args_val (x := .tmp x) hx) hK h
        · cases h
      · rename_i hc
        simp only at hc
        subst hc
        split at h
        · rename_i x y t t' ha ht
          simp only at ha ht
          have hh := bif_none h
          clear h
          obtain ⟨hb, h⟩ := hh
          obtain rfl := Nat.eq_of_beq_eq_true hb
          obtain ⟨al⟩ := args
          obtain ⟨tl⟩ := ats
          simp only at ha ht
          subst ha
          subst ht
          exact appO_ok hK h
        · cases h
      · cases h
    · cases h
theorem runStep_ok {wr : Opt} {T : List (Ctr P)} [Tys P] [TyE P] [TyX P] {s : ESt} {op : Op} {K : ESt → Option ρ} {res : ρ} (hK : ∀ s', K s' = some res → SLT P L Q s') (h : runStep wr T s d op K = some res) : SLT P (⟨d, op, ty, none⟩ :: L) Q s := by
  unfold runStep at h
  split at h
  · rename_i t x y
    cases ht : wr.tr with
    | true => rw [ht] at h; exact truncO_ok hK h
    | false => rw [ht] at h; exact runStep1_ok (T := T) hK h
  · split at h
    · exact bytesO_ok hK h
    · exact runStep1_ok (T := T) hK h
  · split at h
    · rename_i hq
      have hh := bif_none h
      clear h
      obtain ⟨hb, h⟩ := hh
      exact nilK_ok hK hq hb h
    · exact runStep1_ok (T := T) hK h
  · exact runStep1_ok (T := T) hK h
def runL (wr : Opt) (T : List (Ctr P)) [Tys P] [TyE P] [TyX P] (K : ESt → Option ρ) : List GOp → ESt → Option ρ
  | [], s => K s
  | ⟨d, op, ty, none⟩ :: L, s => runStep wr T s d op (runL wr T K L)
  | ⟨d, op, ty, some (some t, w)⟩ :: L, s => match s.env t with
    | .und => runL wr T K L (s.put d .und)
    | .b b => bif Nat.blt t s.nt then
        (bif w then (bif b then runStep wr T (s.put (some t) (.b true)) d op (runL wr T K L) else runL wr T K L ((s.put (some t) (.b false)).put d .und))
         else (bif b then runL wr T K L ((s.put (some t) (.b true)).put d .und) else runStep wr T (s.put (some t) (.b false)) d op (runL wr T K L))) else none
    | _ => none
  | ⟨_, _, _, some (none, _)⟩ :: _, _ => none
theorem envT {s : ESt} {t : Nat} {u : EV} (h : s.env t = u) : (toSt s).env t = toV s.heap.len u := by subst h; rfl
theorem bifs {b : Bool} {x y : Option ρ} {r : ρ} (h : (bif b then x else y) = some r) : (b = true → x = some r) ∧ (b = false → y = some r) := by
  cases b
  · exact ⟨fun e => (by cases e), fun _ => h⟩
  · exact ⟨fun _ => h, fun e => (by cases e)⟩
theorem runL_ok {wr : Opt} {T : List (Ctr P)} [Tys P] [TyE P] [TyX P] {K : ESt → Option ρ} {res : ρ} (hK : ∀ s', K s' = some res → Q .normal s') : ∀ (L : List GOp) (s : ESt), runL wr T K L s = some res → SLT P L Q s
  | [], s, h => ⟨SL.nil ⟨s, rfl, hK _ h⟩⟩
  | ⟨d, op, ty, none⟩ :: L, s, h => runStep_ok (runL_ok hK L) h
  | ⟨d, op, ty, some (some t, w)⟩ :: L, s, h => by
    unfold runL at h
    split at h
    · rename_i hu
      have hu := envT hu
      simp only [toV] at hu
      refine ⟨SL.gu hu ?_⟩
      have := (runL_ok hK L _ h).out
      rwa [toSt_put] at this
    · rename_i b hb
      have hb := envT hb
      simp only [toV] at hb
      have hh := bif_none h
      clear h
      obtain ⟨hlt, h⟩ := hh
      have hlt' : Nat.blt t (toSt s).nt = true := hlt
      cases w with
      | true =>
        simp only [cond_true] at h
        obtain ⟨h1, h2⟩ := bifs h
        refine ⟨SL.splitG (w := true) rfl hb hlt' (fun e => ?_) (fun e => ?_)⟩
        · have := (runStep_ok (ty := ty) (runL_ok hK L) (h1 e)).out
          rw [toSt_put] at this
          exact SL.gy (by rw [put_env_eq, hlt']; rfl) hlt' this
        · have := (runL_ok hK L _ (h2 e)).out
          rw [toSt_put, toSt_put] at this
          exact SL.gn (by rw [put_env_eq, hlt']; rfl) hlt' this
      | false =>
        simp only [cond_false] at h
        obtain ⟨h1, h2⟩ := bifs h
        refine ⟨SL.splitG (w := false) rfl hb hlt' (fun e => ?_) (fun e => ?_)⟩
        · have := (runL_ok hK L _ (h1 e)).out
          rw [toSt_put, toSt_put] at this
          exact SL.gn (by rw [put_env_eq, hlt']; rfl) hlt' this
        · have := (runStep_ok (ty := ty) (runL_ok hK L) (h2 e)).out
          rw [toSt_put] at this
          exact SL.gy (by rw [put_env_eq, hlt']; rfl) hlt' this
    · cases h
  | ⟨_, _, _, some (none, _)⟩ :: _, _, h => by cases h
end
end
end Go.Abs


set_option linter.unusedVariables false
set_option linter.unusedSimpArgs false
set_option linter.unusedSectionVars false
namespace Go.Abs
open Go
variable {P : Program} {Q : Exit → St → Prop} {st : St}
def freeD (A : Array Oper) (D : List Nat) (i : Nat) : Bool :=
  match A[i]? with
  | none => false
  | some oi => (List.range A.size).all fun j => Nat.beq j i || D.contains j || match A[j]? with
      | some oj => (edges A j).contains i || oi.apart A oj
      | none => true
def chkF (A : Array Oper) (D : List Nat) (i : Nat) : Bool :=
  Nat.blt i A.size && !D.contains i && ((edges A i).all fun x => D.contains x) && Region.noSelect A && freeD A D i
theorem exec_move (o : Oper) (x : Operand) (h : o.op = .move x) (ρ : Operand → Value) (w : World) : (execOp ρ o).run P w = .ok (.value (ρ x)) w := by
  simp [execOp, h]
theorem AnyL.float {A : Array Oper} {D : List Nat} (i : Nat) {x : Operand} {u : V} (hg : (opAt A i).g = none) (hx : (opAt A i).op = .move x) (hc : chkF A D i = true)
    (hq : ∀ d ty, QV P ⟨d, .move x, ty, none⟩ u st) (h : AnyL P A (D ++ [i]) Q (st.put (opAt A i).dst u)) : AnyL P A D Q st := by
  simp only [chkF, Bool.and_eq_true, List.all_eq_true, Bool.not_eq_true'] at hc
  obtain ⟨⟨⟨⟨c1, c2⟩, c3⟩, c4⟩, c5⟩ := hc
  have hlt : i < A.size := Nat.le_of_ble_eq_true c1
  have hiD : i ∉ D := fun hm => by rw [List.contains_iff_mem.2 hm] at c2; cases c2
  have hAi : A[i]? = some (A.getD i default) := by simp [Array.getD, hlt]
  refine ⟨fun E ι F a w fuel listed r hs hl hDn hDlt hfuel => ?_⟩
  have hh : Hears A listed D := ⟨hs, hl⟩
  have hrdy : i ∈ Region.ready .any A listed := hh.toReady hlt hiD (fun x hx => ⟨List.contains_iff_mem.1 (c3 x hx), hDlt x (List.contains_iff_mem.1 (c3 x hx))⟩)
  have hlen : D.length + 1 ≤ A.size := by
    have := nodup_len A.size (i :: D) (List.nodup_cons.2 ⟨hiD, hDn⟩) (fun k hk => by
      rcases List.mem_cons.1 hk with h | h
      · exact h ▸ hlt
      · exact hDlt k h)
    simpa using this
  obtain ⟨fuel, rfl⟩ : ∃ f, fuel = f + 1 := ⟨fuel - 1, by omega⟩
  have hdst : (A.getD i default).dst = (opAt A i).dst := rfl
  have hop : (A.getD i default).op = .move x := hx
  have hgd : (A.getD i default).guard = none := by
    have : gtmp A.toList (A.getD i default).guard = none := hg
    cases hgg : (A.getD i default).guard with
    | none => rfl
    | some jw => rw [hgg] at this; cases this
  have hset := hh.set i
  have hv : VRel st.heap ι F w u (a.eval x) := by
    obtain ⟨v, h1, h2⟩ := hq none 0 E ι F a w r
    rw [exec_move _ x rfl] at h1
    cases h1
    exact h2
  have h1 := h.out E ι F _ w fuel _ (r.put_same (opAt A i).dst hv) hset.1 hset.2 (List.nodup_append.2 ⟨hDn, by simp, fun x hx y hy exy => by
      have : y = i := by simpa using hy
      exact hiD (this ▸ exy ▸ hx)⟩) (fun k hk => by
        rcases List.mem_append.1 hk with h | h
        · exact hDlt k h
        · have : k = i := by simpa using h
          exact this ▸ hlt) (by simp; omega)
  rw [← hdst] at h1
  refine wpAny_first hAi (Region.noSelect_spec c4) (fun c a w hf => hf) fuel listed a w ?_ hrdy (.inl ⟨by unfold Region.wanted; rw [hgd], fun w => exec_move _ _ hop _ _⟩) h1
  intro j oj hj hji hun hno
  have hjlt : j < A.size := (Array.getElem?_eq_some_iff.1 hj).1
  simp only [freeD, hAi, List.all_eq_true, List.mem_range, Bool.or_eq_true] at c5
  rcases c5 j hjlt with (h | h) | h
  · exact absurd (Nat.eq_of_beq_eq_true h) hji
  · have := hl j hjlt
    rw [h, hun] at this
    cases this
  · rw [hj] at h
    simp only [Bool.or_eq_true] at h
    rcases h with h | h
    · refine absurd (List.contains_iff_mem.1 h) fun hm => ?_
      simp only [edges, hj, List.mem_map, List.mem_filter, Array.mem_toList_iff] at hm
      obtain ⟨e, ⟨he, hb⟩, hei⟩ := hm
      exact hno e he hb hei
    · exact h
end Go.Abs


set_option linter.unusedVariables false
set_option linter.unusedSimpArgs false
set_option linter.unusedSectionVars false
namespace Go.Abs
open Go
noncomputable section
variable {P : Program} {d : Option Tmp} {ty : TypeId} {L : List GOp} {ρ : Type}
theorem oper_conc {E : Env} {Q Q' : Exit → St → Prop} {o : Oper} {a : Act} {w : World} {K K' : Act → World → Prop} (h : ∀ a w, K a w → K' a w) (hk : o.wp P a w K (conc E Q)) : o.wp P a w K' (conc E Q') := by
  unfold Oper.wp at hk ⊢
  generalize (execOp a.eval o).run P w = res at hk ⊢
  cases res with
  | ok n w' =>
    cases n <;> simp only [Oper.upon] at hk ⊢ <;> first
      | exact h _ _ hk
      | exact Calls.mono hk (fun e w'' he => by cases e <;> first | exact h _ _ he | exact he.elim | (obtain ⟨a, w, he⟩ := he; exact he.elim))
      | exact Rows.mono hk (fun _ _ he => h _ _ he)
  | halt x w' => cases x <;> simp only [Oper.upon] at hk ⊢ <;> exact hk
theorem lwp_conc {E : Env} {Q Q' : Exit → St → Prop} (hq : ∀ e st, Q e st → Q' e st) : ∀ (L : List GOp) (a : Act) (w : World), lwp P L (conc E Q) a w → lwp P L (conc E Q') a w
  | [], a, w, h => by
    obtain ⟨ι, F, st, r, k⟩ := h
    exact ⟨ι, F, st, r, hq _ _ k⟩
  | g :: L, a, w, h => by
    simp only [lwp] at h ⊢
    split
    · rename_i hw
      rw [if_pos hw] at h
      exact oper_conc (lwp_conc hq L) h
    · rename_i hw
      rw [if_neg hw] at h
      exact lwp_conc hq L _ _ h
section
variable [SU] [Codes] {Q : Exit → ESt → Prop}
def ESt.only (s : ESt) (xs : List Tmp) : ESt := { s with env := fun t => bif memT xs t then s.env t else .un }
theorem toSt_only (s : ESt) (xs : List Tmp) : toSt (s.only xs) = (toSt s).only xs := by
  simp only [toSt, ESt.only, St.only]
  congr 1
  funext t
  cases memT xs t <;> simp [toV]
def callQ (s so : ESt) (f : FuncId) (us : List EV) (d : Option Tmp) (K : ESt → Option ρ) : List (Ctr P) → Option ρ
  | [] => none
  | c :: T => bif Nat.beq c.f f && c.quiet then (match fitO c so us with
    | some z => callB (c.F z.x z.y) fun res => K (s.put d (mkE c.rv res.1))
    | none => callQ s so f us d K T) else callQ s so f us d K T
def lendQ (s so : ESt) (f : FuncId) (us : List EV) (d : Option Tmp) (K : ESt → Option ρ) : List (Ctr P) → Option ρ
  | [] => none
  | c :: T => bif Nat.beq c.f f && (c.quiet && scalS c.rv) then (match fitO c (noS (borrows so.heap us)) (borrows so.heap us) with
    | some z => callB (c.F z.x z.y) fun res => K (s.put d (mkE c.rv res.1))
    | none => lendQ s so f us d K T) else lendQ s so f us d K T
def fitsQ (so : ESt) (f : FuncId) (us : List EV) : List (Ctr P) → Bool
  | [] => false
  | c :: T => (Nat.beq c.f f && (c.quiet && (fitO c so us).isSome)) || fitsQ so f us T
def runQS (wr : Opt) (T : List (Ctr P)) [Tys P] [TyX P] (s : ESt) (d : Option Tmp) (op : Op) (K : ESt → Option ρ) : Option ρ :=
  bif isPureX op then runOw P wr.wr (s.only (rds op)).eval s.heap op (fun u => K (s.put d u)) else
  match op with
  | .call c => match c.callee with
    | .value (.func f) => forceO (s.only (rds op)) c.args.toList fun us => match fitsQ (s.only (rds op)) f us T with
      | true => callQ s (s.only (rds op)) f us d K T
      | false => lendQ s (s.only (rds op)) f us d K T
    | _ => none
  | _ => none
variable {K0 : ESt → Prop}
theorem callQ_ok {s : ESt} {f : FuncId} {args : Array Operand} {ats : Array TypeId} {K : ESt → Option ρ} {res : ρ} (hK : ∀ s', K s' = some res → QST P K0 L s') : ∀ {T : List (Ctr P)},
    callQ s (s.only (rds (.call { callee := .value (.func f), args := args, argTypes := ats }))) f (args.toList.map (s.only (rds (.call { callee := .value (.func f), args := args, argTypes := ats }))).eval) d K T = some res →
    QST P K0 (⟨d, .call { callee := .value (.func f), args := args, argTypes := ats }, ty, none⟩ :: L) s
  | [], h => by cases h
  | c :: T, h => by
    unfold callQ at h
    cases hb : Nat.beq c.f f && c.quiet with
    | false => rw [hb] at h; exact callQ_ok hK (T := T) h
    | true =>
      rw [hb] at h
      simp only [Bool.and_eq_true] at hb
      obtain ⟨hb, hq⟩ := hb
      obtain rfl := Nat.eq_of_beq_eq_true hb
      simp only [cond_true] at h
      split at h
      · rename_i z hz
        have hh := callB_out h
        clear h
        obtain ⟨y, hF, h⟩ := hh
        have := c.fnok
        have q := quiet_call hq (args_fn (d := d) (ty := ty) (ats := ats)) hz hF
        rw [toSt_only] at q
        refine ⟨QS.q q ?_⟩
        have := (hK _ h).out
        rwa [toSt_put] at this
      · exact callQ_ok hK (T := T) h
theorem lendQ_ok {s : ESt} {f : FuncId} {args : Array Operand} {ats : Array TypeId} {K : ESt → Option ρ} {res : ρ} (hK : ∀ s', K s' = some res → QST P K0 L s') : ∀ {T : List (Ctr P)},
    lendQ s (s.only (rds (.call { callee := .value (.func f), args := args, argTypes := ats }))) f (args.toList.map (s.only (rds (.call { callee := .value (.func f), args := args, argTypes := ats }))).eval) d K T = some res →
    QST P K0 (⟨d, .call { callee := .value (.func f), args := args, argTypes := ats }, ty, none⟩ :: L) s
  | [], h => by cases h
  | c :: T, h => by
    unfold lendQ at h
    cases hb : Nat.beq c.f f && (c.quiet && scalS c.rv) with
    | false => rw [hb] at h; exact lendQ_ok hK (T := T) h
    | true =>
      rw [hb] at h
      simp only [Bool.and_eq_true] at hb
      obtain ⟨hb, hq, hs⟩ := hb
      obtain rfl := Nat.eq_of_beq_eq_true hb
      simp only [cond_true] at h
      split at h
      · rename_i z hz
        have hh := callB_out h
        clear h
        obtain ⟨y, hF, h⟩ := hh
        have q := lend_call (d := d) (ty := ty) (ats := ats) hq hs hz hF
        rw [toSt_only] at q
        refine ⟨QS.q q ?_⟩
        have := (hK _ h).out
        rwa [toSt_put] at this
      · exact lendQ_ok hK (T := T) h
theorem runQS_ok {wr : Opt} {T : List (Ctr P)} [Tys P] [TyX P] {s : ESt} {op : Op} {K : ESt → Option ρ} {res : ρ} (hK : ∀ s', K s' = some res → QST P K0 L s') (h : runQS wr T s d op K = some res) : QST P K0 (⟨d, op, ty, none⟩ :: L) s := by
  unfold runQS at h
  cases hp : isPureX op with
  | true =>
    rw [hp] at h
    simp only [cond_true] at h
    obtain ⟨u, h1, h2⟩ := runOw_ok (s := s.only (rds op)) h
    refine ⟨QS.o (u := toV s.heap.len u) (by rw [← toSt_only]; exact h1 d ty) ?_⟩
    have := (hK _ h2).out
    rwa [toSt_put] at this
  | false =>
    rw [hp] at h
    simp only [cond_false] at h
    split at h
    · rename_i c
      obtain ⟨callee, args, ats⟩ := c
      split at h
      · rename_i f hc
        simp only at hc
        subst hc
        rw [forceO_eq] at h
        split at h
        · exact callQ_ok hK h
        · exact lendQ_ok hK h
      · cases h
    · cases h
def runQ (wr : Opt) (T : List (Ctr P)) [Tys P] [TyX P] (K : ESt → Option ρ) : List GOp → ESt → Option ρ
  | [], s => K s
  | ⟨d, op, ty, none⟩ :: L, s => runQS wr T s d op (runQ wr T K L)
  | ⟨d, op, ty, some (some t, w)⟩ :: L, s => match s.env t with
    | .und => runQ wr T K L (s.put d .und)
    | .b b => bif Nat.blt t s.nt then
        (bif w then (bif b then runQS wr T (s.put (some t) (.b true)) d op (runQ wr T K L) else runQ wr T K L ((s.put (some t) (.b false)).put d .und))
         else (bif b then runQ wr T K L ((s.put (some t) (.b true)).put d .und) else runQS wr T (s.put (some t) (.b false)) d op (runQ wr T K L))) else none
    | _ => none
  | ⟨_, _, _, some (none, _)⟩ :: _, _ => none
theorem runQ_ok {wr : Opt} {T : List (Ctr P)} [Tys P] [TyX P] {K : ESt → Option ρ} {res : ρ} (hK : ∀ s', K s' = some res → K0 s') : ∀ (L : List GOp) (s : ESt), runQ wr T K L s = some res → QST P K0 L s
  | [], s, h => ⟨QS.nil ⟨s, rfl, hK _ h⟩⟩
  | ⟨d, op, ty, none⟩ :: L, s, h => runQS_ok (runQ_ok hK L) h
  | ⟨d, op, ty, some (some t, w)⟩ :: L, s, h => by
    unfold runQ at h
    split at h
    · rename_i hu
      have hu := envT hu
      simp only [toV] at hu
      refine ⟨QS.gu hu ?_⟩
      have := (runQ_ok hK L _ h).out
      rwa [toSt_put] at this
    · rename_i b hb
      have hb := envT hb
      simp only [toV] at hb
      have hh := bif_none h
      clear h
      obtain ⟨hlt, h⟩ := hh
      have hlt' : Nat.blt t (toSt s).nt = true := hlt
      cases w with
      | true =>
        simp only [cond_true] at h
        obtain ⟨h1, h2⟩ := bifs h
        refine ⟨QS.splitG (w := true) rfl hb hlt' (fun e => ?_) (fun e => ?_)⟩
        · have := (runQS_ok (ty := ty) (runQ_ok hK L) (h1 e)).out
          rw [toSt_put] at this
          exact QS.gy (by rw [put_env_eq, hlt']; rfl) hlt' this
        · have := (runQ_ok hK L _ (h2 e)).out
          rw [toSt_put, toSt_put] at this
          exact QS.gn (by rw [put_env_eq, hlt']; rfl) hlt' this
      | false =>
        simp only [cond_false] at h
        obtain ⟨h1, h2⟩ := bifs h
        refine ⟨QS.splitG (w := false) rfl hb hlt' (fun e => ?_) (fun e => ?_)⟩
        · have := (runQ_ok hK L _ (h1 e)).out
          rw [toSt_put, toSt_put] at this
          exact QS.gn (by rw [put_env_eq, hlt']; rfl) hlt' this
        · have := (runQS_ok (ty := ty) (runQ_ok hK L) (h2 e)).out
          rw [toSt_put] at this
          exact QS.gy (by rw [put_env_eq, hlt']; rfl) hlt' this
    · cases h
  | ⟨_, _, _, some (none, _)⟩ :: _, _, h => by cases h
def quietIn (f : FuncId) : List (Ctr P) → Bool
  | [] => false
  | c :: T => (Nat.beq c.f f && c.quiet) || quietIn f T
def quietOp (T : List (Ctr P)) (op : Op) : Bool := isPureX op || (match op with
  | .call c => match c.callee with
    | .value (.func f) => quietIn f T
    | _ => false
  | _ => false)
def planOf (T : List (Ctr P)) : List Oper → Nat → List (Nat × Bool)
  | [], 0 => []
  | [], n => [(n, true)]
  | o :: l, n => bif quietOp T o.op then planOf T l (n + 1) else (bif Nat.beq n 0 then (1, false) :: planOf T l 0 else (n, true) :: (1, false) :: planOf T l 0)
def planOk (A : Array Oper) : Nat → List (Nat × Bool) → Bool
  | k, [] => allIn A.size (List.range k)
  | k, (n, true) :: l => chk A (List.range k) ((List.range n).map (k + ·)) && planOk A (k + n) l
  | k, (_, false) :: l => chk1 A (List.range k) k && planOk A (k + 1) l
theorem QS.mono {K K' : St → Prop} (hk : ∀ st, K st → K' st) : ∀ {L : List GOp} {st : St}, QS P K L st → QS P K' L st := fun h => by
  induction h with
  | nil h => exact .nil (hk _ h)
  | cons u h k ih => exact .cons u h ih
def runPlan (wr : Opt) (T : List (Ctr P)) [Tys P] [TyE P] [TyX P] (A : Array Oper) (K : ESt → Option ρ) : List (Nat × Bool) → Nat → ESt → Option ρ
  | [], k, s => K s
  | (n, true) :: l, k, s => runQ wr T (runPlan wr T A K l (k + n)) (((List.range n).map (k + ·)).map (opAt A)) s
  | (_, false) :: l, k, s => runL wr T (runPlan wr T A K l (k + 1)) [opAt A k] s
theorem runPlan_ok {wr : Opt} {T : List (Ctr P)} [Tys P] [TyE P] [TyX P] {A : Array Oper} {K : ESt → Option ρ} {res : ρ} (hK : ∀ s', K s' = some res → Q .normal s') : ∀ (l : List (Nat × Bool)) (k : Nat) (s : ESt), planOk A k l = true → runPlan wr T A K l k s = some res →
    AnyL P A (List.range k) (liftQ Q) (toSt s)
  | [], k, s, hc, h => AnyL.done hc ⟨s, rfl, hK _ h⟩
  | (n, true) :: l, k, s, hc, h => by
    simp only [planOk, Bool.and_eq_true] at hc
    refine AnyL.quiet _ hc.1 (QS.mono ?_ (runQ_ok (K0 := fun s => runPlan wr T A K l (k + n) s = some res) (fun s' h => h) _ _ h).out)
    rintro st ⟨s', rfl, h'⟩
    have := runPlan_ok hK l (k + n) s' hc.2 h'
    rwa [List.range_add] at this
  | (_, false) :: l, k, s, hc, h => by
    simp only [planOk, Bool.and_eq_true] at hc
    have hs := (runL_ok (Q := fun e s => match e with | .normal => runPlan wr T A K l (k + 1) s = some res | _ => False) (fun s' h => h) _ _ h).out
    refine AnyL.step k hc.1 ⟨fun E ι F a w r => ?_⟩
    have := hs.out E ι F a w r
    refine lwp_conc ?_ _ _ _ this
    rintro e st ⟨s', rfl, h'⟩
    cases e <;> first | exact h'.elim | skip
    have := runPlan_ok hK l (k + 1) s' hc.2 h'
    rwa [List.range_succ] at this
inductive Pl where
  | fl (i : Nat)
  | qu (l : List Nat)
  | on (i : Nat)
def isMv (A : Array Oper) (i : Nat) : Bool := match (opAt A i).g with
  | none => (match (opAt A i).op with
    | .move _ => true
    | _ => false)
  | some _ => false
def findFl (A : Array Oper) (D : List Nat) : List Nat → Option Nat
  | [] => none
  | i :: l => bif isMv A i && chkF A D i then some i else findFl A D l
def quietAhead (T : List (Ctr P)) (A : Array Oper) : List Nat → List Nat
  | [] => []
  | i :: l => bif quietOp T (opAt A i).op then i :: quietAhead T A l else []
def planF (T : List (Ctr P)) (A : Array Oper) : Nat → List Nat → List Nat → List Pl
  | 0, _, _ => []
  | n + 1, D, l => match findFl A D l with
    | some i => .fl i :: planF T A n (D ++ [i]) (l.filter fun k => !Nat.beq k i)
    | none => match quietAhead T A l with
      | [] => (match l with
        | [] => []
        | i :: l => .on i :: planF T A n (D ++ [i]) l)
      | x :: xs => .qu (x :: xs) :: planF T A n (D ++ (x :: xs)) (l.drop (x :: xs).length)
def planOkF (A : Array Oper) : List Nat → List Pl → Bool
  | D, [] => allIn A.size D
  | D, .fl i :: l => isMv A i && chkF A D i && planOkF A (D ++ [i]) l
  | D, .qu X :: l => chk A D X && planOkF A (D ++ X) l
  | D, .on i :: l => chk1 A D i && planOkF A (D ++ [i]) l
def runPlanF (wr : Opt) (T : List (Ctr P)) [Tys P] [TyE P] [TyX P] (A : Array Oper) (K : ESt → Option ρ) : List Pl → ESt → Option ρ
  | [], s => K s
  | .fl i :: l, s => runOw P wr.wr s.eval s.heap (opAt A i).op (fun u => runPlanF wr T A K l (s.put (opAt A i).dst u))
  | .qu X :: l, s => runQ wr T (runPlanF wr T A K l) (X.map (opAt A)) s
  | .on i :: l, s => runL wr T (runPlanF wr T A K l) [opAt A i] s
theorem runPlanF_ok {wr : Opt} {T : List (Ctr P)} [Tys P] [TyE P] [TyX P] {A : Array Oper} {K : ESt → Option ρ} {res : ρ} (hK : ∀ s', K s' = some res → Q .normal s') : ∀ (l : List Pl) (D : List Nat) (s : ESt), planOkF A D l = true → runPlanF wr T A K l s = some res →
    AnyL P A D (liftQ Q) (toSt s)
  | [], D, s, hc, h => AnyL.done hc ⟨s, rfl, hK _ h⟩
  | .fl i :: l, D, s, hc, h => by
    simp only [planOkF, Bool.and_eq_true] at hc
    obtain ⟨⟨hm, hf⟩, hc⟩ := hc
    unfold runPlanF at h
    obtain ⟨u, h1, h2⟩ := runOw_ok (s := s) h
    have hk := runPlanF_ok hK l (D ++ [i]) _ hc h2
    unfold isMv at hm
    split at hm
    · rename_i hg
      split at hm
      · rename_i x hx
        rw [hx] at h1
        rw [toSt_put] at hk
        exact AnyL.float i hg hx hf h1 hk
      · cases hm
    · cases hm
  | .qu X :: l, D, s, hc, h => by
    simp only [planOkF, Bool.and_eq_true] at hc
    refine AnyL.quiet _ hc.1 (QS.mono ?_ (runQ_ok (K0 := fun s => runPlanF wr T A K l s = some res) (fun s' h => h) _ _ h).out)
    rintro st ⟨s', rfl, h'⟩
    exact runPlanF_ok hK l (D ++ X) s' hc.2 h'
  | .on i :: l, D, s, hc, h => by
    simp only [planOkF, Bool.and_eq_true] at hc
    have hs := (runL_ok (Q := fun e s => match e with | .normal => runPlanF wr T A K l s = some res | _ => False) (fun s' h => h) _ _ h).out
    refine AnyL.step i hc.1 ⟨fun E ι F a w r => ?_⟩
    have := hs.out E ι F a w r
    refine lwp_conc ?_ _ _ _ this
    rintro e st ⟨s', rfl, h'⟩
    cases e <;> first | exact h'.elim | skip
    exact runPlanF_ok hK l (D ++ [i]) s' hc.2 h'
def planFA (T : List (Ctr P)) (A : Array Oper) : List Pl := planF T A (A.size + 1) [] (List.range A.size)
def runReg (wr : Opt) (T : List (Ctr P)) [Tys P] [TyE P] [TyX P] (A : Array Oper) (draw : Bool) (K : ESt → Option ρ) (s : ESt) : Option ρ :=
  bif draw then (bif planOk A 0 (planOf T A.toList 0) then runPlan wr T A K (planOf T A.toList 0) 0 s else
    (bif planOkF A [] (planFA T A) then runPlanF wr T A K (planFA T A) s else none)) else runL wr T K (prep A) s
theorem runReg_ok {wr : Opt} {T : List (Ctr P)} [Tys P] [TyE P] [TyX P] [m : Mixed P] {A : Array Oper} {draw : Bool} {K : ESt → Option ρ} {res : ρ} {id : Nat} {s : ESt} (hK : ∀ s', K s' = some res → Q .normal s') (h : runReg wr T A draw K s = some res) : SCT P (.region id A draw) Q s := by
  unfold runReg at h
  cases draw with
  | true =>
    simp only [cond_true] at h
    cases hp : planOk A 0 (planOf T A.toList 0) with
    | true =>
      rw [hp] at h
      exact ⟨SC.draw m.m (runPlan_ok hK _ 0 s hp h)⟩
    | false =>
      rw [hp] at h
      simp only [cond_false] at h
      have hh := bif_none h
      clear h
      obtain ⟨hc, h⟩ := hh
      exact ⟨SC.draw m.m (runPlanF_ok hK _ [] s hc h)⟩
  | false => exact ⟨SC.region (runL_ok hK _ _ h).out⟩
end
end
end Go.Abs


set_option linter.unusedVariables false
set_option linter.unusedSimpArgs false
set_option linter.unusedSectionVars false
namespace Go.Abs
open Go
noncomputable section
variable {P : Program}
section
variable {D X : Type}
def iterO (f : D → Option (D ⊕ X)) : Nat → D → Option X
  | 0, _ => none
  | n + 1, y => match f y with
    | some (.inl z) => iterO f n z
    | some (.inr x) => some x
    | none => none
theorem iterO_up {f : D → Option (D ⊕ X)} : ∀ {n : Nat} {y : D} {x : X}, iterO f n y = some x → ∀ m, n ≤ m → iterO f m y = some x
  | 0, _, _, h, _, _ => by cases h
  | n + 1, y, x, h, 0, hm => by omega
  | n + 1, y, x, h, m + 1, hm => by
    simp only [iterO] at h ⊢
    split at h
    · exact iterO_up h m (by omega)
    · exact h
    · cases h
open Classical in
noncomputable def whileO (f : D → Option (D ⊕ X)) (y : D) : Option X := if h : ∃ n x, iterO f n y = some x then some (Classical.choose (Classical.choose_spec h)) else none
theorem whileO_iff {f : D → Option (D ⊕ X)} {y : D} {x : X} : whileO f y = some x ↔ ∃ n, iterO f n y = some x := by
  unfold whileO
  constructor
  · intro h
    split at h
    · rename_i hh
      injection h with h
      subst h
      exact ⟨_, Classical.choose_spec (Classical.choose_spec hh)⟩
    · cases h
  · rintro ⟨n, hn⟩
    have hh : ∃ n x, iterO f n y = some x := ⟨n, x, hn⟩
    rw [dif_pos hh]
    have h2 := Classical.choose_spec (Classical.choose_spec hh)
    have a := iterO_up h2 (max n (Classical.choose hh)) (Nat.le_max_right _ _)
    have b := iterO_up hn (max n (Classical.choose hh)) (Nat.le_max_left _ _)
    rw [a] at b
    exact b
theorem whileO_eq (f : D → Option (D ⊕ X)) (y : D) : whileO f y = match f y with
    | some (.inl z) => whileO f z
    | some (.inr x) => some x
    | none => none := by
  have key : ∀ x, whileO f y = some x ↔ (match f y with
    | some (.inl z) => whileO f z
    | some (.inr x) => some x
    | none => none) = some x := by
    intro x
    rw [whileO_iff]
    cases hf : f y with
    | none =>
      simp only
      constructor
      · rintro ⟨n, hn⟩; cases n <;> simp [iterO, hf] at hn
      · intro h; cases h
    | some v =>
      cases v with
      | inl z =>
        simp only
        rw [whileO_iff]
        constructor
        · rintro ⟨n, hn⟩
          cases n with
          | zero => cases hn
          | succ n => simp only [iterO, hf] at hn; exact ⟨n, hn⟩
        · rintro ⟨n, hn⟩; exact ⟨n + 1, by simp only [iterO, hf]; exact hn⟩
      | inr x' =>
        simp only
        constructor
        · rintro ⟨n, hn⟩
          cases n with
          | zero => cases hn
          | succ n => simp only [iterO, hf] at hn; exact hn
        · intro h; exact ⟨1, by simp only [iterO, hf]; exact h⟩
  cases h1 : whileO f y with
  | some x => exact ((key x).1 h1).symm
  | none =>
    cases h2 : (match f y with
    | some (.inl z) => whileO f z
    | some (.inr x) => some x
    | none => none) with
    | none => rfl
    | some x => rw [(key x).2 h2] at h1; cases h1
def sumO {ρ A B : Type} (f : A → Option ρ) (g : B → Option ρ) (x : A ⊕ B) : Option ρ := match x with
  | .inl a => f a
  | .inr b => g b
def jpO {ρ : Type} (f : D → Option ρ) (g : (D → Option ρ) → Option ρ) : Option ρ := g f
end
inductive Ek where
  | ret
  | exit (n : Nat)
def Ek.ex : Ek → Exit
  | .ret => .ret
  | .exit n => .exit n
def Ek.is : Ek → Exit → Bool
  | .ret, .ret => true
  | .exit n, .exit m => Nat.beq n m
  | _, _ => false
theorem Ek.is_out {k : Ek} {e : Exit} (h : k.is e = true) : e = k.ex := by
  cases k <;> cases e <;> first | rfl | (cases h; done) | (obtain rfl := Nat.eq_of_beq_eq_true h; rfl)
inductive Ann where
  | o
  | w
  | x (o : Opt)
  | seq (a b : Ann)
  | join (sh : SSh) (a b : Ann)
  | cond (a b : Ann)
  | block (a : Ann)
  | loop (sh : SSh) (ex : List (Ek × SSh)) (a : Ann)
def Ann.wr : Ann → Opt
  | .w => { wr := true }
  | .x q => q
  | _ => {}
section
variable [SU] [Codes]
@[reducible] def SSh.D (sh : SSh) : Type := DT sh.sl × DO sh.os
@[reducible] def ExD : List (Ek × SSh) → Type
  | [] => Empty
  | [a] => a.2.D
  | a :: b :: l => a.2.D ⊕ ExD (b :: l)
variable {ρ : Type}
def meetO (nt lo : Nat) (s : ESt) (sh : SSh) (K : sh.D → Option ρ) : Option ρ := bif Nat.beq s.nt nt && Nat.beq s.heap.lo lo then (match exS s (ksFor s sh) sh with
  | some z => K z
  | none => none) else none
theorem meetO_out {nt lo : Nat} {s : ESt} {sh : SSh} {K : sh.D → Option ρ} {r : ρ} (h : meetO nt lo s sh K = some r) : ∃ z, WeakT s (mkS nt lo sh z.1 z.2) ∧ K z = some r := by
  unfold meetO at h
  have hh := bif_none h
  clear h
  obtain ⟨hb, h⟩ := hh
  simp only [Bool.and_eq_true] at hb
  split at h
  · rename_i z hz
    have := exS_ok (x := z.1) (y := z.2) hz
    rw [Nat.eq_of_beq_eq_true hb.1, Nat.eq_of_beq_eq_true hb.2] at this
    exact ⟨z, this, h⟩
  · cases h
def exitO (nt lo : Nat) (s : ESt) (e : Exit) : (l : List (Ek × SSh)) → (ExD l → Option ρ) → Option ρ
  | [], _ => none
  | [a], K => bif a.1.is e then meetO nt lo s a.2 K else none
  | a :: b :: l, K => bif a.1.is e then meetO nt lo s a.2 (fun z => K (.inl z)) else exitO nt lo s e (b :: l) (fun z => K (.inr z))
def onExit (nt lo : Nat) (k : Exit → ESt → Option ρ) : (l : List (Ek × SSh)) → ExD l → Option ρ
  | [], _ => none
  | [a], z => k a.1.ex (mkS nt lo a.2 z.1 z.2)
  | a :: b :: l, z => sumO (fun z => k a.1.ex (mkS nt lo a.2 z.1 z.2)) (fun z => onExit nt lo k (b :: l) z) z
theorem exitO_out {nt lo : Nat} {s : ESt} {e : Exit} {k : Exit → ESt → Option ρ} : ∀ {l : List (Ek × SSh)} {σ : Type} {K : ExD l → Option σ} {x : σ}, exitO nt lo s e l K = some x → ∃ z, K z = some x ∧ ∃ s', WeakT s s' ∧ ∀ r, onExit nt lo k l z = some r → k e s' = some r
  | [], _, _, _, h => by cases h
  | [a], σ, K, x, h => by
    unfold exitO at h
    have hh := bif_none h
    clear h
    obtain ⟨hb, h⟩ := hh
    obtain ⟨z, w, h⟩ := meetO_out h
    exact ⟨z, h, _, w, fun r hr => by rw [Ek.is_out hb]; exact hr⟩
  | a :: b :: l, σ, K, x, h => by
    unfold exitO at h
    cases hb : a.1.is e with
    | true =>
      rw [hb] at h
      obtain ⟨z, w, h⟩ := meetO_out h
      exact ⟨.inl z, h, _, w, fun r hr => by rw [Ek.is_out hb]; exact hr⟩
    | false =>
      rw [hb] at h
      obtain ⟨z, h1, s', w, h2⟩ := exitO_out (l := b :: l) h
      exact ⟨.inr z, h1, s', w, h2⟩
def thenK (K : ESt → Option ρ) (k : Exit → ESt → Option ρ) : Exit → ESt → Option ρ
  | .normal, s => K s
  | e, s => k e s
def inK (id : Nat) (k : Exit → ESt → Option ρ) : Exit → ESt → Option ρ
  | .exit id', s => bif Nat.beq id' id then k .normal s else k (.exit id') s
  | e, s => k e s
def roundK (nt lo : Nat) (sh : SSh) (ex : List (Ek × SSh)) : Exit → ESt → Option (sh.D ⊕ ExD ex)
  | .normal, s => meetO nt lo s sh (fun z => some (.inl z))
  | e, s => exitO nt lo s e ex (fun z => some (.inr z))
noncomputable def runC (T : List (Ctr P)) [Tys P] [TyE P] [TyX P] (nt lo : Nat) : Ann → Code → {ρ : Type} → (Exit → ESt → Option ρ) → ESt → Option ρ
  | _, .skip, _, k, s => k .normal s
  | _, .exit id, _, k, s => k (.exit id) s
  | _, .ret, _, k, s => k .ret s
  | a, .region _ A draw, _, k, s => runReg a.wr T A draw (k .normal) s
  | .seq a b, .seq x y, _, k, s => runC T nt lo a x (thenK (runC T nt lo b y k) k) s
  | .o, .seq x y, _, k, s => runC T nt lo .o x (thenK (runC T nt lo .o y k) k) s
  | .join sh a b, .seq x y, _, k, s => jpO (fun z : sh.D => runC T nt lo b y k (mkS nt lo sh z.1 z.2)) fun j => runC T nt lo a x (thenK (fun s' => meetO nt lo s' sh j) k) s
  | .cond a b, .cond (.tmp t) x y, _, k, s => match s.env t with
    | .b c => bif Nat.blt t s.nt then (bif c then runC T nt lo a x k (s.put (some t) (.b true)) else runC T nt lo b y k (s.put (some t) (.b false))) else none
    | _ => none
  | .o, .cond (.tmp t) x y, _, k, s => match s.env t with
    | .b c => bif Nat.blt t s.nt then (bif c then runC T nt lo .o x k (s.put (some t) (.b true)) else runC T nt lo .o y k (s.put (some t) (.b false))) else none
    | _ => none
  | .block a, .block id x, _, k, s => runC T nt lo a x (inK id k) s
  | .o, .block id x, _, k, s => runC T nt lo .o x (inK id k) s
  | .loop sh ex a, .loop x, _, k, s => meetO nt lo s sh fun y0 =>
      callB (whileO (fun y => runC T nt lo a x (roundK nt lo sh ex) (mkS nt lo sh y.1 y.2)) y0) fun z => onExit nt lo k ex z
  | _, _, _, _, _ => none
def Down (Q : Exit → ESt → Prop) : Prop := ∀ e s s', WeakT s s' → Q e s' → Q e s
theorem runC_ok (T : List (Ctr P)) [Tys P] [TyE P] [TyX P] [Mixed P] (nt lo : Nat) : ∀ (c : Code) (a : Ann) {ρ : Type} (k : Exit → ESt → Option ρ) (s : ESt) (res : ρ) (Q : Exit → ESt → Prop), Down Q → (∀ e s', k e s' = some res → Q e s') → runC T nt lo a c k s = some res → SCT P c Q s
  | .skip, a, ρ, k, s, res, Q, hQ, hk, h => by
    have h : k .normal s = some res := by cases a <;> exact h
    exact ⟨SC.skip ⟨s, rfl, hk _ _ h⟩⟩
  | .exit id, a, ρ, k, s, res, Q, hQ, hk, h => by
    have h : k (.exit id) s = some res := by cases a <;> exact h
    exact ⟨SC.exit ⟨s, rfl, hk _ _ h⟩⟩
  | .ret, a, ρ, k, s, res, Q, hQ, hk, h => by
    have h : k .ret s = some res := by cases a <;> exact h
    exact ⟨SC.ret ⟨s, rfl, hk _ _ h⟩⟩
  | .region id A draw, a, ρ, k, s, res, Q, hQ, hk, h => by
    have h : runReg a.wr T A draw (k .normal) s = some res := by cases a <;> exact h
    exact runReg_ok (fun s' => hk _ _) h
  | .seq x y, a, ρ, k, s, res, Q, hQ, hk, h => by
    have key : ∀ a b, runC T nt lo a x (thenK (runC T nt lo b y k) k) s = some res → SCT P (.seq x y) Q s := fun a b h => by
      refine SCT.seq' (runC_ok T nt lo x a (thenK (runC T nt lo b y k) k) s res _ (fun e s s' w q => ?_) (fun e s' q => ?_) h)
      · cases e <;> first | exact SCT.weak w q | exact hQ _ _ _ w q
      · cases e <;> first | exact runC_ok T nt lo y b k s' res Q hQ hk q | exact hk _ _ q
    cases a with
    | o => exact key _ _ h
    | seq a b => exact key _ _ h
    | join sh a b =>
      have h : runC T nt lo a x (thenK (fun s' => meetO nt lo s' sh (fun z : sh.D => runC T nt lo b y k (mkS nt lo sh z.1 z.2))) k) s = some res := h
      refine SCT.seq' (runC_ok T nt lo x a _ s res _ (fun e s s' w q => ?_) (fun e s' q => ?_) h)
      · cases e <;> first | exact SCT.weak w q | exact hQ _ _ _ w q
      · cases e <;> first | (obtain ⟨z, w, q⟩ := meetO_out q; exact SCT.weak w (runC_ok T nt lo y b k _ res Q hQ hk q)) | exact hk _ _ q
    | _ => cases h
  | .cond (.tmp t) x y, a, ρ, k, s, res, Q, hQ, hk, h => by
    have key : ∀ a b, (match s.env t with
      | .b c => bif Nat.blt t s.nt then (bif c then runC T nt lo a x k (s.put (some t) (.b true)) else runC T nt lo b y k (s.put (some t) (.b false))) else none
      | _ => none) = some res → SCT P (.cond (.tmp t) x y) Q s := fun a b h => by
      split at h
      · rename_i c hc
        have hb := envT hc
        simp only [toV] at hb
        have hh := bif_none h
        clear h
        obtain ⟨hlt, h⟩ := hh
        obtain ⟨h1, h2⟩ := bifs h
        refine ⟨SC.cond (b := c) hb (fun e => ?_) (fun e => ?_)⟩
        · have := (runC_ok T nt lo x a k _ res Q hQ hk (h1 e)).out
          rw [toSt_put] at this
          rwa [St.know (by rw [hb, e]; simp only [toV]) hlt] at this
        · have := (runC_ok T nt lo y b k _ res Q hQ hk (h2 e)).out
          rw [toSt_put] at this
          rwa [St.know (by rw [hb, e]; simp only [toV]) hlt] at this
      · cases h
    cases a with
    | o => exact key _ _ h
    | cond a b => exact key _ _ h
    | _ => cases h
  | .block id x, a, ρ, k, s, res, Q, hQ, hk, h => by
    have key : ∀ a, runC T nt lo a x (inK id k) s = some res → SCT P (.block id x) Q s := fun a h => by
      refine SCT.block (runC_ok T nt lo x a (inK id k) s res _ (fun e s s' w q => ?_) (fun e s' q => ?_) h)
      · cases e with
        | exit id' =>
          simp only [inT] at q ⊢
          cases hb : Nat.beq id' id <;> rw [hb] at q <;> exact hQ _ _ _ w q
        | _ => exact hQ _ _ _ w q
      · cases e with
        | exit id' =>
          simp only [inT, inK] at q ⊢
          cases hb : Nat.beq id' id <;> rw [hb] at q <;> exact hk _ _ q
        | _ => exact hk _ _ q
    cases a with
    | o => exact key _ h
    | block a => exact key _ h
    | _ => cases h
  | .loop x, a, ρ, k, s, res, Q, hQ, hk, h => by
    cases a with
    | loop sh ex a =>
      have h : (meetO nt lo s sh fun y0 =>
        callB (whileO (fun y => runC T nt lo a x (roundK nt lo sh ex) (mkS nt lo sh y.1 y.2)) y0) fun z => onExit nt lo k ex z) = some res := h
      obtain ⟨y0, w0, h⟩ := meetO_out h
      obtain ⟨z, hz, h⟩ := callB_out h
      obtain ⟨n, hn⟩ := whileO_iff.1 hz
      refine SCT.weak w0 (SCT.loop fun J hW hJ => ?_)
      have main : ∀ n y, iterO (fun y : sh.D => runC T nt lo a x (roundK nt lo sh ex) (mkS nt lo sh y.1 y.2)) n y = some z → J (mkS nt lo sh y.1 y.2) := by
        intro n
        induction n with
        | zero => intro y hy; cases hy
        | succ n ih =>
          intro y hy
          simp only [iterO] at hy
          split at hy
          · rename_i y' hf
            refine hJ _ (runC_ok T nt lo x a _ _ _ _ (fun e s s' w q => ?_) (fun e s' q => ?_) hf)
            · cases e <;> first | exact hW _ _ w q | exact hQ _ _ _ w q
            · have no : ∀ e, exitO nt lo s' e ex (fun z => some (Sum.inr z : sh.D ⊕ ExD ex)) = some (.inl y') → False := fun e q => by
                obtain ⟨z, q, _⟩ := exitO_out (ρ := ρ) (k := k) q
                cases q
              cases e <;> first
                | (obtain ⟨z, w, q⟩ := meetO_out q
                   injection q with q; injection q with q; subst q
                   exact hW _ _ w (ih _ hy))
                | exact (no _ q).elim
          · rename_i z' hf
            injection hy with hy
            subst hy
            refine hJ _ (runC_ok T nt lo x a _ _ _ _ (fun e s s' w q => ?_) (fun e s' q => ?_) hf)
            · cases e <;> first | exact hW _ _ w q | exact hQ _ _ _ w q
            · have yes : ∀ e, exitO nt lo s' e ex (fun z => some (Sum.inr z : sh.D ⊕ ExD ex)) = some (.inr z') → Q e s' := fun e q => by
                obtain ⟨z, q, s1, w, q2⟩ := exitO_out (ρ := ρ) (k := k) q
                injection q with q; injection q with q; subst q
                exact hQ _ _ _ w (hk _ _ (q2 _ h))
              cases e <;> first
                | (obtain ⟨z, w, q⟩ := meetO_out q; cases q; done)
                | exact yes _ q
          · cases hy
      exact main n y0 hn
    | _ => cases h
  | .cond (.const _) x y, a, ρ, k, s, res, Q, hQ, hk, h => by cases a <;> cases h
  | .cond (.global _) x y, a, ρ, k, s, res, Q, hQ, hk, h => by cases a <;> cases h
  | .cond (.func _) x y, a, ρ, k, s, res, Q, hQ, hk, h => by cases a <;> cases h
  | .rangeFunc _ _ _ _, a, ρ, k, s, res, Q, hQ, hk, h => by cases a <;> cases h
  | .scope _, a, ρ, k, s, res, Q, hQ, hk, h => by cases a <;> cases h
  | .label _, a, ρ, k, s, res, Q, hQ, hk, h => by cases a <;> cases h
  | .goto _, a, ρ, k, s, res, Q, hQ, hk, h => by cases a <;> cases h
  | .refuse _, a, ρ, k, s, res, Q, hQ, hk, h => by cases a <;> cases h
end
end
end Go.Abs


set_option linter.unusedVariables false
set_option linter.unusedSimpArgs false
set_option linter.unusedSectionVars false
namespace Go.Abs
open Go
noncomputable section
variable {P : Program} {ρ : Type}
section
variable [SU] [Codes]
def valR (P : Program) [Tys P] (s : ESt) : ResultVar → (EV → Option ρ) → Option ρ
  | .tmp t, K => fE (s.env t) K
  | .cell ad t, K => runLoad (P := P) s.heap t (s.env ad) K
def valsR (P : Program) [Tys P] (s : ESt) : List ResultVar → (List EV → Option ρ) → Option ρ
  | [], K => K []
  | r :: l, K => valR P s r fun u => valsR P s l fun us => K (u :: us)
theorem valR_ok [Tys P] {s : ESt} {rv : ResultVar} {K : EV → Option ρ} {res : ρ} (h : valR P s rv K = some res) : ∃ u, RV P (toSt s) rv (toV s.heap.len u) ∧ K u = some res := by
  cases rv with
  | tmp t =>
    simp only [valR, fE_eq] at h
    exact ⟨_, RV.tmp t, h⟩
  | cell ad t =>
    obtain ⟨u, h1, h2⟩ := runLoad_ok (a := .tmp ad) h
    refine ⟨u, fun E ι F a w r => ?_, h2⟩
    obtain ⟨v, h3, h4⟩ := h1 none t E ι F a w r
    refine ⟨v, ?_, h4⟩
    have e : a.eval (.tmp ad) = a.tmps.getD ad undef := rfl
    simp only [execOp, GOp.oper, e, Instr.loadAt] at h3
    simp only [rvSem]
    generalize a.tmps.getD ad undef = x at h3 ⊢
    have bad : ∀ m : String, ((Instr.sureAddr x >>= loadVar t) >>= fun y => (Pure.pure (Next.value y) : Sem Next)).run P w = .ok (.value v) w → (Instr.sureAddr x = stuck m) → False := fun m h e => by
      rw [e] at h
      simp [Sem.run_bind, stuck] at h
    cases x with
    | pointer o =>
      cases o with
      | none => exact (bad _ h3 rfl).elim
      | some ad' =>
        simp only [Instr.sureAddr, asAddr, Sem.run_bind, Sem.run_pure, Result.andThen_ok] at h3 ⊢
        cases hl : (loadVar t ad').run P w with
        | ok c w' =>
          rw [hl] at h3
          simp only [Result.andThen_ok] at h3
          injection h3 with h5 h6
          injection h5 with h5
          subst h5; subst h6
          rfl
        | halt x w' => rw [hl] at h3; cases h3
    | _ => exact (bad _ h3 rfl).elim
theorem valsR_ok [Tys P] {s : ESt} : ∀ {l : List ResultVar} {K : List EV → Option ρ} {res : ρ}, valsR P s l K = some res → ∃ us, K us = some res ∧ ∀ E ι F a w, Rel E ι F (toSt s) a w → ∃ cs : List Value, (l.mapM (rvSem a.tmps)).run P w = .ok cs w ∧ cs.length = us.length ∧ ∀ j, j < us.length → ∃ c, cs[j]? = some c ∧ VRel (toH s.heap) ι F w (toV s.heap.len (nthE us j)) c
  | [], K, res, h => ⟨[], h, fun E ι F a w r => ⟨[], rfl, rfl, fun j hj => absurd hj (Nat.not_lt_zero _)⟩⟩
  | rv :: l, K, res, h => by
    obtain ⟨u, h1, h⟩ := valR_ok h
    obtain ⟨us, h, h2⟩ := valsR_ok (l := l) h
    refine ⟨u :: us, h, fun E ι F a w r => ?_⟩
    obtain ⟨c, c1, c2⟩ := h1 E ι F a w r
    obtain ⟨cs, c3, c4, c5⟩ := h2 E ι F a w r
    refine ⟨c :: cs, by simp [List.mapM_cons, c1, c3], by simp [c4], fun j hj => ?_⟩
    cases j with
    | zero => exact ⟨c, rfl, c2⟩
    | succ j => obtain ⟨c', d1, d2⟩ := c5 j (by simpa using hj); exact ⟨c', by simpa using d1, d2⟩
def oneR : List EV → EV
  | [u] => u
  | l => .tup l
def wantF : Sh → EV → List Nat
  | .fz _, .sfull k [] => [k]
  | .st _, .agg m => rootsOf (.agg m)
  | .agg l, .agg m => wantFs l m
  | .tup l, .tup m => wantFs l m
  | _, _ => []
where wantFs : List Sh → List EV → List Nat
  | a :: l, u :: m => wantF a u ++ wantFs l m
  | _, _ => []
def endS (s : ESt) (u : EV) : ESt := ⟨1, nthE [u], s.heap⟩
def retO (P : Program) [Tys P] (rs : List ResultVar) (lo : Nat) (rv : Sh) (ro : List OSh) (s : ESt) : Option (rv.D × DO ro) :=
  valsR P s rs fun us => frzAll (endS s (oneR us)) (fun s' => meetO 1 lo s' ⟨[(0, rv)], ro⟩ (fun z => some (z.1.1, z.2))) (wantF rv (oneR us))
def retK (P : Program) [Tys P] (rs : List ResultVar) (lo : Nat) (rv : Sh) (ro : List OSh) : Exit → ESt → Option (rv.D × DO ro)
  | .ret, s => retO P rs lo rv ro s
  | .normal, s => retO P rs lo rv ro s
  | _, _ => none
structure EndOk (P : Program) (fn : Func) (lo : Nat) (rv : Sh) (ro : List OSh) (res : rv.D × DO ro) (s : ESt) : Prop where
  out : ∀ E ι F a w, Rel E ι F (toSt s) a w → ∃ c ι' F', (results fn a.tmps).run P w = .ok c w ∧ RelH E ι' F' (toH (mkH lo ro res.2)) w ∧ VRel (toH (mkH lo ro res.2)) ι' F' w (toV (mkH lo ro res.2).len (mkE rv res.1)) c
theorem EndOk.weak {fn : Func} {lo : Nat} {rv : Sh} {ro : List OSh} {res : rv.D × DO ro} {s s' : ESt} (w : WeakT s s') (h : EndOk P fn lo rv ro res s') : EndOk P fn lo rv ro res s :=
  ⟨fun E ι F a w' r => by obtain ⟨ι', F', r'⟩ := w E ι F a w' r; exact h.out E ι' F' a w' r'⟩
theorem retO_ok [Tys P] {fn : Func} {lo : Nat} {rv : Sh} {ro : List OSh} {res : rv.D × DO ro} {s : ESt} (h : retO P fn.results.toList lo rv ro s = some res) : EndOk P fn lo rv ro res s := by
  obtain ⟨us, h, hu⟩ := valsR_ok h
  obtain ⟨s', w, h⟩ := frzAll_out _ _ h
  obtain ⟨z, w2, h⟩ := meetO_out h
  injection h with h
  subst h
  refine ⟨fun E ι F a w' r => ?_⟩
  obtain ⟨cs, c1, c2, c3⟩ := hu E ι F a w' r
  have hc : ∃ c, (results fn a.tmps).run P w' = .ok c w' ∧ VRel (toH s.heap) ι F w' (toV s.heap.len (oneR us)) c := by
    rw [results_eq]
    have e : (fn.results.mapM (rvSem a.tmps)).run P w' = .ok cs.toArray w' := by
      rw [Array.mapM_eq_mapM_toList, Sem.run_map, c1]; rfl
    rw [Sem.run_bind, e]
    simp only [Result.andThen_ok]
    have tupR : ∀ us : List EV, us.length ≠ 1 → cs.length = us.length → (∀ j, j < us.length → ∃ c, cs[j]? = some c ∧ VRel (toH s.heap) ι F w' (toV s.heap.len (nthE us j)) c) →
        ∃ c, (Pure.pure (if h : cs.toArray.size = 1 then cs.toArray[0] else .tuple cs.toArray) : Sem Value).run P w' = .ok c w' ∧ VRel (toH s.heap) ι F w' (toV s.heap.len (.tup us)) c := fun us h1 h2 h3 => by
      rw [dif_neg (by simpa [h2] using h1)]
      refine ⟨_, rfl, ?_⟩
      simp only [toV]
      exact ⟨cs.toArray, rfl, by simpa using h2, fun j hj => by obtain ⟨c, q1, q2⟩ := h3 j hj; exact ⟨c, by simpa using q1, by rw [← nthE_eq]; exact q2⟩⟩
    match us, c2, c3 with
    | [], c2, c3 => exact tupR [] (by simp) c2 c3
    | [u], c2, c3 =>
      obtain ⟨c, q1, q2⟩ := c3 0 (by simp)
      refine ⟨c, ?_, q2⟩
      have : cs = [c] := by
        match cs, c2, q1 with
        | [x], _, q1 => simpa using q1
      subst this
      rfl
    | u :: v :: l, c2, c3 => exact tupR _ (by simp) c2 c3
  obtain ⟨c, k1, k2⟩ := hc
  have r1 : Rel E ι F (toSt (endS s (oneR us))) { tmps := #[c], defers := [] } w' := ⟨r.h, fun t => by
    cases t with
    | zero => exact k2
    | succ t => exact trivial, rfl, rfl⟩
  obtain ⟨ι1, F1, r2⟩ := w _ _ _ _ _ r1
  obtain ⟨ι2, F2, r3⟩ := w2 _ _ _ _ _ r2
  exact ⟨c, ι2, F2, k1, r3.h, r3.env 0⟩
noncomputable def runF (T : List (Ctr P)) [Tys P] [TyE P] [TyX P] (fn : Func) (a : Ann) (ar : List (Nat × Sh)) (os : List OSh) (rv : Sh) (ro : List OSh) (x : DT ar) (y : DO os) : Option (rv.D × DO ro) :=
  bif Nat.ble ar.length fn.ntmps then (match fn.body with
    | some c => runC T fn.ntmps os.length a c (retK P fn.results.toList os.length rv ro) ⟨fn.ntmps, nthE (mkArgs ar x), mkH os.length os y⟩
    | none => none) else none
theorem CT.of {T : List (Ctr P)} [Tys P] [TyE P] [TyX P] [Mixed P] {f : FuncId} {fn : Func} {a : Ann} {ar : List (Nat × Sh)} {os : List OSh} {rv : Sh} {ro : List OSh} {x : DT ar} {y : DO os} {r : rv.D × DO ro} (hf : P.funcs[f]? = some fn)
    (h : runF T fn a ar os rv ro x y = some r) : CT P f (mkArgs ar x) (mkH os.length os y) (fun v H' => v = mkE rv r.1 ∧ H' = mkH os.length ro r.2) := by
  unfold runF at h
  have hh := bif_none h
  clear h
  obtain ⟨hle, h⟩ := hh
  have hle := Nat.le_of_ble_eq_true hle
  split at h
  · rename_i c hb
    have hs := (runC_ok T fn.ntmps os.length c a _ _ r (fun e s => (e = .ret ∨ e = .normal) ∧ EndOk P fn os.length rv ro r s) (fun e s s' w q => ⟨q.1, q.2.weak w⟩) (fun e s' q => by
      cases e <;> first | exact ⟨.inl rfl, retO_ok q⟩ | exact ⟨.inr rfl, retO_ok q⟩ | cases q) h).out
    refine ⟨fun E ι F w cargs r0 hl ha => calls_of_wp hf hb ?_⟩
    have r1 : Rel E ι F (toSt ⟨fn.ntmps, nthE (mkArgs ar x), mkH os.length os y⟩) { tmps := cargs ++ Array.replicate (fn.ntmps - cargs.size) undef, defers := [] } w := by
      have hl' : (mkArgs ar x).length = ar.length := mkArgs_len _ _
      refine ⟨r0, fun t => ?_, ?_, rfl⟩
      · show VRel _ ι F w (toV _ (nthE (mkArgs ar x) t)) ((cargs ++ Array.replicate (fn.ntmps - cargs.size) undef).getD t undef)
        by_cases ht : t < (mkArgs ar x).length
        · have e : (cargs ++ Array.replicate (fn.ntmps - cargs.size) undef).getD t undef = cargs.getD t undef := by
            rw [Array.getD_eq_getD_getElem?, Array.getElem?_append_left (by omega), Array.getD_eq_getD_getElem?]
          rw [e]; exact ha t ht
        · have : ∀ (l : List EV) (t : Nat), l.length ≤ t → nthE l t = .un := by
            intro l
            induction l with
            | nil => intro t _; rfl
            | cons a l ih => intro t ht; cases t with
              | zero => simp at ht
              | succ t => exact ih t (by simpa using ht)
          rw [this _ _ (Nat.le_of_not_lt ht)]
          simp only [toV]; exact trivial
      · show (cargs ++ Array.replicate (fn.ntmps - cargs.size) undef).size = fn.ntmps
        simp; omega
    have fin : ∀ e a w', (e = .ret ∨ e = .normal) → conc E (liftQ (fun e s => (e = .ret ∨ e = .normal) ∧ EndOk P fn os.length rv ro r s)) e a w' → ∃ st : St, a.defers = [] ∧ ∃ c, (results fn a.tmps).run P w' = .ok c w' ∧ ∃ ι' F', RelH E ι' F' (toH (mkH os.length ro r.2)) w' ∧ VRel (toH (mkH os.length ro r.2)) ι' F' w' (toV (mkH os.length ro r.2).len (mkE rv r.1)) c := fun e a w' he hc => by
      have : ∃ ι F st, Rel E ι F st a w' ∧ liftQ (fun e s => (e = .ret ∨ e = .normal) ∧ EndOk P fn os.length rv ro r s) e st := by
        rcases he with rfl | rfl <;> exact hc
      obtain ⟨ι, F, st, rr, s, rfl, _, ho⟩ := this
      obtain ⟨c, ι', F', k1, k2, k3⟩ := ho.out E ι F a w' rr
      exact ⟨toSt s, rr.defers, c, k1, ι', F', k2, k3⟩
    refine wp_mono (hs.out E ι F _ w r1) fun e a w' hc => ?_
    cases e with
    | ret =>
      obtain ⟨_, d, c, k1, ι', F', k2, k3⟩ := fin _ _ _ (.inl rfl) hc
      exact ⟨d, c, k1, mkE rv r.1, ι', F', mkH os.length ro r.2, c, rfl, k2, k3, rfl, rfl⟩
    | normal =>
      obtain ⟨_, d, c, k1, ι', F', k2, k3⟩ := fin _ _ _ (.inr rfl) hc
      exact ⟨d, c, k1, mkE rv r.1, ι', F', mkH os.length ro r.2, c, rfl, k2, k3, rfl, rfl⟩
    | exit id => obtain ⟨ι, F, st, r, s, rfl, h, _⟩ := hc; rcases h with h | h <;> cases h
    | goto l => obtain ⟨ι, F, st, r, s, rfl, h, _⟩ := hc; rcases h with h | h <;> cases h
    | panic c => exact hc.elim
    | outgrown => exact hc.elim
  · cases h
end
end
end Go.Abs


set_option linter.unusedVariables false
set_option linter.unusedSimpArgs false
set_option linter.unusedSectionVars false
namespace Go.Abs
open Go
noncomputable section
section
variable [SU] [Codes] {P : Program}
def mkCtr [Tys P] [TyE P] [TyX P] [Mixed P] (f : FuncId) [k : FnOk P f] (fn : Func) (hf : P.funcs[f]? = some fn) (T : List (Ctr P)) (a : Ann) (ar : List (Nat × Sh)) (os : List OSh) (rv : Sh) (ro : List OSh)
    (F : DT ar → DO os → Option (rv.D × DO ro)) (h : ∀ x y r, F x y = some r → runF T fn a ar os rv ro x y = some r) : Ctr P :=
  ⟨f, k, ar, os, rv, ro, F, fun x y r e => CT.of hf (h x y r e)⟩
end
section
variable {ρ α : Type}
theorem grd_of {b : Bool} {x : Option ρ} (h : b = true) : grd b x = x := by rw [h]; rfl
@[simp] theorem grd_true {x : Option ρ} : grd true x = x := rfl
theorem grd_dec {p : Prop} {x : Option ρ} (h : p) : grd (okB p) x = x := grd_of (okB_of h)
theorem grd_blt {a b : Nat} {x : Option ρ} (h : a < b) : grd (Nat.blt a b) x = x := grd_of (by simpa using h)
@[simp] theorem callB_some {y : α} {K : α → Option ρ} : callB (some y) K = K y := rfl
@[simp] theorem callB_grd {b : Bool} {x : Option α} {K : α → Option ρ} : callB (grd b x) K = grd b (callB x K) := by cases b <;> rfl
@[simp] theorem jpO_eq {f : α → Option ρ} {g : (α → Option ρ) → Option ρ} : jpO f g = g f := rfl
@[simp] theorem bif_decide {p : Prop} [Decidable p] {β : Type} {x y : β} : (bif decide p then x else y) = if p then x else y := by by_cases h : p <;> simp [h]
theorem bif_not {b : Bool} {β : Type} {x y : β} : (bif !b then x else y) = bif b then y else x := by cases b <;> rfl
theorem callB_of {x : Option α} {y : α} {K : α → Option ρ} {r : Option ρ} (h : x = some y) (k : K y = r) : callB x K = r := by rw [h]; exact k
section
variable {D X : Type} {f : D → Option (D ⊕ X)} {st : Nat → D}
theorem whileO_for {X0 : X} {y0 : D} (hy : y0 = st 0) (n : Nat) (G : Nat → Prop) (h0 : G 0) (hs : ∀ i, i < n → G i → (f (st i) = some (.inl (st (i + 1))) ∧ G (i + 1)) ∨ f (st i) = some (.inr X0)) (he : G n → f (st n) = some (.inr X0)) : whileO f y0 = some X0 := by
  subst hy
  have key : ∀ k i, i + k = n → G i → whileO f (st i) = some X0 := by
    intro k
    induction k with
    | zero => intro i hi hg; rw [whileO_eq, show i = n by omega, he (by rw [show n = i by omega]; exact hg)]
    | succ k ih =>
      intro i hi hg
      rw [whileO_eq]
      rcases hs i (by omega) hg with ⟨h1, h2⟩ | h1
      · rw [h1]; exact ih (i + 1) (by omega) h2
      · rw [h1]
  exact key n 0 (by omega) h0
theorem whileO_to {X0 : X} {y0 : D} (hy : y0 = st 0) (n : Nat) (h1 : ∀ i, i < n → f (st i) = some (.inl (st (i + 1)))) (h2 : f (st n) = some (.inr X0)) : whileO f y0 = some X0 :=
  whileO_for hy n (fun _ => True) trivial (fun i hi _ => .inl ⟨h1 i hi, trivial⟩) (fun _ => h2)
end
theorem grd_ok {p : Prop} {x : Option ρ} (h : p) : grd (okB p) x = x := grd_of (okB_of h)
theorem FE {run go : Option ρ} {s r : ρ} (hr : run = go) (ok : go = some s) (h : some s = some r) : run = some r := by rw [hr, ok, h]
theorem FO {p : Prop} {run go : Option ρ} {s r : ρ} (hr : run = go) (ok : p → go = some s) (h : grd (okB p) (some s) = some r) : run = some r := by
  cases hb : okB p with
  | false => rw [hb] at h; cases h
  | true =>
    rw [hb] at h
    rw [hr, ok (okB_out hb)]
    exact h
theorem lenVal : LEN = 281474976710656 := rfl
@[simp] theorem sumO_inl {A B : Type} {f : A → Option ρ} {g : B → Option ρ} {a : A} : sumO f g (.inl a) = f a := rfl
@[simp] theorem sumO_inr {A B : Type} {f : A → Option ρ} {g : B → Option ρ} {b : B} : sumO f g (.inr b) = g b := rfl
end
end
end Go.Abs

